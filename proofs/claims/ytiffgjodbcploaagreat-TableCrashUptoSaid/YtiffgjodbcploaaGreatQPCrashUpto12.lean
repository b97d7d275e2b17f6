/-
A table in memory; table.index, plain words.
-/
import Derived.Test.YtiffgjodbcploaaGreatQPCrashUpto11
section
namespace Go.Proofs.YtiffgjodbcploaaGreat
set_option maxRecDepth 100000
open Go.RowKit Go.BigFrame Go.Shelf
attribute [local go_sem ↓] Go.wp_at_zero Go.wp_at_succ
attribute [local go_sem] Oper.semAt_some
/-- the frame of a round of table.read. -/
abbrev rFrame (Tb k R b o n c b1 o1 nb c1 k2 g2 m2 c2 BO : Nat) (v : Value) : Array Value :=
  #[.pointer (some ⟨Tb, 0, none⟩), .int .i64 k, undef, undef, .pointer (some ⟨R, 0, none⟩), .pointer (some ⟨R + 1, 0, none⟩), .pointer (some ⟨R + 1 + 1, 0, none⟩), .slice (some ⟨b1, o1, none⟩) nb c1, .int .i64 k2, .int .i64 0, .slice (some ⟨g2, 0, none⟩) m2 c2, .pointer (some ⟨BO, 0, none⟩), v, undef, undef, undef, undef, undef, .tuple #[.slice (some ⟨b1, o1, none⟩) nb c1, .int .i64 k2, .int .i64 0], .pointer (some ⟨Tb, 0, none⟩), .pointer (some ⟨Tb, 0, none⟩), .pointer (some ⟨Tb, 0, none⟩), .slice (some ⟨b, o, none⟩) n c, .int .i64 k, .tuple #[.slice (some ⟨b1, o1, none⟩) nb c1, .int .i64 k2, .int .i64 0], .slice (some ⟨b1, o1, none⟩) nb c1, .int .i64 k2, .int .i64 0, .int .i64 0, .bool false, .tuple #[.slice (some ⟨g2, 0, none⟩) m2 c2, .int .i64 0], .slice (some ⟨b1, o1, none⟩) nb c1, .tuple #[.slice (some ⟨g2, 0, none⟩) m2 c2, .int .i64 0], .slice (some ⟨g2, 0, none⟩) m2 c2, .int .i64 0, .int .i64 0, .bool false, .bool false, .slice (some ⟨g2, 0, none⟩) m2 c2, .int .i64 m2, .bool false, .bool false, .bool false, .slice (some ⟨g2, 0, none⟩) m2 c2, .int .i64 m2, .int .i64 0, .bool false, .bool false, .slice (some ⟨g2, 0, none⟩) m2 c2, .func (.func 103) #[] #[.pointer (some ⟨BO + 1, 0, none⟩), .pointer (some ⟨BO + 1 + 1, 0, none⟩)], v, undef, undef, undef, undef, undef, undef, undef, undef, undef, undef, undef, undef, undef, undef, undef, undef, undef, undef, undef, undef, undef, undef, undef, undef, undef, undef, undef, undef, undef, undef, undef, undef, undef, undef, undef, undef, undef, undef, undef, undef, undef, undef, undef, undef, undef, undef, undef, undef, undef, undef, undef, undef, undef, undef, undef]
/-- what the rounds have gathered. -/
def CollE (n₀ lo : Nat) (part : List Ent) (w : World) (pre : List Nat) (T : Nat → Prop) (W : World) : Prop :=
  ∃ v ys, Grows 22 48 4 n₀ n₀ T v pre.length ys W ∧ EntCells W (fun i => (lo ≤ i ∧ ¬ T i) ∧ Loose W i) ys (part.take pre.length) ∧ fr w W ∧ pre.length ≤ part.length
def AxR (np : Nat) (fr0 : Value → Array Value) (g : Nat) (pre : List Nat) (_ : Nat → Prop) (x : Nat) (a : Act) (_ : World) : Prop := (x = pre.length ∧ x < np) ∧ a = { tmps := fr0 (twoV g x), defers := [] }
set_option maxRecDepth 100000 in
set_option maxHeartbeats 4000000 in
theorem tread_any (S : Nat → Prop) (Tb b o n c k : Nat) (bs rest : List UInt8) (part : List Ent) (w : World) (hc : w.cell? ⟨Tb, 0, none⟩ = some (.slice (some ⟨b, o, none⟩) n c)) (hv : Byt w S (.slice (some ⟨b, o, none⟩) n c) bs) (hn : bs.length = n) (hk : k ≤ n) (hd : bs.drop k = partF part ++ rest) (hp0 : 0 < part.length) (hp1 : part.length ≤ 1024) (hlow : bytesE part ≤ 1052872) (hg : GoodL part) :
    Calls Tryz.prog 70 #[.pointer (some ⟨Tb, 0, none⟩), .int .i64 k] w fun r w' => ∃ (v : Value) (ys : List Value) (T : Nat → Prop), r = .returned (.tuple #[v, .int .i64 (k + (partF part).length : Nat), .bool true]) ∧ w'.ownsRow w.heap.size 48 4 v part.length ys ∧ EntCells w' (fun i => (w.heap.size ≤ i ∧ ¬ T i) ∧ Loose w' i) ys part ∧ (∀ g, v.ownBlock = some g → T g) ∧ fr w w' := by
  obtain ⟨i0, hi, hz0, hz1, hz2⟩ := info_parts info26
  have hbl := build_le 0 part []
  have hb0 := buildGo_pos hp0
  obtain ⟨bb, hbb⟩ : ∃ q, buildGo [] (pairsF 0 part) = q := ⟨_, rfl⟩
  have hput := readF_put bb rest (by rw [← hbb]; omega)
  have hpe : partF part = putF bb := by unfold partF; rw [hbb]
  have hpl : (partF part).length = bb.length + 8 := by rw [hpe, putF_len]
  obtain ⟨np, hnp⟩ : ∃ q, part.length = q := ⟨_, rfl⟩
  obtain ⟨nb, hnb⟩ : ∃ q, bb.length = q := ⟨_, rfl⟩
  rw [hnb] at hpl hput
  rw [hbb, hnb] at hb0 hbl
  rw [hnp] at hp0 hp1 hbl
  obtain ⟨k2, hk2⟩ : ∃ q, k + (nb + 8) = q := ⟨_, rfl⟩
  rw [hpl, hk2]
  have HR : Hid (∀ wx, fr w wx → Calls Tryz.prog 68 #[.slice (some ⟨b, o, none⟩) n c, .int .i64 k] wx fun r w' => ∃ b1 o1 c1, r = .returned (.tuple #[.slice (some ⟨b1, o1, none⟩) nb c1, .int .i64 k2, .int .i64 0]) ∧ Byt w' (fun _ => True) (.slice (some ⟨b1, o1, none⟩) nb c1) bb ∧ fr wx w') := Lib.hid fun wx hx => by
    refine (fread_some S b o n c k bs wx (hv.below hx) hk hn).mono ?_
    rintro r w' ⟨v', p, q, e, h1, rfl, h2, h3⟩
    rw [hd, hpe, hput] at h1
    simp only [Prod.mk.injEq] at h1
    obtain ⟨rfl, rfl, rfl⟩ := h1
    obtain ⟨A1, c1, rfl⟩ := slice_form h2
    obtain ⟨b1, o1, rfl⟩ := Byt.some_of h2 (by omega)
    rw [hnb] at h2 ⊢
    exact ⟨b1, o1, c1, by rw [if_pos rfl, show k + (8 + nb) = k2 by omega], h2.byt.mono fun _ _ => trivial, h3⟩
  have HG := Lib.hid hg
  have HBB := Lib.hid hbb
  have HNB := Lib.hid hnb
  have HNP := Lib.hid hnp
  have fA : fr w (((w.alloc (.cells #[.slice none 0 0] 22)).alloc (.cells #[.int .i64 0] 3)).alloc (.cells #[.bool false] 4)) := fr.alloc (fr.alloc (fr.alloc fr.refl _) _) _
  have q0 := (((Boxed.new w 22 (.slice none 0 0)).alloc (.cells #[.int .i64 0] 3)).alloc (.cells #[.bool false] 4))
  have q1 := (Boxed.new (w.alloc (.cells #[.slice none 0 0] 22)) 3 (.int .i64 0)).alloc (.cells #[.bool false] 4)
  have q2 := Boxed.new ((w.alloc (.cells #[.slice none 0 0] 22)).alloc (.cells #[.int .i64 0] 3)) 4 (.bool false)
  simp only [World.size_alloc] at q1 q2
  have hcA := fr.cell fA hc
  clear hv hn hd hbb hput hpe hnb hnp hg hk hc hpl
  refine (callsIn_wide (n := 1)).1 ?_
  refine callsIn_of_wp_marks Tryz.func70 rfl trivial ?_
  simp only [Tryz.ntmps70, List.size_toArray, List.length_cons, List.length_nil, Nat.reduceAdd, Nat.reduceSub, Array.replicate_succ, Array.replicate_zero, List.push_toArray, List.append_toArray, List.nil_append, List.cons_append]
  refine wpIn_wide.2 ?_
  go_upto_region 5 with (first
    | (go_at_call 68; refine (HR.out _ fA).mono ?_; rintro r w1 ⟨b1, o1, c1, rfl, hb1, f1⟩)
    | (go_at_call 91; refine (bread_any _ b1 o1 nb c1 (pairsF 0 part) w1 (by rw [HBB.out]; exact hb1) (by rw [HBB.out, HNB.out]) (by omega) (pairsF_short 0 part HG.out) (pairsF_asc0 (by rw [HNP.out]; omega)) (by rw [pairsF_len, HNP.out]; omega)).mono ?_; rintro r w2 ⟨v2, ys2, T2, rfl, hr2, hp2, hT2, f2⟩; rw [pairsF_len, HNP.out] at hr2; obtain ⟨g2, c2, rfl⟩ : ∃ g cap, v2 = .slice (some ⟨g, 0, none⟩) (2 * np) cap := by (have h := hr2; rw [show 2 * np = (2 * np - 1) + 1 by omega] at h ⊢; exact ownsRow_succ h)))
  obtain ⟨m2, hm2⟩ : ∃ q, 2 * np = q := ⟨_, rfl⟩
  rw [hm2] at hr2 ⊢
  have hb2 : ((m2 : Int) == 0) = false := by simp; omega
  have hb3 : (m2 : Int) % 2 = 0 := by omega
  have f02 : fr w w2 := fr.step (fr.step fA f1) f2
  have hrlt : ∀ g, (Value.slice (some ⟨g2, 0, none⟩) m2 c2).ownBlock = some g → g = g2 := fun g hg => by simpa [Value.ownBlock] using hg.symm
  have hg2 : w1.heap.size ≤ g2 ∧ g2 < w2.heap.size ∧ m2 ≤ c2 ∧ c2 ≤ 9223372036854775807 := by
    rcases hr2.2 with ⟨h, h0⟩ | ⟨g, cap, cur, h, hb, hh, hcp, hcm, _⟩
    · omega
    · simp only [Value.slice.injEq, Option.some.injEq] at h
      obtain ⟨h, _, rfl⟩ := h
      injection h with h
      subst h
      exact ⟨hb, (Array.getElem?_eq_some_iff.1 hh).1, hcp, by unfold maxLen at hcm; omega⟩
  have hR2 := Lib.hid hr2
  have hP2 := Lib.hid hp2
  have hQ0 := Lib.hid (boxedFr (boxedFr q0 f1) f2)
  have hQ1 := Lib.hid (boxedFr (boxedFr q1 f1) f2)
  have hQ2 := Lib.hid (boxedFr (boxedFr q2 f1) f2)
  have HF02 := Lib.hid f02
  have HF12 := Lib.hid (fr.step fA f1)
  have HM2 := Lib.hid hm2
  have HT2 := Lib.hid hT2
  obtain ⟨hg21, hg22, hmc, hcm⟩ := hg2
  clear hr2 hp2 hT2 f02 q0 q1 q2 f1 f2 fA hb1 HR hcA hrlt hm2
  go_wp2_with (go_at_call 92; refine (chunk_any g2 m2 c2 _).mono ?_; rintro r w3 ⟨rfl, b31, b32, f3⟩)
  simp only [World.size_alloc] at b31 b32 f3 ⊢
  have hal2 : fr w2 (w2.alloc (.cells #[.slice none 0 0] 22)) := fr.alloc fr.refl _
  have f23 : fr w2 w3 := fr.step hal2 f3
  have bO := boxedFr (Boxed.new w2 22 (.slice none 0 0)) f3
  have hz3 : w2.heap.size + 3 ≤ w3.heap.size := b32.lt
  obtain ⟨BO, hBO⟩ : ∃ q, w2.heap.size = q := ⟨_, rfl⟩
  rw [hBO] at b31 b32 bO hz3 hg22 ⊢
  have hti := chunk_tells 0 w3 (BO + 1) g2 np c2 (by rw [HM2.out]; exact b31) b32 (by omega) (by rw [HM2.out]; exact hmc) hcm
  have HTI := Lib.hid hti
  have HBO := Lib.hid hBO
  have HO := Lib.hid bO
  have HF23 := Lib.hid f23
  clear hti hBO bO f23 hal2 f3 b31 b32
  refine (wpIn_wide (n := 1)).1 ?_
  refine range_tells rfl (by omega) (gf := 103) (lb := #[.pointer (some ⟨BO + 1, 0, none⟩), .pointer (some ⟨BO + 1 + 1, 0, none⟩)]) rfl trivial (enters_of Tryz.func103 (by kernel_rfl) rfl) HTI.out
    (fun i h => by omega) (fun i h => h.elim) (fun _ _ _ _ _ _ h => h) (fun _ _ _ h _ => h) (fun _ _ _ h _ => h) (fun _ => rfl)
    (CollE BO w.heap.size part w2) (fun _ _ _ _ => False) ?still (fun _ _ _ _ _ h => h.elim) (fun i => i = BO) (fun i hi => ⟨by omega, by omega⟩) ⟨.slice none 0 0, [], ⟨HO.out, World.ownsRow_nil _ _ _ _, fun i => by simp [Value.ownBlock]⟩, (show EntCells w3 _ [] [] from trivial), HF23.out, Nat.zero_le _⟩
    (AxR np (fun v => rFrame Tb k w.heap.size b o n c b1 o1 nb c1 k2 g2 m2 c2 BO v) g2) (fun _ _ _ _ _ _ h _ => h) ?assign ?body ?done (fun _ _ _ _ _ _ _ _ h => h.elim) ?lt (fun _ _ _ _ _ h => h.elim)
  case still =>
    rintro pre T A B ⟨v, ys, h1, h2, h3, h4⟩ hi'
    refine ⟨v, ys, h1.idle hi' (fun _ h => h.elim) (Nat.le_refl _), EntCells.imp h2 fun _ _ h => h.idle hi' (fun _ _ h => h), ?_, h4⟩
    exact ⟨hi'.os.trans h3.os, hi'.tape.trans h3.tape, hi'.output.trans h3.output, Nat.le_trans h3.size hi'.size, fun i hlt => (hi'.block i (Nat.lt_of_lt_of_le hlt h3.size) fun hk => by have := HBO.out; rcases hk with hk | hk; exact hk; omega).trans (h3.block i hlt)⟩
  case lt =>
    rintro pre T W i ⟨v, ys, h1, _⟩ hT
    exact h1.lt hT
  case assign =>
    rintro l pre T y W K hi' hok hK
    unfold twoV
    have HOK := Lib.hid hok
    clear hok
    gi_wp2
    exact hK _ _ fr.refl hi' ⟨HOK.out, rfl⟩
  case body =>
    rintro l pre T j a' sA W hl hlA hrec hTs hsA ⟨v, ys, hgr, hec, hf, hpl⟩ ⟨⟨hj1, hj2⟩, rfl⟩
    subst hj1
    obtain ⟨j, hj⟩ : ∃ j, pre.length = j := ⟨_, rfl⟩
    rw [hj] at hgr hec hpl hj2 ⊢
    obtain ⟨e, he⟩ : ∃ e, part[j]? = some e := ⟨_, List.getElem?_eq_getElem (by rw [HNP.out]; exact hj2)⟩
    obtain ⟨p1, p2⟩ := pairsF_at 0 part j e he
    obtain ⟨k0, u0, _, y1, _, r0⟩ := hP2.out.at_ p1
    obtain ⟨k1, u1, _, y2, _, r1⟩ := hP2.out.at_ p2
    have hcells : ∀ i u, ys2[i]? = some u → W.cell? ⟨g2, i, none⟩ = some u := fun i u hu => by
      have h := hR2.out.cells (g := g2) rfl i u hu
      rw [Addr.add_lit, Nat.zero_add] at h
      exact fr.cell hf h
    obtain ⟨q, hq⟩ : ∃ q, 4 * j = q := ⟨_, rfl⟩
    have d1 := hcells _ _ y1
    have d2 := hcells _ _ y2
    rw [show 2 * (2 * j) + 1 = q + 1 by omega] at d1
    rw [show 2 * (2 * j + 1) + 1 = q + 2 + 1 by omega] at d2
    have hge := goodE_is (HG.out e (List.mem_of_getElem? he))
    obtain ⟨hk0, hk200, hs0, hs40, hv4, hdv⟩ := hge
    obtain ⟨seq, hseq⟩ : ∃ q : Nat, e.seq = q := ⟨e.seq.toNat, by omega⟩
    rw [hseq] at hs0 hs40
    have hst : e.seq.toNat = seq := by rw [hseq]; simp
    simp only [hst] at r0
    simp only at r1
    obtain ⟨A0, c0, rfl⟩ := slice_form r0
    obtain ⟨b0, o0, rfl⟩ := Byt.some_of r0 (by unfold headV; simp only [List.length_append]; omega)
    obtain ⟨A1, c1', rfl⟩ := slice_form r1
    obtain ⟨N, hN⟩ : ∃ N, (2 * seq + if e.dead then 1 else 0) = N := ⟨_, rfl⟩
    have hNb : N < 18446744073709551616 := by rw [← hN]; split <;> omega
    have hsh : (N : Int) / 2 = (seq : Int) := by rw [← hN]; split <;> omega
    have hw64 : IntKind.i64.wrap (seq : Int) = (seq : Int) := IntWalk.i64_in _ (by omega)
    have hhv : headV e seq = formN e.key.length ++ e.key ++ formN N := by unfold headV; rw [hN]
    obtain ⟨nk, hnk⟩ : ∃ q, e.key.length = q := ⟨_, rfl⟩
    obtain ⟨nv, hnv⟩ : ∃ q, e.val.length = q := ⟨_, rfl⟩
    obtain ⟨nh, hnh⟩ : ∃ q, (headV e seq).length = q := ⟨_, rfl⟩
    obtain ⟨fk, hfk⟩ : ∃ q, (formN nk).length = q := ⟨_, rfl⟩
    obtain ⟨q1, hq1⟩ : ∃ q, 0 + fk + nk = q := ⟨_, rfl⟩
    have hnhe : nh = q1 + (formN N).length := by rw [← hnh, hhv, List.length_append, List.length_append, hnk, hfk]; omega
    have hfkb := formN_len nk
    have hfNb := formN_len N
    rw [hfk] at hfkb
    rw [hnk] at hk0 hk200
    rw [hnv] at hv4 hdv
    rw [hnh] at r0 d1
    rw [hnv] at r1 d2
    have VB : Hid (Calls Tryz.prog 93 #[.slice (some ⟨b0, o0, none⟩) nh c0, .int .i64 0, .int .i64 200] W fun r w' => ∃ Ak ck, r = .returned (.tuple #[.slice Ak nk ck, .int .i64 q1, .int .i64 0]) ∧ BytL w' W.heap.size (.slice Ak nk ck) e.key ∧ fr W w') := Lib.hid (by
      refine (vbytes_any _ b0 o0 nh c0 0 200 (headV e seq) e.key (formN N) W (r0.below hf) hnh (Nat.zero_le _) (by rw [List.drop_zero, hhv]) (by omega) (by omega) (by omega)).mono ?_
      rintro r w' ⟨v', rfl, h1, h2⟩
      obtain ⟨Ak, ck, rfl⟩ := slice_form h1
      rw [hnk] at h1 ⊢
      exact ⟨Ak, ck, by rw [hfk, hq1], h1, h2⟩)
    have UI : Hid (∀ wx, fr W wx → Calls Tryz.prog 69 #[.slice (some ⟨b0, o0, none⟩) nh c0, .int .i64 q1] wx fun r w' => r = .returned (.tuple #[.int .u64 N, .int .i64 nh, .int .i64 0]) ∧ w' = wx) := Lib.hid fun wx hx => by
      refine (uint_any _ b0 o0 nh c0 q1 N (headV e seq) [] wx ((r0.below hf).below hx) hnh (by omega) ?_ hNb).mono ?_
      · rw [hhv, List.append_nil, List.drop_left' (by rw [List.length_append, hnk, hfk]; omega)]
      · rintro r w' ⟨rfl, h⟩
        exact ⟨by rw [hnhe], h⟩
    have R1 : Hid (Byt W (fun i => (w.heap.size ≤ i ∧ i < BO) ∧ Loose W i) (.slice A1 nv c1') e.val) := Lib.hid (Byt.idle (Z := fun _ => False) (base := 0) (R := fun i => w.heap.size ≤ i ∧ i < BO) (Byt.mono r1 fun i hi => ⟨⟨by have := hi.1.1; have := HF12.out.size; omega, by have := hi.2.lt; have := HBO.out; omega⟩, hi.2⟩) (Idle.of_below hf) fun _ _ h => h)
    have HE := Lib.hid he
    have HNK := Lib.hid hnk
    have HNV := Lib.hid hnv
    have HSEQ := Lib.hid hseq
    have HGR := Lib.hid hgr
    have HEC := Lib.hid hec
    have HF := Lib.hid hf
    have HJ := Lib.hid hj
    have HGE : Hid (goodE e = true) := Lib.hid (HG.out e (List.mem_of_getElem? he))
    have hcO := hgr.box.cell
    have hlB := hgr.box.lt
    have hrow := hgr.row
    obtain ⟨Ao, co, rfl⟩ := own_form hrow
    have hWz : BO ≤ W.heap.size := by have := hf.size; have := HBO.out; omega
    have HTL : Hid (∀ i, T i → i < W.heap.size) := Lib.hid fun i hi => hgr.lt hi
    have HT2s : Hid (∀ i, T i → BO ≤ i) := Lib.hid fun i hi => by
      rcases (hgr.set i).1 hi with rfl | h
      · exact Nat.le_refl _
      · exact (hgr.blk h).1
    have hsAB : BO ≤ sA := by omega
    unfold twoV rFrame
    rw [hq]
    clear hq hhv hnk hnv hnh hfk hq1 hnhe hfkb hfNb r0 r1 he hseq hgr hec hf hj hst p1 p2 y1 y2 hcells hTs hrec hl hlA
    rcases hdd : e.dead with _ | _
    all_goals
      simp only [hdd, if_true, if_false, Bool.false_eq_true] at hN
      have hand := and1 hNb
      first
        | rw [show N % 2 = 0 by omega] at hand
        | rw [show N % 2 = 1 by omega] at hand
      have HDD := Lib.hid hdd
      clear hN hdd
      gi_wp2_with (first
        | (refine ⟨trivial, rfl, ?_⟩; gi_at_call 93; refine (CallsIn.inRound l (callsIn_wide.2 VB.out)).mono ?_; rintro r w4 ⟨Ak, ck, rfl, hk4, f4⟩; have d1 := fr.cell f4 d1; have d2 := fr.cell f4 d2; have hz4 := Below.size f4; have hn4 : ¬ w4.heap.size = g2 := (by omega); have hn5 : ¬ g2 = w4.heap.size := (by omega); have hn6 : ¬ w4.heap.size = BO := (by omega); have hn7 : ¬ BO = w4.heap.size := (by omega); have hcO4 := fr.cell f4 hcO; have d3 := fun ob => fr.cell (fr.alloc (fr.refl (W := w4)) ob) d1)
        | (refine ⟨trivial, rfl, ?_⟩; gi_at_call 69; refine (CallsIn.inRound l (callsIn_wide.2 (UI.out w4 f4))).mono ?_; rintro r w5 ⟨rfl, hw5⟩; have hw5' : w4 = w5 := hw5.symm; subst hw5')
        | (refine ⟨trivial, rfl, ?_⟩; gi_at_call 50; refine (CallsIn.inRound l (callsIn_wide.2 (good_any (fun _ => True) _ e _ ⟨_, _, (by rw [HSEQ.out, HDD.out]), (hk4.byt.below (fr.alloc fr.refl _)).mono fun _ _ => trivial, ((R1.out.below f4).below (fr.alloc fr.refl _)).mono fun _ _ => trivial⟩))).mono ?_; rintro r w6 ⟨rfl, f6⟩; rw [HGE.out]; have hP6 := fr.hp f6 (heap_alloc_new w4 _); have x0 := cell_of_row w6 _ 0 _ _ _ hP6; have x1 := cell_of_row w6 _ 1 _ _ _ hP6; have x2 := cell_of_row w6 _ 2 _ _ _ hP6; have x3 := cell_of_row w6 _ 3 _ _ _ hP6; have f46 : fr W w6 := fr.step (fr.alloc f4 _) f6; have hg6 := HGR.out.below f46; have hcO6 := hg6.box.cell; have hzO6 := hg6.box.frozen; have hrow6 := hg6.row; have hz6 := Below.size f46)
        | (gi_at_builtin; refine wpListIn_append_at _ rfl _ _ 22 rfl BO 48 i0 _ 4 64 Tryz.underlying22 hi hz0 hz1 hz2 rfl (by decide) _ _ _ rfl (hrow6.alloc _) ⟨w6.heap.size, 0, none⟩ 1 1 [.slice Ak nk ck, .int .i64 seq, .bool _, .slice A1 nv c1'] rfl rfl (cell_four_new _ _ _ _ _ _) (by simp [Value.oneCell']) (by unfold maxLen; omega) (by omega) (by simp; omega) ?_; intro v' w7 hown' hgrow hat; obtain ⟨g', cap', rfl⟩ := ownsRow_succ hown'; obtain ⟨hv1, hg7, hgT, ho2⟩ := hg6.push (by decide) (Nat.le_refl _) (by omega) (Nat.le_refl _) hown' hgrow hat; have hc1 := hv1.cell; have hf1 := hv1.frozen))
      have ho6 := Only.of_below (S := fun i => T i ∨ sA ≤ i) f46
      have ho8 := ho6.trans (Only.mono ho2 fun i h => h.imp id fun h => by omega)
      refine ⟨_, fun i h => (hgT i h).imp id fun h => by omega, ho8, _, _, by rw [List.length_append, HJ.out]; exact hg7, ?_, ?_, ?_⟩
      · rw [List.length_append, HJ.out, List.length_singleton, take_snoc HE.out]
        have fix : ∀ {v bs}, Byt w6 (fun i => (w.heap.size ≤ i ∧ ¬ T i) ∧ Loose w6 i) v bs → Byt (w7.setCell ⟨BO, 0, none⟩ (.slice (some ⟨g', 0, none⟩) (j + 1) cap')) (fun i => (w.heap.size ≤ i ∧ ¬ (i = BO ∨ (Value.slice (some ⟨g', 0, none⟩) (j + 1) cap').ownBlock = some i)) ∧ Loose (w7.setCell ⟨BO, 0, none⟩ (.slice (some ⟨g', 0, none⟩) (j + 1) cap')) i) v bs := fun h => h.grewT hgT ho2
        have hww := HF12.out.size
        have hw12 := HBO.out
        have hsW := HF.out.size
        have hw02 := HF02.out.size
        refine EntCells.append (EntCells.imp HEC.out fun v bs h => fix (h.idle (Z := fun _ => False) (base := 0) (Idle.of_below f46) fun _ _ h => h)) ?_
        have hk6 : Byt w6 (fun i => (w.heap.size ≤ i ∧ ¬ T i) ∧ Loose w6 i) (.slice Ak nk ck) e.key := Byt.idle (Z := fun _ => False) (base := 0) (R := fun i => w.heap.size ≤ i ∧ ¬ T i) (Byt.mono (S := fun i => W.heap.size ≤ i ∧ Loose w4 i) hk4 fun i hi => ⟨⟨by omega, fun h => by have := HTL.out i h; omega⟩, hi.2⟩) (Idle.of_below (fr.step (fr.alloc fr.refl _) f6)) fun _ _ h => h
        have hu6 : Byt w6 (fun i => (w.heap.size ≤ i ∧ ¬ T i) ∧ Loose w6 i) (.slice A1 nv c1') e.val := Byt.idle (Z := fun _ => False) (base := 0) (R := fun i => w.heap.size ≤ i ∧ ¬ T i) (R1.out.mono fun i hi => ⟨⟨hi.1.1, fun h => by have := HT2s.out i h; have := hi.1.2; omega⟩, hi.2⟩) (Idle.of_below f46) fun _ _ h => h
        have h := EntCells.one (e := e) (fix hk6) (fix hu6)
        rw [HSEQ.out, HDD.out] at h
        exact h
      · have hf := HF.out
        exact ⟨ho8.os.trans hf.os, ho8.tape.trans hf.tape, ho8.output.trans hf.output, Nat.le_trans hf.size ho8.size, fun i h1 => (ho8.block i (Nat.lt_of_lt_of_le h1 hf.size) (fun h => by have := HBO.out; have := hf.size; rcases h with h | h; have := HT2s.out i h; omega; omega)).trans (hf.block i h1)⟩
      · rw [List.length_append, HJ.out, HNP.out]
        simp
        omega
  case done =>
    rintro D' xs T W hD' hTs rfl ⟨v, ys, hgr, hec, hf, hpl⟩ hK
    obtain ⟨A, c', rfl⟩ := own_form hgr.row
    have hcO := hgr.box.cell
    have hQ0' := boxedFr hQ0.out hf
    have hQ1' := boxedFr hQ1.out hf
    have hQ2' := boxedFr hQ2.out hf
    have HGR := Lib.hid hgr
    have HEC := Lib.hid hec
    have HF := Lib.hid hf
    have HK := Lib.hid hK
    have e0 := hQ0'.cell
    have e1 := hQ1'.cell
    have e2 := hQ2'.cell
    have z0 := hQ0'.frozen
    have z1 := hQ1'.frozen
    have z2 := hQ2'.frozen
    clear hgr hec hf hK hQ0' hQ1' hQ2' hTs hpl
    have HQ0' := Lib.hid (boxedFr hQ0.out HF.out)
    have HQ1' := Lib.hid (boxedFr hQ1.out HF.out)
    have HQ2' := Lib.hid (boxedFr hQ2.out HF.out)
    rw [List.length_range] at HGR HEC
    rw [List.length_range] at *
    go_wp2
    obtain ⟨W', hW'⟩ : ∃ x, ((W.setCell ⟨w.heap.size, 0, none⟩ (.slice A np c')).setCell ⟨w.heap.size + 1, 0, none⟩ (.int .i64 k2)).setCell ⟨w.heap.size + 1 + 1, 0, none⟩ (.bool true) = x := ⟨_, rfl⟩
    have hK := HK.out
    have hwBO := HF02.out.size
    have hb := HBO.out
    have o3 : Only (fun i => i = w.heap.size ∨ i = w.heap.size + 1 ∨ i = w.heap.size + 1 + 1) W W' := by
      rw [← hW']
      exact Only.setCell (S := fun i => i = w.heap.size ∨ i = w.heap.size + 1 ∨ i = w.heap.size + 1 + 1) (Only.setCell (S := fun i => i = w.heap.size ∨ i = w.heap.size + 1 ∨ i = w.heap.size + 1 + 1) (Only.setCell (S := fun i => i = w.heap.size ∨ i = w.heap.size + 1 ∨ i = w.heap.size + 1 + 1) (Only.refl _ _) (p := ⟨w.heap.size, 0, none⟩) (.inl rfl) _) (p := ⟨w.heap.size + 1, 0, none⟩) (.inr (.inl rfl)) _) (p := ⟨w.heap.size + 1 + 1, 0, none⟩) (.inr (.inr rfl)) _
    have r0 : Boxed W' w.heap.size 22 (.slice A np c') := by rw [← hW']; exact ((HQ0'.out.set _).other (by omega) _).other (by omega) _
    have r1 : Boxed W' (w.heap.size + 1) 3 (.int .i64 k2) := by rw [← hW']; exact ((HQ1'.out.other (by omega) _).set _).other (by omega) _
    have r2 : Boxed W' (w.heap.size + 1 + 1) 4 (.bool true) := by rw [← hW']; exact ((HQ2'.out.other (by omega) _).other (by omega) _).set _
    have hq2 := hQ2.out.lt
    have k1 : W'.heap[D']? = some (.deferred (some [])) := (o3.block D' (Array.getElem?_eq_some_iff.1 hK).1 (by omega)).trans hK
    have o4 : Only (fun i => i = D') W' (W'.putObj D' (.deferred none)) := ⟨rfl, rfl, rfl, by simp, fun i _ hi => World.putObj_heap_other hi⟩
    have s0 := (boxedOnly r0 o4 (by omega)).cell
    have s1 := (boxedOnly r1 o4 (by omega)).cell
    have s2 := (boxedOnly r2 o4 (by omega)).cell
    have o5 : Only (fun i => i = w.heap.size ∨ i = w.heap.size + 1 ∨ i = w.heap.size + 1 + 1 ∨ i = D') W (W'.putObj D' (.deferred none)) := Only.trans (Only.mono o3 fun i h => by omega) (Only.mono o4 fun i h => by omega)
    have hno : ∀ i, Loose W i → ¬ (i = w.heap.size ∨ i = w.heap.size + 1 ∨ i = w.heap.size + 1 + 1 ∨ i = D') := fun i hl h => by
      obtain ⟨cs, hl⟩ := hl
      rcases h with rfl | rfl | rfl | rfl
      · have := hl.symm.trans HQ0'.out; injection this with this; injection this with _ this; exact absurd this (by decide)
      · have := hl.symm.trans HQ1'.out; injection this with this; injection this with _ this; exact absurd this (by decide)
      · have := hl.symm.trans HQ2'.out; injection this with this; injection this with _ this; exact absurd this (by decide)
      · have := hl.symm.trans hK; injection this with this; cases this
    rw [hW']
    refine ⟨by simp, .inl ⟨_, _, rfl, run_takeDeferred k1, ?_⟩⟩
    refine ⟨.tuple #[.slice A np c', .int .i64 k2, .bool true], by simp [results, Tryz.results70, go_sem, s0, s1, s2], .slice A np c', ys, T, rfl, ?_, ?_, fun g hg => (HGR.out.set g).2 (.inr hg), ?_⟩
    · rw [HNP.out]
      refine World.ownsRow.mono (own_only HGR.out.row o5 fun g hg h => ?_) (by omega)
      obtain ⟨h1, h2, cur, h3⟩ := HGR.out.blk hg
      rcases h with h | h | h | rfl
      · omega
      · omega
      · omega
      · rw [hK] at h3
        cases h3
    · have htk : part.take np = part := List.take_of_length_le (by rw [HNP.out]; exact Nat.le_refl _)
      rw [htk] at HEC
      exact EntCells.imp HEC.out fun v bs h => Byt.mono (S := fun i => (w.heap.size ≤ i ∧ ¬ T i) ∧ Loose W i) (Byt.only h o5 fun i _ hi => hno i hi.2) fun i hi => ⟨hi.1, hi.2.only o5 (hno i hi.2)⟩
    · have h1 := HF02.out
      have h2 := HF.out
      exact ⟨o5.os.trans (h2.os.trans h1.os), o5.tape.trans (h2.tape.trans h1.tape), o5.output.trans (h2.output.trans h1.output), Nat.le_trans h1.size (Nat.le_trans h2.size o5.size), fun i hi => (o5.block i (by have := h2.size; omega) (by omega)).trans ((h2.block i (by omega)).trans (h1.block i hi))⟩
end Go.Proofs.YtiffgjodbcploaaGreat
end
section
namespace Go.Proofs.YtiffgjodbcploaaGreat
set_option maxRecDepth 100000
open Go.RowKit Go.BigFrame Go.Shelf
abbrev before (a b : Ent) : Prop := cmpE a b < 0
theorem orderedFrom_iff (l : List Ent) : ∀ p : Option Ent, orderedFrom p l = true ↔ (∀ e ∈ l, goodE e = true) ∧ l.Pairwise before ∧ ∀ q, p = some q → ∀ e ∈ l, cmpE q e < 0 := by
  induction l with
  | nil => intro p; cases p <;> simp [orderedFrom]
  | cons e l ih =>
    intro p
    have h := ih (some e)
    cases p with
    | none =>
      simp only [orderedFrom, Bool.and_eq_true, h, List.pairwise_cons, List.mem_cons, forall_eq_or_imp]
      constructor
      · rintro ⟨g, g', pw, lt⟩
        exact ⟨⟨g, g'⟩, ⟨lt e rfl, pw⟩, fun q hq => by cases hq⟩
      · rintro ⟨⟨g, g'⟩, ⟨lt, pw⟩, _⟩
        exact ⟨g, g', pw, fun q hq => by cases hq; exact lt⟩
    | some p =>
      simp only [orderedFrom, Bool.and_eq_true, decide_eq_true_eq, h, List.pairwise_cons, List.mem_cons, forall_eq_or_imp]
      constructor
      · rintro ⟨g, hp, g', pw, lt⟩
        exact ⟨⟨g, g'⟩, ⟨lt e rfl, pw⟩, fun q hq => by cases hq; exact ⟨hp, fun x hx => cmpE_trans hp (lt e rfl x hx)⟩⟩
      · rintro ⟨⟨g, g'⟩, ⟨lt, pw⟩, hq⟩
        exact ⟨g, (hq p rfl).1, g', pw, fun q hq => by cases hq; exact lt⟩
theorem ordered_iff (l : List Ent) : orderedE l = true ↔ (∀ e ∈ l, goodE e = true) ∧ l.Pairwise before := by
  rw [orderedE, orderedFrom_iff]
  constructor
  · rintro ⟨a, b, _⟩; exact ⟨a, b⟩
  · rintro ⟨a, b⟩; exact ⟨a, b, fun q hq => by cases hq⟩
/-- where a part begins. -/
def offF (n : Nat) (ps : List (List Ent)) (m : Nat) : Nat := (putF (formN n) ++ ((ps.take m).map partF).flatten).length
theorem offF_drop (n : Nat) (ps : List (List Ent)) (m : Nat) : (fileF n ps).drop (offF n ps m) = ((ps.drop m).map partF).flatten := by
  unfold fileF offF
  have e : (ps.map partF).flatten = ((ps.take m).map partF).flatten ++ ((ps.drop m).map partF).flatten := by
    rw [← List.flatten_append, ← List.map_append, List.take_append_drop]
  rw [e, ← List.append_assoc, List.drop_left]
theorem offF_at {n : Nat} {ps : List (List Ent)} {m : Nat} {p : List Ent} (h : ps[m]? = some p) : (fileF n ps).drop (offF n ps m) = partF p ++ ((ps.drop (m + 1)).map partF).flatten ∧ offF n ps (m + 1) = offF n ps m + (partF p).length := by
  obtain ⟨hm, he⟩ := List.getElem?_eq_some_iff.1 h
  refine ⟨?_, ?_⟩
  · rw [offF_drop, List.drop_eq_getElem_cons hm, he]
    rfl
  · unfold offF
    rw [take_snoc h, List.map_append, List.flatten_append]
    simp
    omega
theorem offF_all (n : Nat) (ps : List (List Ent)) : offF n ps ps.length = (fileF n ps).length := by unfold offF fileF; rw [List.take_length]
theorem offF_le (n : Nat) (ps : List (List Ent)) (m : Nat) : offF n ps m ≤ (fileF n ps).length := by
  have := congrArg List.length (offF_drop n ps m)
  unfold fileF offF
  rw [List.length_append, List.length_append]
  have e : (ps.map partF).flatten = ((ps.take m).map partF).flatten ++ ((ps.drop m).map partF).flatten := by
    rw [← List.flatten_append, ← List.map_append, List.take_append_drop]
  rw [e, List.length_append]
  omega
theorem flat_at2 {ps : List (List Ent)} {m j : Nat} {p : List Ent} {e : Ent} (h : ps[m]? = some p) (hj : p[j]? = some e) : ps.flatten[(ps.take m).flatten.length + j]? = some e := by
  obtain ⟨hm, he⟩ := List.getElem?_eq_some_iff.1 h
  have hl := (List.getElem?_eq_some_iff.1 hj).1
  have e1 : ps.flatten = (ps.take m).flatten ++ (p ++ (ps.drop (m + 1)).flatten) := by
    conv => lhs; rw [← List.take_append_drop m ps, List.drop_eq_getElem_cons hm, he]
    simp
  rw [e1, List.getElem?_append_right (by omega), Nat.add_sub_cancel_left, List.getElem?_append_left hl, hj]
theorem take_flat_len {ps : List (List Ent)} {m : Nat} {p : List Ent} (h : ps[m]? = some p) : (ps.take (m + 1)).flatten.length = (ps.take m).flatten.length + p.length := by
  rw [take_snoc h, List.flatten_append]
  simp
/-- the pieces' cells, five each: where a part begins; the first entry's key. -/
def PcAt (w : World) (lo n : Nat) (ps : List (List Ent)) (m : Nat) (ys : List Value) : Prop :=
  ∀ (i : Nat) (p : List Ent) (e : Ent), i < m → ps[i]? = some p → p[0]? = some e → ys[5 * i]? = some (.int .i64 (offF n ps i : Nat)) ∧ ∃ k, ys[5 * i + 1]? = some k ∧ BytL w lo k e.key
theorem PcAt.only {w w' : World} {lo n m : Nat} {ps : List (List Ent)} {ys : List Value} {S : Nat → Prop} (h : PcAt w lo n ps m ys) (ho : Only S w w') (hd : ∀ i, Loose w i → ¬ S i) : PcAt w' lo n ps m ys := fun i p e hi hp he => by
  obtain ⟨h1, k, h2, h3⟩ := h i p e hi hp he
  exact ⟨h1, k, h2, h3.only ho fun i _ hl => hd i hl⟩
theorem PcAt.snoc {w : World} {lo n m : Nat} {ps : List (List Ent)} {ys : List Value} {p : List Ent} {e : Ent} {k s d u : Value} (h : PcAt w lo n ps m ys) (hl : ys.length = m * 5) (hp : ps[m]? = some p) (he : p[0]? = some e) (hk : BytL w lo k e.key) :
    PcAt w lo n ps (m + 1) (ys ++ [.int .i64 (offF n ps m : Nat), k, s, d, u]) := fun i p' e' hi hp' he' => by
  by_cases him : i < m
  · obtain ⟨h1, k', h2, h3⟩ := h i p' e' him hp' he'
    exact ⟨by rw [List.getElem?_append_left (by omega)]; exact h1, k', by rw [List.getElem?_append_left (by omega)]; exact h2, h3⟩
  · obtain rfl : i = m := by omega
    rw [hp] at hp'
    injection hp' with hp'
    subst hp'
    rw [he] at he'
    injection he' with he'
    subst he'
    refine ⟨?_, k, ?_, hk⟩
    · rw [List.getElem?_append_right (by omega), hl, show 5 * i - i * 5 = 0 by omega]
      rfl
    · rw [List.getElem?_append_right (by omega), hl, show 5 * i + 1 - i * 5 = 1 by omega]
      rfl
/-- an opened table. -/
def TabV (w : World) (lo Tb N : Nat) (es : List Ent) (ps : List (List Ent)) : Prop :=
  ∃ b o n c gp pc A ll lc ys, w.heap[Tb]? = some (.cells #[.slice (some ⟨b, o, none⟩) n c, .slice (some ⟨gp, 0, none⟩) ps.length pc, .int .i64 N, .slice A ll lc] 95 (0, 0)) ∧ n = (fileF N ps).length ∧ BytL w lo (.slice (some ⟨b, o, none⟩) n c) (fileF N ps) ∧
    w.ownsRow lo 100 5 (.slice (some ⟨gp, 0, none⟩) ps.length pc) ps.length ys ∧ PcAt w lo N ps ps.length ys ∧ (∀ e, es[N - 1]? = some e → BytL w lo (.slice A ll lc) e.key) ∧ lo ≤ Tb
theorem infoP : (Tryz.prog.info? 100).map (fun i => (i.zero, i.size, i.bytes)) = some (some (.agg #[.int .i64 0, .slice none 0 0, .int .i64 0, .bool false, .slice none 0 0]), 5, 72) := by kernel_rfl
end Go.Proofs.YtiffgjodbcploaaGreat
end
