/-
table.read, of what was written: plain words; the rounds over the pairs.
-/
import Derived.Test.YtiffgjodbcploaaGreatQPCrashUpto6
import Derived.Test.YtiffgjodbcploaaGreatQPCrashUpto7
import Derived.Test.YtiffgjodbcploaaGreatQPCrashUpto10
import Derived.Test.YtiffgjodbcploaaGreatQPCrashUpto4
import Derived.Sort.CutIn
section
namespace Go.Proofs.YtiffgjodbcploaaGreat
set_option maxRecDepth 100000
open Go.RowKit Go.BigFrame Go.Shelf
attribute [local go_sem ↓] Go.wp_at_zero Go.wp_at_succ
attribute [local go_sem] Oper.semAt_some
/-- the frame of a round of table.Write. -/
abbrev wFrame (p : Nat) (x : Nm) (g o N c size R Bf : Nat) (A2 : Option Addr) (c2 : Nat) (A3 : Option Addr) (c3 nf : Nat) (A4 : Option Addr) (c4 : Nat) (v : Value) : Array Value :=
  #[.pointer (some ⟨p, 0, none⟩), .string ⟨x.toArray⟩, .slice (some ⟨g, o, none⟩) N c, .int .i64 size, undef, undef, undef, undef, .pointer (some ⟨R, 0, none⟩), .slice A2 0 c2, .int .i64 22, .pointer (some ⟨Bf, 0, none⟩), .int .i64 0, v, undef, undef, undef, undef, undef, undef, undef, undef, .bool false, .pointer (some ⟨p, 0, none⟩), .bool false, .bool false, .int .i64 size, .bool false, .bool false, .int .i64 size, .bool false, .bool false, .bool false, .slice (some ⟨g, o, none⟩) N c, .int .i64 N, .bool false, .bool false, .slice (some ⟨g, o, none⟩) N c, .bool true, .bool false, .bool false, .tuple #[.slice A2 0 c2, .int .i64 22], .pointer (some ⟨p, 0, none⟩), .string ⟨x.toArray⟩, .tuple #[.slice A2 0 c2, .int .i64 22], .slice A2 0 c2, .int .i64 22, .int .i64 22, .bool false, undef, undef, undef, .tuple #[.slice A4 (nf + 8) c4, .int .i64 0], .slice (some ⟨g, o, none⟩) N c, .int .i64 N, .int .u64 N, .slice A3 nf c3, .tuple #[.slice A4 (nf + 8) c4, .int .i64 0], .slice A4 (nf + 8) c4, .int .i64 0, .int .i64 0, .bool false, undef, .slice (some ⟨g, o, none⟩) N c, .int .i64 size, .func (.func 56) #[] #[.pointer (some ⟨Bf + 1, 0, none⟩), .pointer (some ⟨Bf + 1 + 1, 0, none⟩)], v, undef, undef, undef, undef, undef, undef, undef, undef, undef, undef, undef, undef, undef, undef, undef, undef, undef, undef, undef, undef, undef, undef, undef, undef, undef, undef, undef, undef, undef, undef, undef, undef, undef, undef, undef, undef, undef, undef, undef, undef, undef, undef, undef, undef, undef, undef, undef, undef, undef, undef, undef, undef, undef]
/-- what the rounds of table.Write have made. -/
def WrI (w : World) (Bf B5 lo : Nat) (hd : List UInt8) (pre : List (Value × List Ent)) (T : Nat → Prop) (W : World) : Prop :=
  ∃ Af cf L, L = (hd ++ (pre.map fun x => partF x.2).flatten).length ∧ Boxed W Bf 42 (.slice Af L cf) ∧ OwnB W (fun i => lo ≤ i) (.slice Af L cf) (hd ++ (pre.map fun x => partF x.2).flatten) ∧ (∀ g, blkB (.slice Af L cf) = some g → g ≠ B5) ∧ (∀ i, T i ↔ i = Bf ∨ blkB (.slice Af L cf) = some i) ∧ Boxed W w.heap.size 30 (.int .i64 0) ∧ fr w W ∧ ∀ y ∈ pre, 0 < y.2.length ∧ y.2.length ≤ 1024 ∧ bytesE y.2 ≤ 1052872
theorem WrI.still {w : World} {Bf B5 lo base : Nat} {hd : List UInt8} {pre : List (Value × List Ent)} {T : Nat → Prop} {A B : World} (h : WrI w Bf B5 lo hd pre T A) (hi : Idle (fun i => i = B5) base A B) (h1 : Bf ≠ B5) (h2 : w.heap.size ≠ B5) (hb : w.heap.size ≤ base) (h5 : w.heap.size ≤ B5) : WrI w Bf B5 lo hd pre T B := by
  obtain ⟨Af, cf, L, hL, b1, ho, hg, hT, b2, hf, hap⟩ := h
  refine ⟨Af, cf, L, hL, hi.cells h1 b1 rfl, ho.only hi fun g hg' hS => ?_, hg, hT, hi.cells h2 b2 rfl, ?_, hap⟩
  · rcases hS with hS | ⟨_, o, h3, h4⟩
    · exact hg g hg' hS
    · obtain ⟨cs, h6⟩ := (ho.blk hg').2.1
      rw [h6] at h3
      injection h3 with h3
      subst h3
      cases h4
  · exact ⟨hi.os.trans hf.os, hi.tape.trans hf.tape, hi.output.trans hf.output, Nat.le_trans hf.size hi.size, fun i hlt => (hi.block i (Nat.lt_of_lt_of_le hlt hf.size) fun hk => by rcases hk with hk | hk <;> omega).trans (hf.block i hlt)⟩
def AxW (es : List Ent) (fr0 : Value → Array Value) (g o N c size : Nat) (pre : List (Value × List Ent)) (_ : Nat → Prop) (x : Value × List Ent) (a : Act) (_ : World) : Prop := PartOk g o N c size es pre x ∧ a = { tmps := fr0 x.1, defers := [] }
set_option maxRecDepth 100000 in
set_option maxHeartbeats 4000000 in
theorem write_ok (F : Nat → Prop) (p : Nat) (k : Pk) (x : Nm) (S0 : Nat → Prop) (g o N c size : Nat) (es : List Ent) (w : World) (hd : DiskP w F p k) (hv : Ents w S0 (.slice (some ⟨g, o, none⟩) N c) es) (hN : es.length = N) (hS0 : ∀ i, S0 i → i < w.heap.size) (hx : x.length ≤ 140737488355328) (hsz : 1 ≤ size ∧ size ≤ 1024) (hord : orderedE es = true) (hgl : GoodL es) (hN0 : 0 < N) (hN2 : N ≤ 16777216) (hB2 : bytesE es ≤ 16777216) (hr : readyE k [x] = 22) (hd0 : 0 ≤ k.done) (hd' : k.done < 4611686018427387903) (hmany : k.fs.length < 9223372036854775807) :
    Calls Tryz.prog 9 #[.pointer (some ⟨p, 0, none⟩), .string ⟨x.toArray⟩, .slice (some ⟨g, o, none⟩) N c, .int .i64 size] w fun r w' => ∃ ps, PartsOk es ps ∧
      r = .returned (.int .i64 (if appendE k x (sealF (fileF N ps)) = 0 then syncE (appendK k x (sealF (fileF N ps))) x else appendE k x (sealF (fileF N ps)))) ∧
      DiskP w' (orNew F w.heap.size) p (if appendE k x (sealF (fileF N ps)) = 0 then syncK (appendK k x (sealF (fileF N ps))) x else appendK k x (sealF (fileF N ps))) ∧ Only F w w' := by
  obtain ⟨hsz1, hsz2⟩ := hsz
  have hb1 : decide ((size : Int) < 1) = false := by simp; omega
  have hb2 : decide ((1024 : Int) < (size : Int)) = false := by simp; omega
  have R0 : ∀ wx, fr w wx → Calls Tryz.prog 26 #[.slice (some ⟨g, o, none⟩) N c] wx fun r w' => r = .returned (.bool true) ∧ fr wx w' := fun wx hx => by
    refine (ordered_any S0 _ es wx (hv.below hx)).mono ?_
    rintro r w' ⟨rfl, h⟩
    rw [hord]
    exact ⟨rfl, h⟩
  have HR0 := Lib.hid R0
  have HR1 := Lib.hid (fun wx (hx : fr w wx) => read_any F p k x wx (hd.below hx) (by assumption))
  rw [hr] at HR1
  have HRE := Lib.hid hr
  have HV := Lib.hid hv
  have HD := Lib.hid hd
  have HN := Lib.hid hN
  have b8 := Boxed.new w 30 (.int .i64 0)
  have hf8 : fr w (w.alloc (.cells #[.int .i64 0] 30)) := fr.alloc fr.refl _
  clear R0 hv hd hN hr
  refine (callsIn_wide (n := 1)).1 ?_
  refine callsIn_of_wp_marks Tryz.func9 rfl trivial ?_
  simp only [Tryz.ntmps9, List.size_toArray, List.length_cons, List.length_nil, Nat.reduceAdd, Nat.reduceSub, Array.replicate_succ, Array.replicate_zero, List.push_toArray, List.append_toArray, List.nil_append, List.cons_append]
  refine wpIn_wide.2 ?_
  go_upto_region 12 with (first
    | (go_at_call 26; refine (HR0.out _ hf8).mono ?_; rintro r w1 ⟨rfl, f1⟩)
    | (go_at_call 24; refine (HR1.out _ (fr.step hf8 f1)).mono ?_; rintro r w2 ⟨v2, rfl, hv2, f2⟩; obtain ⟨A2, c2, rfl⟩ := slice_form hv2))
  have hmodN : (N : Int) % 18446744073709551616 = (N : Int) := by omega
  have hfl := formN_len N
  have hw2 : fr w w2 := fr.step (fr.step hf8 f1) f2
  have HF2 := Lib.hid hw2
  have B82 := Lib.hid (boxedFr (boxedFr b8 f1) f2)
  have HU := Lib.hid (appUint_any (fun _ => True) _ [] N w2 (Byt.nil _ _) (by omega) (by simp))
  obtain ⟨fn, hfn⟩ : ∃ q, formN N = q := ⟨_, rfl⟩
  rw [hfn] at HU hfl
  simp only [List.nil_append] at HU
  have HFN := Lib.hid hfn
  obtain ⟨nf, hnf⟩ : ∃ q, fn.length = q := ⟨_, rfl⟩
  rw [hnf] at HU hfl
  have HNF := Lib.hid hnf
  clear hw2 b8 hf8 f1 f2 hv2 hfn hnf HR0 HR1
  go_wp2_with (first
    | (go_at_call 28; refine HU.out.mono ?_; rintro r w3 ⟨A3, c3, rfl, ho3, f3⟩)
    | (go_at_call 27; refine (fput_any _ _ fn w3 ho3.byt).mono ?_; rintro r w4 ⟨hput, _, f4⟩; obtain ⟨A4, c4, rfl, ho4⟩ := hput (by rw [HNF.out]; omega); rw [HNF.out] at ho4 ⊢)
    | (go_at_call 29; refine (cut_any _ _ N c size _ rfl).mono ?_; rintro r w5 ⟨rfl, b51, b52, f5, hz5⟩))
  have hz3 := HF2.out.size
  have hz23 := f3.size
  have hz34 := f4.size
  have hw5 : fr w w5 := fr.step (fr.alloc (fr.step (fr.step HF2.out f3) f4) _) f5
  have hR5 : Boxed w5 w.heap.size 30 (.int .i64 0) := boxedFr (boxedFr (boxedFr (boxedFr B82.out f3) f4) (fr.alloc fr.refl _)) f5
  have hlt8 := B82.out.lt
  have hf5 : Boxed w5 w4.heap.size 42 (.slice A4 (nf + 8) c4) := boxedFr (Boxed.new w4 _ _) f5
  have ho5 : OwnB w5 (fun i => w.heap.size < i ∧ i < w4.heap.size) (.slice A4 (nf + 8) c4) (putF fn) := by
    have h1 : OwnB w4 (fun i => w.heap.size < i ∧ i < w4.heap.size) (.slice A4 (nf + 8) c4) (putF fn) := by
      obtain ⟨A, c', e, h1, h2, h3, h4⟩ := ho4
      refine ⟨A, c', e, h1, h2, h3, h4.imp id ?_⟩
      rintro ⟨gg, cur, e, hb, hh, r⟩
      exact ⟨gg, cur, e, ⟨by omega, (Array.getElem?_eq_some_iff.1 hh).1⟩, hh, r⟩
    exact (h1.below (fr.alloc fr.refl _)).below f5
  have hlen : (putF fn).length = nf + 8 := by rw [putF_len, HNF.out]
  simp only [World.size_alloc] at b51 b52 hz5 ⊢
  have hti := cut_tells 0 w5 (w4.heap.size + 1) g o N c size S0 es b51 b52 (HV.out.below hw5) HN.out ⟨hsz1, hsz2⟩ hgl.small (fun i hi => ⟨by have := hS0 i hi; have := hw5.size; omega, by have := hS0 i hi; omega⟩)
  have HTI := Lib.hid hti
  have HGL := Lib.hid hgl
  have HS0 := Lib.hid hS0
  have HW5 := Lib.hid hw5
  obtain ⟨Bf, hBf⟩ : ∃ q, w4.heap.size = q := ⟨_, rfl⟩
  rw [hBf] at hf5 ho5 HTI hz5 hz34 ⊢
  have HR5 := Lib.hid hR5
  have HF5 := Lib.hid hf5
  have HO5 := Lib.hid ho5
  have HLEN := Lib.hid hlen
  clear hti hgl hS0 hw5 b51 b52 f5 f4 f3 ho3 ho4 hput HU hBf hR5 hf5 ho5 hlen
  refine (wpIn_wide (n := 1)).1 ?_
  refine range_tells rfl (by omega) (gf := 56) (lb := #[.pointer (some ⟨Bf + 1, 0, none⟩), .pointer (some ⟨Bf + 1 + 1, 0, none⟩)]) rfl trivial (enters_of Tryz.func56 (by kernel_rfl) rfl) HTI.out
    (fun i h => by have := HS0.out i; have := HW5.out.size; rcases h with h | h | h <;> (try have := HS0.out i h) <;> omega) (fun i h => .inl h) (fun _ _ _ _ _ _ h => h) (fun _ _ _ h _ => h) (fun _ _ _ h _ => h) (fun _ => rfl)
    (WrI w Bf (Bf + 1) (w.heap.size + 1) (putF fn)) (fun _ _ _ _ => False) ?still (fun _ _ _ _ _ h => h.elim) (fun i => i = Bf ∨ blkB (.slice A4 (nf + 8) c4) = some i) ?t0 ?start
    (AxW es (fun v => wFrame p x g o N c size w.heap.size Bf A2 c2 A3 c3 nf A4 c4 v) g o N c size) (fun _ _ _ _ _ _ h _ => h) ?assign ?body ?done (fun _ _ _ _ _ _ _ _ h => h.elim) ?lt (fun _ _ _ _ _ h => h.elim)
  case still => exact fun pre T A B h hi => h.still hi (by omega) (by omega) HW5.out.size (by omega)
  case t0 =>
    intro i hi
    rcases hi with rfl | hi
    · exact ⟨by omega, fun h => by rcases h with h | h | h; omega; omega; have := HS0.out _ h; omega⟩
    · obtain ⟨⟨h1, h2⟩, _, h3⟩ := HO5.out.blk hi
      exact ⟨h3, fun h => by rcases h with h | h | h; omega; omega; have := HS0.out _ h; omega⟩
  case start =>
    refine ⟨A4, c4, nf + 8, by simp [HLEN.out], HF5.out, ?_, fun gg hg => ?_, fun i => Iff.rfl, HR5.out, HW5.out, fun y hy => by simp at hy⟩
    · simp only [List.map_nil, List.flatten_nil, List.append_nil]
      exact HO5.out.mono fun i hi => hi.1
    · have := (HO5.out.blk hg).1
      omega
  case lt =>
    rintro pre T W i ⟨Af, cf, L, hL, b1, ho, hg, hT, b2, hf, _⟩ hi
    rcases (hT i).1 hi with rfl | hi
    · exact b1.lt
    · exact (ho.blk hi).2.2
  case assign =>
    rintro l pre T y W K hi hok hK
    obtain ⟨dd, hy, _, _⟩ := hok.val
    obtain ⟨y1, y2⟩ := y
    obtain ⟨pp, n', d', hy'⟩ : ∃ pp n' d', y1 = .slice (some ⟨g, pp, none⟩) n' d' := ⟨_, _, _, hy⟩
    clear hy
    subst hy'
    gi_wp2
    exact hK _ _ fr.refl hi ⟨hok, rfl⟩
  case body =>
    rintro l pre T y a' sA W hl hlA hrec hTs hsA hI ⟨hok, rfl⟩
    obtain ⟨y1, part⟩ := y
    obtain ⟨dd, hy, hdd1, hdd2⟩ := hok.val
    obtain ⟨rest, hall⟩ := hok.all
    have hfew := hok.few
    simp only at hy hdd1 hfew hall
    obtain ⟨q, hq⟩ : ∃ q, (pre.map Prod.snd).flatten.length = q := ⟨_, rfl⟩
    obtain ⟨pp, hpp⟩ : ∃ pp, o + q * 4 = pp := ⟨_, rfl⟩
    obtain ⟨n, hn⟩ : ∃ n, part.length = n := ⟨_, rfl⟩
    rw [hq, hpp, hn] at hy
    rw [hn] at hdd1 hfew
    have hat : ∀ i, i < n → es[q + i]? = part[i]? := fun i hi => by
      rw [← hall, List.append_assoc, List.getElem?_append_right (by omega), hq, Nat.add_sub_cancel_left, List.getElem?_append_left (by omega)]
    have HOK := Lib.hid hok
    have HAT := Lib.hid hat
    have HPP := Lib.hid hpp
    have HNP := Lib.hid hn
    subst hy
    obtain ⟨Af, cf, L, hL, b1, ho, hg, hT, b2, hf, hap⟩ := hI
    have HAP := Lib.hid hap
    have HALL := Lib.hid hall
    have HQQ := Lib.hid hq
    have HL := Lib.hid hL
    have HB1 := Lib.hid b1
    have HOW := Lib.hid ho
    have HG := Lib.hid hg
    have HT := Lib.hid hT
    have HB2 := Lib.hid b2
    have HF := Lib.hid hf
    have HVW := Lib.hid (HV.out.below hf)
    have HTS := Lib.hid hTs
    clear hok hat hpp hn hall hL b1 ho hg hT b2 hf hTs hrec hq hap
    have hn1 : n ≤ 1024 := by omega
    gi_wp2
    gi_loopw [14, 69] (fun v t wr => ∃ (i : Nat) (ys : List Value), i ≤ n ∧ t = .int .i64 i ∧ wr.ownsRow W.heap.size 78 2 v (2 * i) ys ∧ PrCells wr (fun j => (S0 j ∨ W.heap.size ≤ j) ∧ v.ownBlock ≠ some j) ys (pairsF 0 (part.take i)) ∧ fr W wr) (fun _ t _ => n - (intOf t).toNat)
    case atStart => exact ⟨0, [], Nat.zero_le _, rfl, World.ownsRow_nil _ _ _ _, trivial, fr.refl⟩
    case round =>
      obtain ⟨i, ys, hi, rfl, hrow, hpc, hfw⟩ := hrel
      obtain ⟨A14, c14, rfl⟩ := own_form hrow
      have HROW := Lib.hid hrow
      have HPC := Lib.hid hpc
      have HFW := Lib.hid hfw
      obtain ⟨w6, hw6⟩ : ∃ x, x = wr := ⟨_, rfl⟩
      subst hw6
      by_cases hin : i < n
      · obtain ⟨e, he⟩ : ∃ e, part[i]? = some e := ⟨_, List.getElem?_eq_getElem (by rw [HNP.out]; exact hin)⟩
        have he2 := (HAT.out i hin).trans he
        obtain ⟨A, c', cs, hE, _, _, _, hrw, hec⟩ := HVW.out.below hfw
        simp only [Value.slice.injEq] at hE
        obtain ⟨rfl, h5, rfl⟩ := hE
        obtain ⟨b', o', ke, ue, hb', e0, e1, e2, e3, q0, q1, hbl, hSb⟩ := hrw.ent hec rfl he2
        injection hb' with hb'
        injection hb' with hb4 hb5
        subst hb4 hb5
        have hge := goodE_is (HGL.out e (List.mem_of_getElem? he2))
        obtain ⟨hk0, hk200, hs0, hs40, hv4, _⟩ := hge
        obtain ⟨seq, hseq⟩ : ∃ q : Nat, e.seq = q := ⟨e.seq.toNat, by omega⟩
        obtain ⟨Ak, ck, rfl⟩ := slice_form q0
        obtain ⟨Au, cu, rfl⟩ := slice_form q1
        rw [show o + (q + i) * 4 = pp + i * 4 by have := HPP.out; omega] at e0 e1 e2 e3
        obtain ⟨nk, hnk⟩ : ∃ q, e.key.length = q := ⟨_, rfl⟩
        obtain ⟨nu, hnu⟩ : ∃ q, e.val.length = q := ⟨_, rfl⟩
        rw [hseq] at e1
        rw [hnk] at e0
        rw [hnu] at e3
        have HQ1 := Lib.hid q1
        rw [hnu] at HQ1
        have HE := Lib.hid he
        have hEv : EntV (w6.alloc (.cells #[.slice Ak nk ck, .int .i64 seq, .bool e.dead, .slice Au nu cu] 48)) (fun _ => True) (.agg #[.slice Ak nk ck, .int .i64 seq, .bool e.dead, .slice Au nu cu]) e := ⟨_, _, by rw [hseq], (by have := q0.below (fr.alloc (fr.refl (W := w6)) (.cells #[.slice Ak nk ck, .int .i64 seq, .bool e.dead, .slice Au nu cu] 48)); rw [hnk] at this; exact this.mono fun _ _ => trivial), (by have := q1.below (fr.alloc (fr.refl (W := w6)) (.cells #[.slice Ak nk ck, .int .i64 seq, .bool e.dead, .slice Au nu cu] 48)); rw [hnu] at this; exact this.mono fun _ _ => trivial)⟩
        have HPK := Lib.hid (pack_any _ i seq _ e _ hEv (by omega) hseq (by omega) hk200)
        obtain ⟨m2, hm2⟩ : ∃ q, (headV e seq).length = q := ⟨_, rfl⟩
        rw [hm2] at HPK
        have HM2 := Lib.hid hm2
        have HSEQ := Lib.hid hseq
        have HNU := Lib.hid hnu
        clear hrow hpc hrw hec h5 he he2 q0 q1 hEv hseq hm2 hnk hnu hk200
        gi_upto_region 22 with (refine ⟨trivial, rfl, ?_⟩; gi_at_call 30; refine (CallsIn.inRound l (callsIn_wide.2 HPK.out)).mono ?_; rintro r w8 ⟨A8, c8, B8, d8, rfl, ho8, ho9, f8⟩)
        have hP6 := fr.hp f8 (heap_alloc_new w6 (.cells #[.slice Ak nk ck, .int .i64 seq, .bool e.dead, .slice Au nu cu] 48))
        have hP8 := heap_alloc_new w8 (.cells #[.slice A8 3 c8, .slice B8 m2 d8] 78)
        have hf9 : fr w8 (w8.alloc (.cells #[.slice A8 3 c8, .slice B8 m2 d8] 78)) := fr.alloc fr.refl _
        have hz9 : (w8.alloc (.cells #[.slice A8 3 c8, .slice B8 m2 d8] 78)).heap.size = w8.heap.size + 1 := World.size_alloc _ _
        have hf7 : fr w6 w8 := fr.step (fr.alloc fr.refl _) f8
        obtain ⟨gA, rfl⟩ : ∃ gA, A8 = some ⟨gA, 0, none⟩ := by
          obtain ⟨A, c', e, _, _, _, h4⟩ := ho8
          simp only [Value.slice.injEq] at e
          obtain ⟨rfl, _, rfl⟩ := e
          rcases h4 with h4 | ⟨gg, cur, h4, _⟩
          · have : (headK i 0).length = 3 := rfl
            omega
          · exact ⟨gg, h4⟩
        generalize w8.alloc (.cells #[.slice (some ⟨gA, 0, none⟩) 3 c8, .slice B8 m2 d8] 78) = w9 at hP8 hf9 hz9 ⊢
        obtain ⟨H, hH⟩ : ∃ H, w8.heap.size = H := ⟨_, rfl⟩
        obtain ⟨E, hE⟩ : ∃ E, w6.heap.size = E := ⟨_, rfl⟩
        have hP6' := fr.hp hf9 hP6
        rw [hH] at hP8 ⊢
        rw [hE] at hP6' ⊢
        have h0 : w9.cell? ⟨H, 0, none⟩ = some (.slice (some ⟨gA, 0, none⟩) 3 c8) := cell_of_row w9 H 0 _ _ _ hP8
        have h1 : w9.cell? ⟨H, 1, none⟩ = some (.slice B8 m2 d8) := cell_of_row w9 H 1 _ _ _ hP8
        have h3 : w9.cell? ⟨E, 3, none⟩ = some (.slice Au nu cu) := cell_of_row w9 E 3 _ _ _ hP6'
        have hEH : E < H := by have := hf7.size; have := (Array.getElem?_eq_some_iff.1 hP6).1; omega
        have hob : ∀ j, (Value.slice A14 (2 * i) c14).ownBlock = some j → W.heap.size ≤ j ∧ j < E := fun j hj => by
          have h := HROW.out.2
          rcases h with ⟨h, _⟩ | ⟨gg, cap, cur, h, hb, hh, _⟩
          · rw [h] at hj; simp [Value.ownBlock] at hj
          · rw [h] at hj
            obtain rfl : gg = j := by simpa [Value.ownBlock] using hj
            have := (Array.getElem?_eq_some_iff.1 hh).1
            exact ⟨hb, by omega⟩
        have HS9 : Hid (∀ w', Only (fun j => (Value.slice A14 (2 * i) c14).ownBlock = some j) w9 w' → w'.cell? ⟨H, 0, none⟩ = some (.slice (some ⟨gA, 0, none⟩) 3 c8) ∧ w'.cell? ⟨H, 1, none⟩ = some (.slice B8 m2 d8) ∧ w'.cell? ⟨E, 3, none⟩ = some (.slice Au nu cu)) := Lib.hid fun w' hw' =>
          ⟨hw'.cell' h0 fun h => by have := hob _ h; omega, hw'.cell' h1 fun h => by have := hob _ h; omega, hw'.cell' h3 fun h => by have := hob _ h; omega⟩
        have HOB := Lib.hid hob
        have HH := Lib.hid hH
        have HE' := Lib.hid hE
        have HO8 := Lib.hid (ho8.below hf9)
        have HO9 := Lib.hid (ho9.below hf9)
        have HF7 := Lib.hid (fr.step hf7 hf9)
        have hc8 : 3 ≤ c8 := by
          obtain ⟨A, c', e, h1, _⟩ := ho8
          simp only [Value.slice.injEq] at e
          obtain ⟨_, _, rfl⟩ := e
          exact h1
        have HZ9 := Lib.hid hz9
        clear hz9 hP6 hP8 hP6' hf9 hf7 f8 ho8 ho9 hob hH hE h0 h1 h3 HPK e0 e1 e2 e3
        refine regionIn_held (S := fun w' => Only (fun j => (Value.slice A14 (2 * i) c14).ownBlock = some j) w9 w') (by kernel_rfl) (noDefer_spec (by kernel_rfl)) (by rintro ⟨_, _, h⟩; exact h) ?_
        have hS0' : Only (fun j => (Value.slice A14 (2 * i) c14).ownBlock = some j) w9 w9.drew := Only.drew (Only.refl _ _)
        refine wpAnyH_take (i := 0) (v := .slice A14 (2 * i) c14) rfl (by kernel_rfl) (by kernel_rfl) (by kernel_rfl) (fun _ _ _ h => h) (.inl ⟨by rfl, fun w' hS => by go_simp⟩) hS0' ?_
        refine wpAnyH_take (i := 1) (v := .agg #[.slice (some ⟨gA, 0, none⟩) 3 c8, .slice B8 m2 d8]) rfl (by kernel_rfl) (by kernel_rfl) (by kernel_rfl) (fun _ _ _ h => h) (.inl ⟨by rfl, fun w' hS => by obtain ⟨h0, h1, h3⟩ := HS9.out w' hS; go_simp⟩) hS0' ?_
        refine wpAnyH_take (i := 2) (v := .pointer (some ⟨H, 0, none⟩)) rfl (by kernel_rfl) (by kernel_rfl) (by kernel_rfl) (fun _ _ _ h => h) (.inl ⟨by rfl, fun w' hS => by go_simp⟩) hS0' ?_
        refine wpAnyH_take (i := 3) (v := .slice (some ⟨gA, 0, none⟩) 3 c8) rfl (by kernel_rfl) (by kernel_rfl) (by kernel_rfl) (fun _ _ _ h => h) (.inl ⟨by rfl, fun w' hS => by obtain ⟨h0, h1, h3⟩ := HS9.out w' hS; go_simp⟩) hS0' ?_
        have hc8i : (2 : Int) ≤ (c8 : Int) := by omega
        refine wpAnyH_take (i := 4) (v := .slice (some ⟨gA, 0, none⟩) 2 2) rfl (by kernel_rfl) (by kernel_rfl) (by kernel_rfl) (fun _ _ _ h => h) (.inl ⟨by rfl, fun w' hS => by go_simp⟩) hS0' ?_
        refine wpAnyH_take (i := 7) (v := .pointer (some ⟨E, 3, none⟩)) rfl (by kernel_rfl) (by kernel_rfl) (by kernel_rfl) (fun _ _ _ h => h) (.inl ⟨by rfl, fun w' hS => by go_simp⟩) hS0' ?_
        refine wpAnyH_take (i := 8) (v := .slice Au nu cu) rfl (by kernel_rfl) (by kernel_rfl) (by kernel_rfl) (fun _ _ _ h => h) (.inl ⟨by rfl, fun w' hS => by obtain ⟨h0, h1, h3⟩ := HS9.out w' hS; go_simp⟩) hS0' ?_
        refine wpAnyH_ready (rs := [5]) (by kernel_rfl) (by simp) (AllReadyH.cons rfl (fun K hK => ?_) AllReadyH.nil)
        go_simp
        have f10a : fr w9 (w9.alloc (.cells #[.int .u8 1] 5)).drew := (fr.alloc fr.refl _).drew
        refine hK.out _ _ (Only.of_below f10a) fun _ => ?_
        clear hK K
        have hb10 : Byt (w9.alloc (.cells #[.int .u8 1] 5)).drew (fun _ => True) (.slice (some ⟨gA, 0, none⟩) 2 2) [UInt8.ofNat (i / 256), UInt8.ofNat i] := ((HO8.out.cut (m := 2) (by show 2 ≤ 3; omega)).below f10a).byt.mono fun _ _ => trivial
        have hc10 : Byt (w9.alloc (.cells #[.int .u8 1] 5)).drew (fun _ => True) (.slice (some ⟨w9.heap.size, 0, none⟩) 1 1) [1] := Byt.lit1 w9 1 (.cells #[.int .u8 1] 5) rfl
        refine wpAnyH_ready (rs := [6]) (by kernel_rfl) (by simp) (AllReadyH.cons rfl (fun K hK => ?_) AllReadyH.nil)
        refine step_fullB rfl _ _ rfl gA 0 2 (.slice (some ⟨w9.heap.size, 0, none⟩) 1 1) (by rfl) (by rfl) _ _ _ _ hb10 hc10 rfl (by decide) (by decide) ?_
        intro A10 c10 w10 ho10 f10
        have hf10 : fr w9 w10 := fr.step f10a f10
        refine hK.out _ _ (Only.of_below hf10) fun _ => ?_
        clear hK K hb10 hc10
        have ho10' : OwnF w10 w9.heap.size (.slice A10 3 c10) (headK i 1) := OwnB.mono (F := fun j => (w9.alloc (.cells #[.int .u8 1] 5)).drew.heap.size ≤ j) ho10 fun j hj => by
          have h : w9.heap.size + 1 ≤ j := by simpa using hj
          omega
        rw [show (2 + [(1 : UInt8)].length) = 3 from rfl]
        refine wpAnyH_ready (rs := [9]) (by kernel_rfl) (by simp) (AllReadyH.cons rfl (fun K hK => ?_) AllReadyH.nil)
        go_simp
        refine hK.out _ _ (Only.of_below hf10) fun _ => ?_
        clear hK K
        refine wpAnyH_ready (rs := [10]) (by kernel_rfl) (by simp) (AllReadyH.cons rfl (fun K hK => ?_) AllReadyH.nil)
        go_simp
        have f11 : fr w9 (w10.alloc (.cells #[.slice (some ⟨gA, 0, none⟩) 3 c8, .slice B8 m2 d8, .slice A10 3 c10, .slice Au nu cu] 78)) := fr.step hf10 (fr.alloc fr.refl _)
        refine hK.out _ _ (Only.of_below f11) fun _ => ?_
        clear hK K
        have hrow11 := own_below (own_below HROW.out HF7.out) f11
        refine wpAnyH_ready (rs := [11]) (by kernel_rfl) (by simp) (AllReadyH.cons rfl (fun K hK => ?_) AllReadyH.nil)
        refine step_rowP rfl _ _ rfl W.heap.size (.slice A14 (2 * i) c14) (2 * i) ys (by rfl) hrow11 w10.heap.size 2 [.slice (some ⟨gA, 0, none⟩) 3 c8, .slice B8 m2 d8, .slice A10 3 c10, .slice Au nu cu] (by rfl) rfl (cell_four_new _ _ _ _ _ _) (by simp [Value.oneCell']) (by omega) ?_ ?_
        · have := HFW.out.size
          have := HF7.out.size
          have := f11.size
          omega
        intro v14 w12 hrow12 hg12 hat12
        obtain ⟨g14, cp14, rfl⟩ : ∃ g cap, v14 = .slice (some ⟨g, 0, none⟩) (2 * i + 2) cap := ownsRow_succ (k := 2 * i + 1) hrow12
        refine hK.out _ _ ?_ fun _ => ?_
        · exact Only.trans (Only.of_below f11) (Only.mono (Only.of_grown hg12) fun j hj => hj)
        clear hK K
        refine wpAnyH_ready (rs := [12]) (by kernel_rfl) (by simp) (AllReadyH.cons rfl (fun K hK => ?_) AllReadyH.nil)
        go_simp
        refine hK.out _ _ (Only.trans (Only.of_below f11) (Only.mono (Only.of_grown hg12) fun j hj => hj)) fun _ => ?_
        clear hK K
        have HFIN : Hid (∃ (i' : Nat) (ys : List Value), i' ≤ n ∧ Value.int .i64 ((i : Int) + 1) = .int .i64 i' ∧ w12.ownsRow W.heap.size 78 2 (.slice (some ⟨g14, 0, none⟩) (2 * i + 2) cp14) (2 * i') ys ∧ PrCells w12 (fun j => (S0 j ∨ W.heap.size ≤ j) ∧ (Value.slice (some ⟨g14, 0, none⟩) (2 * i + 2) cp14).ownBlock ≠ some j) ys (pairsF 0 (part.take i')) ∧ fr W w12) := Lib.hid (by
          have hz6 := HFW.out.size
          have hz67 := HF7.out.size
          have hz9 := HZ9.out
          have hE := HE'.out
          have hH := HH.out
          have hsz := HF.out.size
          have push : ∀ {S : Nat → Prop} {v : Value} {bs : List UInt8}, Byt (w10.alloc (.cells #[.slice (some ⟨gA, 0, none⟩) 3 c8, .slice B8 m2 d8, .slice A10 3 c10, .slice Au nu cu] 78)) S v bs → (∀ j, S j → (Value.slice A14 (2 * i) c14).ownBlock ≠ some j) → (∀ j, S j → S0 j ∨ W.heap.size ≤ j) →
              Byt w12 (fun j => (S0 j ∨ W.heap.size ≤ j) ∧ (Value.slice (some ⟨g14, 0, none⟩) (2 * i + 2) cp14).ownBlock ≠ some j) v bs := fun h h1 h2 => Byt.push (row := .slice A14 (2 * i) c14) h hg12 hat12 (fun j _ hj => h1 j hj) fun j _ hj hn => ⟨h2 j hj, hn⟩
          refine ⟨i + 1, _, by omega, by go_num, (by have := hrow12; rwa [show 2 * i + 2 = 2 * (i + 1) by omega] at this ⊢), ?_, ?_⟩
          · rw [take_snoc HE.out, pairsF_snoc, List.length_take, HNP.out, Nat.min_eq_left (by omega), Nat.zero_add, show e.seq.toNat = seq by rw [HSEQ.out]; simp]
            refine PrCells.append (PrCells.imp HPC.out fun v bs hb => push ((hb.below HF7.out).below f11) (fun j hj => hj.2) fun j hj => hj.1) (PrCells.append (es := [⟨headK i 0, headV e seq⟩]) (cs := [_, _]) (PrCells.one ?_ ?_) (PrCells.one ?_ ?_))
            · exact push (S := fun j => w6.heap.size + 1 ≤ j) ((Byt.mono (OwnB.byt HO8.out) fun j hj => by have h := hj.1; simpa using h).below f11) (fun j hj h => by have := (HOB.out j h).2; omega) (fun j hj => .inr (by omega))
            · exact push (S := fun j => w6.heap.size + 1 ≤ j) ((Byt.mono (OwnB.byt HO9.out) fun j hj => by have h := hj.1; simpa using h).below f11) (fun j hj h => by have := (HOB.out j h).2; omega) (fun j hj => .inr (by omega))
            · exact push (S := fun j => w9.heap.size ≤ j) ((Byt.mono (OwnB.byt ho10') fun j hj => hj.1).below (fr.alloc fr.refl _)) (fun j hj h => by have := (HOB.out j h).2; omega) (fun j hj => .inr (by omega))
            · exact push (S := S0) (((HQ1.out).below HF7.out).below f11) (fun j hj h => by have := (HOB.out j h).1; have := HS0.out j hj; omega) (fun j hj => .inl hj)
          · refine RowKit.Below.grown (B := W.heap.size) (fr.step (fr.step HFW.out HF7.out) f11) hg12 (by have := f11.size; omega) fun j hj => (HOB.out j hj).1)
        clear hrow12 hg12 hat12 hrow11 ho10 ho10' f10 f10a hf10 f11 hS0' hc8i
        refine wpAnyH_done (by kernel_rfl) ?_ _
        gi_wp2
        refine ⟨HFIN.out, by simp [intOf]; omega⟩
      · obtain rfl : i = n := by omega
        have htk : part.take i = part := List.take_of_length_le (by rw [HNP.out]; exact Nat.le_refl _)
        rw [htk] at hpc
        have hpl : (pairsF 0 part).length = 2 * i := by rw [pairsF_len, HNP.out]
        have hprs : Prs w6 (fun _ => True) (.slice A14 (2 * i) c14) (pairsF 0 part) := Prs.of_own (e := 78) (by rw [hpl]; exact hrow) (PrCells.mono hpc fun _ _ => trivial) (fun _ _ _ => trivial) (by rw [hpl]; omega)
        have hgp : GoodL part := fun e he => HGL.out e (by obtain ⟨r, hr⟩ := HOK.out.all; rw [← hr]; simp [he])
        have hbl := build_le 0 part []
        have hlow := HOK.out.low
        simp only at hlow
        rw [HNP.out] at hbl
        have HBU := Lib.hid (build_any _ _ _ w6 hprs (pairsF_short 0 part hgp) (by rw [hpl]; omega) (pairsF_asc0 (by rw [HNP.out]; omega)))
        obtain ⟨bb, hbb⟩ : ∃ q, buildGo [] (pairsF 0 part) = q := ⟨_, rfl⟩
        rw [hbb] at HBU hbl
        have HBB := Lib.hid hbb
        obtain ⟨nb, hnb⟩ : ∃ q, bb.length = q := ⟨_, rfl⟩
        rw [hnb] at HBU hbl
        have HNB := Lib.hid hnb
        have hnbb : nb ≤ 2097152 := by omega
        have hc1 := (boxedFr HB1.out hfw).cell
        have hz1 := (boxedFr HB1.out hfw).frozen
        clear hrow hpc htk hpl hprs hgp hbb hnb hlow
        have hsums : L + (nb + 8) ≤ 140737488355328 := by
          have h1 := parts_le (pre.map Prod.snd) (fun p hp => by obtain ⟨y, hy, rfl⟩ := List.mem_map.1 hp; exact (HAP.out y hy).1)
          have h2 := HL.out
          have h3 := HLEN.out
          have h4 : es.length = (pre.map Prod.snd).flatten.length + part.length + rest.length := by rw [← HALL.out]; simp only [List.length_append]
          have h5 : bytesE es = bytesE (pre.map Prod.snd).flatten + bytesE part + bytesE rest := by rw [← HALL.out]; simp [bytesE, Nat.add_assoc]
          have h6 := HN.out
          rw [List.length_append] at h2
          rw [List.map_map] at h1
          have h7 : (List.map (partF ∘ Prod.snd) pre) = (pre.map fun x => partF x.2) := rfl
          rw [h7] at h1
          omega
        gi_wp2_with (first
          | (refine ⟨trivial, rfl, ?_⟩; gi_at_call 31; refine (CallsIn.inRound l (callsIn_wide.2 HBU.out)).mono ?_; rintro r w7 ⟨A7, rfl, ho7, f7⟩)
          | (refine ⟨trivial, rfl, ?_⟩; gi_at_call 27; refine (CallsIn.inRound l (callsIn_wide.2 (fput_any _ _ bb w7 ho7.byt))).mono ?_; rintro r w8 ⟨hput, _, f8⟩; obtain ⟨A8, c8, rfl, ho8⟩ := hput (by rw [HNB.out]; omega); rw [HNB.out] at ho8 ⊢; have hx8 := fr.step (fr.step hfw f7) f8; have hc8 := (boxedFr HB1.out hx8).cell; have hz8 := (boxedFr HB1.out hx8).frozen)
          | (gi_at_builtin; refine wpListIn_append_ownB rfl _ _ rfl (fun i => w.heap.size + 1 ≤ i) (fun i => w.heap.size + 1 ≤ i) (.slice Af L cf) (.slice A8 (nb + 8) c8) rfl rfl _ _ _ (HOW.out.below hx8) ho8.byt (by rw [← HL.out, putF_len, HNB.out]; exact hsums) (fun _ h => h) (by show w.heap.size + 1 ≤ _; have := HB2.out.lt; have := hx8.size; omega) ?_; intro v9 w9 ho9 hg9 hat9; obtain ⟨A9, c9, rfl⟩ := ho9.form; rw [show (putF fn ++ (pre.map fun x => partF x.2).flatten ++ putF bb).length = L + (nb + 8) by rw [List.length_append, ← HL.out, putF_len, HNB.out]] at ho9 hat9 ⊢; have hB9 : Boxed w9 Bf 42 (.slice Af L cf) := (hg9.block Bf (boxedFr HB1.out hx8).lt (fun h => by obtain ⟨cs, h2⟩ := (HOW.out.blk h.symm).2.1; have h3 := HB1.out; rw [show W.heap[Bf]? = _ from h3] at h2; injection h2 with h2; injection h2 with _ h2; exact absurd h2 (by decide))).trans (boxedFr HB1.out hx8); have hc9 := hB9.cell; have hz9 := hB9.frozen))
        have hLt := HB2.out.lt
        have hsz8 := hx8.size
        have hown : ∀ j, blkB (.slice Af L cf) = some j → w.heap.size + 1 ≤ j ∧ j < W.heap.size := fun j hj => ⟨(HOW.out.blk hj).1, (HOW.out.blk hj).2.2⟩
        have hnB : ∀ j t v, Boxed W j t v → t ≠ 5 → some j ≠ blkB (.slice Af L cf) := fun j t v hb ht h => by
          obtain ⟨cs, h2⟩ := (HOW.out.blk h.symm).2.1
          rw [show W.heap[j]? = _ from hb] at h2
          injection h2 with h2
          injection h2 with _ h2
          exact ht h2
        have hR9 : Boxed w9 w.heap.size 30 (.int .i64 0) := (hg9.block w.heap.size (by omega) (hnB _ _ _ HB2.out (by decide))).trans (boxedFr HB2.out hx8)
        have hRB : w.heap.size ≠ Bf := fun h => by
          have h1 := HB1.out
          rw [← h] at h1
          have := h1.symm.trans HB2.out
          injection this with this
          injection this with _ this
          exact absurd this (by decide)
        have hho : OwnB (w9.setCell ⟨Bf, 0, none⟩ (.slice A9 (L + (nb + 8)) c9)) (fun i => w.heap.size + 1 ≤ i) (.slice A9 (L + (nb + 8)) c9) (putF fn ++ (pre.map fun x => partF x.2).flatten ++ putF bb) := ho9.only (only_set w9 Bf 0 _) fun gg hg e => by
          obtain ⟨cs, h2⟩ := (ho9.blk hg).2.1
          rw [e, show w9.heap[Bf]? = _ from hB9] at h2
          injection h2 with h2
          injection h2 with _ h2
          exact absurd h2 (by decide)
        have hblk : ∀ i, i < W.heap.size → i ≠ Bf → some i ≠ blkB (.slice Af L cf) → (w9.setCell ⟨Bf, 0, none⟩ (.slice A9 (L + (nb + 8)) c9)).heap[i]? = W.heap[i]? := fun i h1 h2 h3 =>
          (heap_setCell_other w9 ⟨Bf, 0, none⟩ i _ h2).trans ((hg9.block i (by omega) h3).trans (hx8.block i h1))
        have hsz9 := hg9.size
        have hap2 : ((pre ++ [(Value.slice (some ⟨g, pp, none⟩) i dd, part)]).map fun x => partF x.2).flatten = (pre.map fun x => partF x.2).flatten ++ putF bb := by
          rw [List.map_append, List.flatten_append]
          simp only [List.map_cons, List.map_nil, List.flatten_cons, List.flatten_nil, List.append_nil]
          unfold partF
          rw [HBB.out]
        refine ⟨fun j => j = Bf ∨ blkB (.slice A9 (L + (nb + 8)) c9) = some j, fun j hj => ?_, ⟨hg9.os.trans hx8.os, hg9.tape.trans hx8.tape, hg9.output.trans hx8.output, by simp [World.setCell]; omega, fun j h1 h2 => hblk j h1 (fun e => h2 (.inl ((HT.out j).2 (.inl e)))) (fun e => h2 (.inl ((HT.out j).2 (.inr e.symm))))⟩, A9, c9, L + (nb + 8), ?_, hB9.set _, ?_, fun gg hg => ?_, fun _ => Iff.rfl, hR9.other hRB _, ?_, fun y hy => ?_⟩
        · rcases hj with rfl | hj
          · exact .inl ((HT.out _).2 (.inl rfl))
          · rcases hat9 with h | h
            · exact .inl ((HT.out j).2 (.inr (h ▸ hj)))
            · rw [h] at hj
              injection hj with hj
              exact .inr (by omega)
        · rw [hap2, ← List.append_assoc, List.length_append, ← HL.out, putF_len, HNB.out]
        · rw [hap2, ← List.append_assoc]
          exact hho
        · rcases hat9 with h | h
          · exact HG.out gg (h ▸ hg)
          · rw [h] at hg
            injection hg with hg
            omega
        · have hff := HF.out
          exact ⟨(hg9.os.trans hx8.os).trans hff.os, (hg9.tape.trans hx8.tape).trans hff.tape, (hg9.output.trans hx8.output).trans hff.output, by have := hff.size; simp [World.setCell]; omega, fun j h1 => (hblk j (by omega) (by omega) (fun e => by have := (hown j e.symm).1; omega)).trans (hff.block j h1)⟩
        · rcases List.mem_append.1 hy with hy | hy
          · exact HAP.out y hy
          · simp at hy
            subst hy
            have h1 := HOK.out.pos
            have h2 := HOK.out.few
            have h3 := HOK.out.low
            exact ⟨h1, by omega, h3⟩
  case done =>
    rintro D' xs T W hD' hTs hs ⟨Af, cf, L, hL, b1, ho, hg, hT, b2, hf, hap⟩ hK
    have hPO : PartsOk es (xs.map Prod.snd) := ⟨hs, fun q hq => by obtain ⟨y, hy, rfl⟩ := List.mem_map.1 hq; exact hap y hy⟩
    have hfile : putF fn ++ (xs.map fun x => partF x.2).flatten = fileF N (xs.map Prod.snd) := by
      unfold fileF
      rw [HFN.out, List.map_map]
      rfl
    have hfle := fileF_le hPO
    rw [HN.out] at hfle
    rw [hfile] at ho hL
    obtain ⟨ps, hps⟩ : ∃ ps, xs.map Prod.snd = ps := ⟨_, rfl⟩
    rw [hps] at ho hL hPO hfle
    have HPO := Lib.hid hPO
    rw [← hL] at hfle
    have HL := Lib.hid hL
    have HSE := Lib.hid (seal_any _ _ _ W ho.byt (by rw [← hL]; omega))
    rw [← hL] at HSE
    obtain ⟨b, hb⟩ : ∃ b, sealF (fileF N ps) = b := ⟨_, rfl⟩
    rw [hb] at HSE
    have HB := Lib.hid hb
    have hbl : b.length = L + 12 := by rw [← hb]; unfold sealF; rw [List.length_append, List.length_append, leN_len, leN_len, ← hL]; omega
    have hd1 : DiskP w (fun i => F i ∧ i < w.heap.size) p k := HD.out.mono fun i h1 h2 => ⟨h1, h2⟩
    have hcb := b1.cell
    have hD1 : ∀ w1, fr W w1 → ∀ A c', OwnF w1 W.heap.size (.slice A (L + 12) c') b → Calls Tryz.prog 32 #[.pointer (some ⟨p, 0, none⟩), .string ⟨x.toArray⟩, .slice A (L + 12) c'] w1 fun r w' => r = .returned (.int .i64 (appendE k x b)) ∧ DiskP w' (orNew (fun i => F i ∧ i < w.heap.size) w1.heap.size) p (appendK k x b) ∧ Only (fun i => F i ∧ i < w.heap.size) w1 w' := fun w1 h1 A c' hv => by
      refine append_any (fun i => F i ∧ i < w.heap.size) p k x (fun i => W.heap.size ≤ i) _ b w1 (hd1.below (fr.step hf h1)) (hv.byt.mono fun i hi => hi.1) (fun i h2 h3 => by have := hf.size; omega) hx hd0 (by omega) (fun f hf => ?_) hmany
      have : findP x k.fs = none := by
        have h5 := HRE.out
        unfold readyE at h5
        split at h5
        · exact absurd h5 (by decide)
        · split at h5
          · exact absurd h5 (by decide)
          · simp only at h5
            split at h5
            · rename_i h6
              simpa using h6
            · exact absurd h5 (by decide)
      rw [this] at hf
      cases hf
    have HD1 := Lib.hid hD1
    have HF := Lib.hid hf
    have HB2 := Lib.hid b2
    have HK := Lib.hid hK
    have HDD := Lib.hid hD'
    have HEND : Hid (∀ (w1 wx : World) (kx : Pk) (e v0 : Value), fr W w1 → DiskP wx (orNew (fun i => F i ∧ i < w.heap.size) w1.heap.size) p kx → Only (orNew (fun i => F i ∧ i < w.heap.size) w1.heap.size) w1 wx → Boxed wx w.heap.size 30 v0 →
        (wx.setCell ⟨w.heap.size, 0, none⟩ e).heap[D']? = some (.deferred (some [])) ∧ ((wx.setCell ⟨w.heap.size, 0, none⟩ e).putObj D' (.deferred none)).cell? ⟨w.heap.size, 0, none⟩ = some e ∧ DiskP ((wx.setCell ⟨w.heap.size, 0, none⟩ e).putObj D' (.deferred none)) (orNew F w.heap.size) p kx ∧ Only F w ((wx.setCell ⟨w.heap.size, 0, none⟩ e).putObj D' (.deferred none))) := Lib.hid fun w1 wx kx e v0 h1 h2 h3 h4 => by
      have hDlt : D' < W.heap.size := (Array.getElem?_eq_some_iff.1 hK).1
      have hs1 := h1.size
      have hsx := h3.size
      have hsf := hf.size
      have hw5s := HW5.out.size
      have hDw : w.heap.size < D' := by omega
      have hDk : wx.heap[D']? = some (.deferred (some [])) := (h3.block D' (by omega) (fun h => by rcases h with h | h; exact absurd h.2 (by omega); omega)).trans ((h1.block D' hDlt).trans hK)
      have hD3 : (wx.setCell ⟨w.heap.size, 0, none⟩ e).heap[D']? = some (.deferred (some [])) := (heap_setCell_other wx ⟨w.heap.size, 0, none⟩ D' e (by show D' ≠ w.heap.size; omega)).trans hDk
      have o4 : Only (fun i => i = D') (wx.setCell ⟨w.heap.size, 0, none⟩ e) ((wx.setCell ⟨w.heap.size, 0, none⟩ e).putObj D' (.deferred none)) := ⟨rfl, rfl, rfl, by simp, fun i _ hi => World.putObj_heap_other hi⟩
      have hR : Boxed ((wx.setCell ⟨w.heap.size, 0, none⟩ e).putObj D' (.deferred none)) w.heap.size 30 e := boxedOnly (h4.set e) o4 (by omega)
      have hRlt : w.heap.size < w1.heap.size := by omega
      refine ⟨hD3, hR.cell, ?_, ?_⟩
      · refine (((h2.only (only_set wx w.heap.size 0 e) (fun i hi h => ?_)).only o4 (fun i hi h => ?_)).mono fun i h _ => ?_)
        · rcases h with h | h
          · omega
          · omega
        · rcases h with h | h
          · omega
          · omega
        · exact h.imp (fun h => h.1) (fun h => by omega)
      · refine ⟨h3.os.trans (h1.os.trans hf.os), h3.tape.trans (h1.tape.trans hf.tape), h3.output.trans (h1.output.trans hf.output), by simp [World.setCell]; omega, fun i hi hF => ?_⟩
        exact (World.putObj_heap_other (by omega)).trans ((heap_setCell_other wx ⟨w.heap.size, 0, none⟩ i e (by show i ≠ w.heap.size; omega)).trans ((h3.block i (by omega) (fun h => by rcases h with h | h; exact hF h.1; omega)).trans ((h1.block i (by omega)).trans (hf.block i hi))))
    clear hPO hfile hfle ho hL hps hb hbl hd1 hD1 hs hap b1 b2 hg hT hTs hf hK
    obtain ⟨ea, hea⟩ : ∃ e, appendE k x b = e := ⟨_, rfl⟩
    obtain ⟨ka, hka⟩ : ∃ e, appendK k x b = e := ⟨_, rfl⟩
    rw [hea, hka] at HD1
    have hdk : 0 ≤ ka.done ∧ ka.done < 4611686018427387904 := by
      rw [← hka]
      unfold appendK changeK
      split
      · split
        · omega
        · split
          · simp only; omega
          · simp only; omega
      · omega
    obtain ⟨hdk1, hdk2⟩ := hdk
    have HEA := Lib.hid hea
    have HKA := Lib.hid hka
    clear hea hka
    by_cases he0 : ea = 0
    · subst he0
      go_wp2_with (first
        | (go_at_call 33; refine HSE.out.mono ?_; rintro r w1 ⟨A1, c1, rfl, ho1, f1⟩)
        | (go_at_call 32; refine (HD1.out w1 f1 A1 c1 ho1).mono ?_; rintro r w2 ⟨rfl, hd2, o2⟩; have hR2 := boxedOnly (boxedFr HB2.out f1) o2 (fun h => absurd h.2 (Nat.lt_irrefl _)))
        | (go_at_call 34; refine (sync_any _ p ka x w2 hd2 hx hdk1 (by omega)).mono ?_; rintro r w3 ⟨rfl, hd3, o3⟩; have hR3 := boxedOnly hR2 o3 (fun h => by have hs1 := f1.size; have hs2 := HB2.out.lt; rcases h with h | h; exact absurd h.2 (Nat.lt_irrefl _); omega); have hc3 := hR3.cell; have hz3' := hR3.frozen))
      have hs2 := o2.size
      obtain ⟨k1, k2, k3, k4⟩ := HEND.out w1 w3 (syncK ka x) (.int .i64 (syncE ka x)) _ f1 hd3 (Only.trans (Only.mono o2 fun _ h => .inl h) o3) hR3
      refine ⟨by simp, .inl ⟨_, _, rfl, run_takeDeferred k1, ?_⟩⟩
      refine ⟨.int .i64 (syncE ka x), by simp [results, Tryz.results9, go_sem, k2], ps, HPO.out, ?_, ?_, k4⟩
      · rw [HB.out, HEA.out, if_pos rfl, HKA.out]
      · rw [HB.out, HEA.out, if_pos rfl, HKA.out]
        exact k3
    · have hne : (ea == 0) = false := by simpa using he0
      have hne2 : (ea != 0) = true := by simpa using he0
      go_wp2_with (first
        | (go_at_call 33; refine HSE.out.mono ?_; rintro r w1 ⟨A1, c1, rfl, ho1, f1⟩)
        | (go_at_call 32; refine (HD1.out w1 f1 A1 c1 ho1).mono ?_; rintro r w2 ⟨rfl, hd2, o2⟩; have hR2 := boxedOnly (boxedFr HB2.out f1) o2 (fun h => absurd h.2 (Nat.lt_irrefl _)); have hc2 := hR2.cell; have hz2 := hR2.frozen))
      obtain ⟨k1, k2, k3, k4⟩ := HEND.out w1 w2 ka (.int .i64 ea) _ f1 hd2 (Only.mono o2 fun _ h => .inl h) hR2
      refine ⟨by simp, .inl ⟨_, _, rfl, run_takeDeferred k1, ?_⟩⟩
      refine ⟨.int .i64 ea, by simp [results, Tryz.results9, go_sem, k2], ps, HPO.out, ?_, ?_, k4⟩
      · rw [HB.out, HEA.out, if_neg he0]
      · rw [HB.out, HEA.out, if_neg he0, HKA.out]
        exact k3
end Go.Proofs.YtiffgjodbcploaaGreat
end
section
namespace Go.Proofs.YtiffgjodbcploaaGreat
set_option maxRecDepth 100000
open Go.RowKit Go.BigFrame Go.Shelf
attribute [local go_sem ↓] Go.wp_at_zero Go.wp_at_succ
attribute [local go_sem] Oper.semAt_some
theorem un32_app {a b : List UInt8} (h : 4 ≤ a.length) : un32 (a ++ b) = un32 a := by
  match a, h with
  | x :: y :: z :: u :: r, _ => rfl
theorem sumN_lt' (bs : List UInt8) : sumN bs < 4294967296 := sumN_lt bs
/-- a frame is read as it was put. -/
theorem readF_put (p rest : List UInt8) (h : p.length ≤ 2097152) : readF (putF p ++ rest) = (p, 8 + p.length, 0) := by
  have hl : (putF p ++ rest).length = p.length + 8 + rest.length := by rw [List.length_append, putF_len]
  have hs := sumN_lt (le32 p.length ++ p)
  have e1 : putF p ++ rest = le32 p.length ++ (le32 (sumN (le32 p.length ++ p)) ++ (p ++ rest)) := by unfold putF; simp [List.append_assoc]
  have u1 : un32 (putF p ++ rest) = p.length := by rw [e1]; exact un_le32 (by omega) _
  have d4 : (putF p ++ rest).drop 4 = le32 (sumN (le32 p.length ++ p)) ++ (p ++ rest) := by rw [e1, List.drop_left' (le32_len _)]
  have u2 : un32 ((putF p ++ rest).drop 4) = sumN (le32 p.length ++ p) := by rw [d4]; exact un_le32 hs _
  have t4 : (putF p ++ rest).take 4 = le32 p.length := by rw [e1, List.take_left' (le32_len _)]
  have d8 : (putF p ++ rest).drop 8 = p ++ rest := by
    rw [show 8 = 4 + 4 from rfl, ← List.drop_drop, d4, List.drop_left' (le32_len _)]
  unfold readF
  rw [if_neg (by omega), if_neg (by omega), u1, if_neg (by omega), if_neg (by omega), u2, t4, d8, List.take_left' rfl, if_neg (by simp)]
theorem Byt.some_of {w : World} {S : Nat → Prop} {A : Option Addr} {n c : Nat} {bs : List UInt8} (h : Byt w S (.slice A n c) bs) (hn : 0 < bs.length) : ∃ b o, A = some ⟨b, o, none⟩ := by
  obtain ⟨A', c', e, _, _, _, hr⟩ := h
  simp only [Value.slice.injEq] at e
  obtain ⟨b, o, e', _⟩ := hr.2 hn
  exact ⟨b, o, by rw [e.1, e']⟩
theorem buildGo_pos {es : List Ent} (h : 0 < es.length) : 0 < (buildGo [] (pairsF 0 es)).length := by
  match es, h with
  | e :: es, _ =>
    unfold pairsF buildGo
    have := oneP_pos [] ⟨headK 0 0, headV e e.seq.toNat⟩
    rw [List.length_append]
    omega
theorem pairsF_at : ∀ (i : Nat) (es : List Ent) (k : Nat) (e : Ent), es[k]? = some e → (pairsF i es)[2 * k]? = some ⟨headK (i + k) 0, headV e e.seq.toNat⟩ ∧ (pairsF i es)[2 * k + 1]? = some ⟨headK (i + k) 1, e.val⟩
  | _, [], _, _, h => by simp at h
  | i, x :: es, 0, e, h => by
    simp at h
    subst h
    exact ⟨rfl, rfl⟩
  | i, x :: es, k + 1, e, h => by
    have h2 := pairsF_at (i + 1) es k e (by simpa using h)
    unfold pairsF
    rw [show 2 * (k + 1) = 2 * k + 1 + 1 by omega, show i + (k + 1) = i + 1 + k by omega]
    exact ⟨by simpa using h2.1, by simpa using h2.2⟩
theorem and1 {x : Nat} (hx : x < 18446744073709551616) : bits .and .u64 (x : Int) 1 = ((x % 2 : Nat) : Int) := by
  have := bits_mask .u64 64 (by decide) wraps64 1 (by decide) (x : Int) (by omega) (by omega)
  rw [show ((2 : Int) ^ 1 - 1) = 1 by decide] at this
  rw [this]
  omega
end Go.Proofs.YtiffgjodbcploaaGreat
end
