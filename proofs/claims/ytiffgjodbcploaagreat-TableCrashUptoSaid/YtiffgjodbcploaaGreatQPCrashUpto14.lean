/-
law 10's wakes.
-/
import Derived.Test.YtiffgjodbcploaaGreatQPCrashUpto13
import Derived.Test.YtiffgjodbcploaaGreatQPCrashUpto11
import Derived.Test.YtiffgjodbcploaaGreatQPCrashUpto10
import Derived.Lib.SlBytesConst
section
namespace Go.Proofs.YtiffgjodbcploaaGreat
set_option maxRecDepth 100000
open Go.RowKit Go.BigFrame Go.Shelf
attribute [local go_sem ↓] Go.wp_at_zero Go.wp_at_succ
/-- what table.from stands on. -/
structure FromK (w : World) (B Tb N lk lc : Nat) (A : Option Addr) (S0 S1 : Nat → Prop) (lo : List UInt8) (es : List Ent) (ps : List (List Ent)) : Prop where
  b1 : Boxed w B 37 (.pointer (some ⟨Tb, 0, none⟩))
  b2 : Boxed w (B + 1) 42 (.slice A lk lc)
  key : Byt w S1 (.slice A lk lc) lo
  tab : TabS w S0 Tb N es ps
section
variable {w w' : World} {B Tb N lk lc : Nat} {A : Option Addr} {S0 S1 : Nat → Prop} {lo : List UInt8} {es : List Ent} {ps : List (List Ent)}
theorem FromK.only {T : Nat → Prop} (h : FromK w B Tb N lk lc A S0 S1 lo es ps) (ho : Only T w w') (hT : ∀ i, T i → ¬ (i = B ∨ i = B + 1 ∨ S0 i ∨ S1 i)) : FromK w' B Tb N lk lc A S0 S1 lo es ps :=
  ⟨boxedOnly h.b1 ho fun t => hT _ t (.inl rfl), boxedOnly h.b2 ho fun t => hT _ t (.inr (.inl rfl)), h.key.only ho fun i _ hi t => hT i t (.inr (.inr (.inr hi))), h.tab.only ho fun i hi t => hT i t (.inr (.inr (.inl hi)))⟩
theorem FromK.fr (h : FromK w B Tb N lk lc A S0 S1 lo es ps) (hf : fr w w') : FromK w' B Tb N lk lc A S0 S1 lo es ps := h.only (T := fun _ => False) (Only.of_below hf) fun _ h => h.elim
end
theorem only_upd (w : World) (M : Nat) (o : Obj) : Only (fun i => i = M) w (upd w M o) := ⟨rfl, rfl, rfl, by simp, fun i _ hn => World.putObj_heap_other (o := o) (w := w) hn⟩
set_option maxRecDepth 100000 in
set_option maxHeartbeats 1000000 in
theorem tfrom_any (Tb lk lc : Nat) (A : Option Addr) (w : World) :
    Calls Tryz.prog 47 #[.pointer (some ⟨Tb, 0, none⟩), .slice A lk lc] w fun r w' => r = .returned (.func (.func 76) #[] #[.pointer (some ⟨w.heap.size, 0, none⟩), .pointer (some ⟨w.heap.size + 1, 0, none⟩)]) ∧ Boxed w' w.heap.size 37 (.pointer (some ⟨Tb, 0, none⟩)) ∧ Boxed w' (w.heap.size + 1) 42 (.slice A lk lc) ∧ fr w w' ∧ w'.heap.size = w.heap.size + 2 := by
  have p2 := Boxed.new (w.alloc (.cells #[.pointer (some ⟨Tb, 0, none⟩)] 37)) 42 (.slice A lk lc)
  have p1 := (Boxed.new w 37 (.pointer (some ⟨Tb, 0, none⟩))).alloc (.cells #[.slice A lk lc] 42)
  have hf : fr w ((w.alloc (.cells #[.pointer (some ⟨Tb, 0, none⟩)] 37)).alloc (.cells #[.slice A lk lc] 42)) := fr.alloc (fr.alloc fr.refl _) _
  rw [World.size_alloc] at p2
  have P1 := Lib.hid p1
  have P2 := Lib.hid p2
  have HF := Lib.hid hf
  clear p1 p2 hf
  go_enter Tryz.func47, Tryz.ntmps47
  go_wp2
  go_ret
  exact ⟨rfl, P1.out, P2.out, HF.out, by simp⟩
set_option maxRecDepth 100000 in
set_option maxHeartbeats 4000000 in
theorem from_tells (nn : Nat) (w : World) (B Tb N lk lc : Nat) (A : Option Addr) (S0 S1 : Nat → Prop) (lo : List UInt8) (es : List Ent) (ps : List (List Ent)) (hK : FromK w B Tb N lk lc A S0 S1 lo es ps) (hpo : PartsOk es ps) (hN : es.length = N) (hN0 : 0 < N) (hN2 : N ≤ 16777216) (_hB2 : bytesE es ≤ 16777216) (hord : orderedE es = true) (hS : ∀ i, S0 i ∨ S1 i → i < w.heap.size) :
    Tells Fence.wide nn Tryz.prog 76 #[.pointer (some ⟨B, 0, none⟩), .pointer (some ⟨B + 1, 0, none⟩)] (fun x : Value × Ent => #[x.1, .int .i64 0]) (fun pre T x A => OkF w.heap.size (fromE lo es) pre T x A)
      (fun xs _ => xs.map Prod.snd = fromE lo es) (fun _ _ => True) (fun i => i = B ∨ i = B + 1 ∨ S0 i ∨ S1 i) (fun _ => False) w := by
  intro l J Jx T0 W hW hT0 hJ hJx hJT hY h0
  refine callsIn_wide.2 ?_
  obtain ⟨hgl, hpw⟩ := (ordered_iff es).1 hord
  have hfle := fileF_le hpo
  rw [hN] at hfle
  have HJ := Lib.hid hJ
  have HJT := Lib.hid hJT
  have HY := Lib.hid hY
  have HT0 := Lib.hid hT0
  have HPO := Lib.hid hpo
  have HGL := Lib.hid hgl
  have HPW := Lib.hid hpw
  have HN := Lib.hid hN
  have HS := Lib.hid (show ∀ i, (i = B ∨ i = B + 1 ∨ S0 i ∨ S1 i) → i < W.heap.size by
    have h1 := hK.b1.lt
    have h2 := hK.b2.lt
    have h3 := hW.size
    rintro i (rfl | rfl | h | h)
    · omega
    · omega
    · have := hS i (.inl h); omega
    · have := hS i (.inr h); omega)
  have HWZ := Lib.hid hW.size
  have HJ0 := Lib.hid h0
  have HK := Lib.hid (hK.fr hW)
  obtain ⟨np, hnp⟩ : ∃ q, ps.length = q := ⟨_, rfl⟩
  have HNP := Lib.hid hnp
  have hnpN : np ≤ 16777216 := by
    have h1 := HPO.out.all
    have h2 : ps.length ≤ ps.flatten.length := by
      have h3 : ∀ l : List (List Ent), (∀ p ∈ l, 0 < p.length) → l.length ≤ l.flatten.length := fun l => by
        induction l with
        | nil => intro _; simp
        | cons a l ih =>
          intro h
          have h4 := ih fun p hp => h p (by simp [hp])
          have h5 := h a (by simp)
          simp only [List.length_cons, List.flatten_cons, List.length_append]
          omega
      exact h3 ps fun p hp => (HPO.out.part p hp).1
    rw [h1] at h2
    omega
  obtain ⟨b, o, n, c, gp, pc, c0, c1, hn, hbyt, hpc, hTlt⟩ := HK.out.tab.cell
  have HX1 := Lib.hid hgl
  have HF1 : Hid (fr W (W.alloc (.map #[] 0))) := Lib.hid (fr.alloc fr.refl _)
  have HK1 : Hid (FromK (W.alloc (.map #[] 0)) B Tb N lk lc A S0 S1 lo es ps) := Lib.hid (HK.out.fr HF1.out)
  have HM1 : Hid ((W.alloc (.map #[] 0)).heap[W.heap.size]? = some (.map #[] 0)) := Lib.hid (heap_alloc_new W _)
  have hcell1 := HK1.out.b1.cell
  obtain ⟨b', o', n', c', gp', pc', d0, d1, _, _, _, _⟩ := HK1.out.tab.cell
  rw [hnp] at d1
  have HSE : Hid (Calls Tryz.prog 77 #[.int .i64 np, .func (.func 78) #[] #[.pointer (some ⟨B, 0, none⟩), .pointer (some ⟨B + 1, 0, none⟩)]] (W.alloc (.map #[] 0)) fun r w' => ∃ k : Nat, k ≤ np ∧ r = .returned (.int .i64 k) ∧ (0 < k → ∃ p e, ps[k - 1]? = some p ∧ p[0]? = some e ∧ cmpB e.key lo < 0) ∧ fr (W.alloc (.map #[] 0)) w') := Lib.hid (by
    refine (search_any 78 _ np (fun i => decide (0 ≤ cmpB (((ps.getD i []).getD 0 ⟨[], 0, false, []⟩).key) lo)) _ (by intro args w; rfl) (by omega) fun W' i hi hf => ?_).mono ?_
    · have hKx := HK1.out.fr hf
      obtain ⟨b, o, n, c, gp, pc, c0, c1, hn, hbyt, hpc, _⟩ := hKx.tab.cell
      obtain ⟨p, hp⟩ : ∃ p, ps[i]? = some p := ⟨_, List.getElem?_eq_getElem (by omega)⟩
      obtain ⟨e, he⟩ : ∃ e, p[0]? = some e := ⟨_, List.getElem?_eq_getElem (HPO.out.part p (List.mem_of_getElem? hp)).1⟩
      obtain ⟨_, k, hk1, hk2⟩ := hpc i p e hp he
      obtain ⟨Ak, ck, rfl⟩ := slice_form hk2
      have e1 : ((ps.getD i []).getD 0 ⟨[], 0, false, []⟩) = e := by simp [List.getD, hp, he]
      rw [e1]
      rw [hnp] at c1
      exact least_any _ _ B (B + 1) Tb gp pc np i lc .nilIface .nilIface .nilIface A lk _ ck _ Ak lo e.key W' hKx.b1.cell hKx.b2.cell hKx.key c1 hi (by omega) hk1 hk2
    · rintro r w' ⟨k, hk, rfl, hp, hf⟩
      refine ⟨k, hk, rfl, fun h => ?_, hf⟩
      obtain ⟨p, hp'⟩ : ∃ p, ps[k - 1]? = some p := ⟨_, List.getElem?_eq_getElem (by omega)⟩
      obtain ⟨e, he⟩ : ∃ e, p[0]? = some e := ⟨_, List.getElem?_eq_getElem (HPO.out.part p (List.mem_of_getElem? hp')).1⟩
      have := hp h
      have e1 : ((ps.getD (k - 1) []).getD 0 ⟨[], 0, false, []⟩) = e := by simp [List.getD, hp', he]
      rw [e1] at this
      exact ⟨p, e, hp', he, by simpa using this⟩)
  clear hJ hJx hJT hY hT0 hW h0 hK hpo hgl hpw hN hS hnp hbyt hpc hTlt c0 c1 hn hord d0
  go_enter Tryz.func76, Tryz.ntmps76
  have hmk : (Instr.makeMap 132 none).run Tryz.prog W = .ok (.map (some W.heap.size)) (W.alloc (.map #[] 0)) := rfl
  go_upto_region 2 with (first | (rw [hmk]; simp only [Result.andThen_ok]) | (go_at_call 77; refine HSE.out.mono ?_; rintro r w1 ⟨k, hk, rfl, hkp, f1⟩))
  obtain ⟨s, hs⟩ : ∃ s, k - 1 = s := ⟨_, rfl⟩
  have hmx : max ((k : Int) - 1) 0 = (s : Int) := by omega
  have hs0 : ((ps.take s).flatten).filter (fromQ lo) = [] := by
    rcases Nat.eq_zero_or_pos k with h | h
    · obtain rfl : s = 0 := by omega
      simp
    · obtain ⟨p, e, hp, he, hb⟩ := hkp h
      rw [hs] at hp
      exact from_none HPO.out.all HPW.out hp he hb
  have hsnp : s ≤ np := by omega
  have HS0 := Lib.hid hs0
  have HK2 := Lib.hid (HK1.out.fr f1)
  have HM2 := Lib.hid (fr.hp f1 HM1.out)
  have HJ2 : Hid (J [] T0 w1) := Lib.hid (HJ.out _ _ _ _ HJ0.out (Idle.of_below (fr.step HF1.out f1)))
  have hz1 := Below.size f1
  obtain ⟨M, hM⟩ : ∃ M, W.heap.size = M := ⟨_, rfl⟩
  have hMlt : M < w1.heap.size := by rw [World.size_alloc] at hz1; omega
  rw [hM] at HM2 ⊢
  have HM := Lib.hid hM
  have hTM0 : ∀ i, T0 i → ¬ (i = B ∨ i = B + 1 ∨ S0 i ∨ S1 i) ∧ i < M := fun i hi => ⟨HT0.out i hi, by rw [← hM]; exact HJT.out _ _ _ i HJ0.out hi⟩
  have HTM0 := Lib.hid hTM0
  clear hs0 hkp f1 HK1 HM1 HJ0 HF1 HK HSE hcell1 d1 hz1 hM hTM0
  go_wp2
  go_loopw [5] (fun x wr => ∃ (m c : Nat) (T : Nat → Prop) (pre : List (Value × Ent)), x = .int .i64 m ∧ m ≤ np ∧ pre.map Prod.snd = ((ps.take m).flatten).filter (fromQ lo) ∧ FromK wr B Tb N lk lc A S0 S1 lo es ps ∧ wr.heap[M]? = some (.map #[] c) ∧ J pre T wr ∧ (∀ i, T i → ¬ (i = B ∨ i = B + 1 ∨ S0 i ∨ S1 i) ∧ i ≠ M)) (fun x _ => np - (intOf x).toNat)
  case atStart => exact ⟨s, 0, T0, [], by first | rfl | rw [hmx], hsnp, HS0.out.symm, HK2.out, HM2.out, HJ2.out, fun i hi => ⟨(HTM0.out i hi).1, by have := (HTM0.out i hi).2; omega⟩⟩
  case round =>
    clear HS0 HK2 HM2 HJ2 HTM0
    obtain ⟨m, c, T, pre, rfl, hm, hpre, hK, hMb, hj, hT⟩ := hrel
    obtain ⟨w0, hw0⟩ : ∃ x, x = wr := ⟨_, rfl⟩
    subst hw0
    obtain ⟨b, o, n, cb, gp, pc, c0, c1, hn, hbyt, hpc, hTlt⟩ := hK.tab.cell
    rw [HNP.out] at c1
    have k1 := hK.b1.cell
    have k2 := hK.b2.cell
    have HPRE := Lib.hid hpre
    have HKR := Lib.hid hK
    have HMB := Lib.hid hMb
    have HJR := Lib.hid hj
    have HTR := Lib.hid hT
    have HBY := Lib.hid hbyt
    have HPC := Lib.hid hpc
    have HFN := Lib.hid hn
    have HTL := Lib.hid hTlt
    clear hpre hK hMb hj hT hbyt hpc hn hTlt
    by_cases hmp : m < np
    · obtain ⟨p, hp⟩ : ∃ p, ps[m]? = some p := ⟨_, List.getElem?_eq_getElem (by rw [HNP.out]; exact hmp)⟩
      obtain ⟨hp0, hp1, hp2⟩ := HPO.out.part p (List.mem_of_getElem? hp)
      obtain ⟨hat, hoff⟩ := offF_at (n := N) hp
      obtain ⟨q, hq⟩ : ∃ q, offF N ps m = q := ⟨_, rfl⟩
      have hqn := offF_le N ps m
      rw [← HFN.out, hq] at hqn
      rw [hq] at hat hoff
      have hpg : GoodL p := fun e he => HGL.out e (by rw [← HPO.out.all]; exact List.mem_flatten.2 ⟨p, List.mem_of_getElem? hp, he⟩)
      obtain ⟨e0, he0⟩ : ∃ e, p[0]? = some e := ⟨_, List.getElem?_eq_getElem hp0⟩
      obtain ⟨g0, _⟩ := HPC.out m p e0 hp he0
      rw [hq] at g0
      obtain ⟨nj, hnj⟩ : ∃ q, p.length = q := ⟨_, rfl⟩
      have HNJ := Lib.hid hnj
      have HP := Lib.hid hp
      obtain ⟨w2, hw2⟩ : ∃ x, w0.alloc (.cells #[.int .i64 m, .int .i64 q] 136) = x := ⟨_, rfl⟩
      have F2 : fr w0 w2 := by rw [← hw2]; exact fr.alloc fr.refl _
      have HF2 := Lib.hid F2
      have hz2 : w2.heap.size = w0.heap.size + 1 := by rw [← hw2]; simp
      have HRD : Hid (Calls Tryz.prog 70 #[.pointer (some ⟨Tb, 0, none⟩), .int .i64 q] w2 fun r w' => ∃ (v : Value) (ys : List Value) (T : Nat → Prop), r = .returned (.tuple #[v, .int .i64 (q + (partF p).length : Nat), .bool true]) ∧ w'.ownsRow w2.heap.size 48 4 v nj ys ∧ EntCells w' (fun i => (w2.heap.size ≤ i ∧ ¬ T i) ∧ Loose w' i) ys p ∧ (∀ g, v.ownBlock = some g → T g) ∧ fr w2 w') := Lib.hid (by
        rw [← hnj]
        exact tread_any S0 Tb b o n cb q (fileF N ps) _ p w2 (F2.cell c0) (HBY.out.below F2) HFN.out.symm (by omega) hat hp0 hp1 hp2 hpg)
      obtain ⟨q2, hq2⟩ : ∃ x, q + (partF p).length = x := ⟨_, rfl⟩
      rw [hq2] at HRD
      have b0 : w2.cell? ⟨w0.heap.size, 0, none⟩ = some (.int .i64 m) := by rw [← hw2]; exact cell_of_row _ _ 0 _ _ _ (heap_alloc_new w0 _)
      have b1 : w2.cell? ⟨w0.heap.size, 1, none⟩ = some (.int .i64 q) := by rw [← hw2]; exact cell_of_row _ _ 1 _ _ _ (heap_alloc_new w0 _)
      have hTlt0 : ∀ i, T i → i < w0.heap.size := fun i hi => HJT.out _ _ _ i HJR.out hi
      have HT0' := Lib.hid hTlt0
      have hM0 := (Array.getElem?_eq_some_iff.1 HMB.out).1
      have k1' := F2.cell k1
      rw [hnj] at hp0 hp1
      have HW2 := Lib.hid hw2
      clear hat hoff hpg he0 hnj hp F2 hq2 hp2 hTlt0 hq
      go_upto_region 7 with (first | rw [HW2.out] | (go_at_call 70; refine HRD.out.mono ?_; rintro r w3 ⟨v, yl, T2, rfl, hrl, hel, hTl, f3⟩; obtain ⟨gl, cl, rfl⟩ : ∃ g cap, v = .slice (some ⟨g, 0, none⟩) nj cap := by (have h := hrl; rw [show nj = (nj - 1) + 1 by omega] at h ⊢; exact ownsRow_succ h)))
      have F3 := fr.step HF2.out f3
      have hz3 := Below.size f3
      have hb3 : w3.heap[M]? = some (.map #[] c) := fr.hp F3 HMB.out
      have hput := map_put m q M c (.slice (some ⟨gl, 0, none⟩) nj cl) w3 hb3
      obtain ⟨w4, hw4⟩ : ∃ x, upd w3 M (.map #[{ key := pkey m q, val := .slice (some ⟨gl, 0, none⟩) nj cl, born := c }] (c + 1)) = x := ⟨_, rfl⟩
      rw [hw4] at hput
      have O4 : Only (fun i => i = M) w3 w4 := by rw [← hw4]; exact only_upd _ _ _
      have hM3 := (Array.getElem?_eq_some_iff.1 hb3).1
      have hb4 : w4.heap[M]? = some (.map #[{ key := pkey m q, val := .slice (some ⟨gl, 0, none⟩) nj cl, born := c }] (c + 1)) := by rw [← hw4]; exact World.putObj_heap_same hM3
      have hget := map_get m q M c (c + 1) (.slice (some ⟨gl, 0, none⟩) nj cl) w4 hb4
      have hz4 := O4.size
      have hne : ¬ w0.heap.size = M := by omega
      have d0 := O4.cell' (f3.cell b0) hne
      have d1 := O4.cell' (f3.cell b1) hne
      have e0 := f3.cell b0
      have e1 := f3.cell b1
      have hgl : w2.heap.size ≤ gl ∧ gl < w3.heap.size := by
        obtain ⟨g, c, e, a1, a2, _⟩ := own_pos hrl hp0
        simp only [Value.slice.injEq, Option.some.injEq, Addr.mk.injEq] at e
        obtain ⟨⟨rfl, _⟩, _⟩ := e
        exact ⟨a1, a2⟩
      obtain ⟨hgl1, hgl2⟩ := hgl
      have HLC : Hid (∀ i u, yl[i]? = some u → w4.cell? ⟨gl, i, none⟩ = some u) := Lib.hid fun i u hu => by
        have h := hrl.cells (g := gl) rfl i u hu
        rw [Addr.add_lit, Nat.zero_add] at h
        exact O4.cell' h (by show ¬ gl = M; omega)
      have HEL : Hid (EntCells w4 (fun i => (w2.heap.size ≤ i ∧ i < w3.heap.size) ∧ Loose w4 i) yl p) := Lib.hid (EntCells.imp hel fun v bs h => Byt.looseOnly (R := fun i => w2.heap.size ≤ i ∧ i < w3.heap.size) (h.mono fun i hi => ⟨⟨hi.1.1, hi.2.lt⟩, hi.2⟩) O4 fun i hi e => by omega)
      have HK4 : Hid (FromK w4 B Tb N lk lc A S0 S1 lo es ps) := Lib.hid ((HKR.out.fr F3).only O4 fun i hi h => by
        have h1 := HS.out i h
        have h2 := HM.out
        omega)
      have HJ4 : Hid (J pre T w4) := Lib.hid (HJ.out _ _ _ _ (HJ.out _ _ _ _ HJR.out (Idle.of_below F3)) (by rw [← hw4]; exact Idle.putObj (by have := HM.out; omega) hb3 rfl))
      have HB4 := Lib.hid hb4
      have hput' : (Instr.mapUpdate 132 (.map (some M)) (.agg #[.int .i64 m, .int .i64 q]) (.slice (some ⟨gl, 0, none⟩) nj cl)).run Tryz.prog w3 = .ok () w4 := hput
      have hget' : (Instr.lookup 132 (.map (some M)) (.agg #[.int .i64 m, .int .i64 q]) false).run Tryz.prog w4 = .ok (.slice (some ⟨gl, 0, none⟩) nj cl) w4 := hget
      clear hrl hel hTl f3 F3 hb3 hput hget hw4 O4 hb4 c0 c1 k1 k2 b0 b1 k1' g0 HRD
      go_wp2_with (first | (rw [hput']; simp only [Result.andThen_ok]) | (rw [hget']; simp only [Result.andThen_ok]))
      go_loopw [62] (fun t wx => ∃ (j : Nat) (T' : Nat → Prop) (pre' : List (Value × Ent)), t = .int .i64 j ∧ j ≤ nj ∧ pre'.map Prod.snd = ((ps.take m).flatten ++ p.take j).filter (fromQ lo) ∧ Only T w4 wx ∧ J pre' T' wx ∧ (∀ i, T' i → T i ∨ w4.heap.size ≤ i)) (fun t _ => nj - (intOf t).toNat)
      case atStart => exact ⟨0, T, pre, rfl, Nat.zero_le _, by rw [HPRE.out]; simp, Only.refl _ _, HJ4.out, fun i hi => .inl hi⟩
      case round =>
        clear HJ4
        obtain ⟨j, T', pre', rfl, hj, hpre', hox, hjx, hT'⟩ := hrel
        obtain ⟨w5, hw5⟩ : ∃ x, x = wr := ⟨_, rfl⟩
        subst hw5
        have hz5 := hox.size
        have nT : ∀ i, w0.heap.size ≤ i → ¬ T i := fun i hi h => by have := HT0'.out i h; omega
        have HK5 := Lib.hid (HK4.out.only hox fun i hi => (HTR.out i hi).1)
        have HCL : Hid (∀ i u, yl[i]? = some u → w5.cell? ⟨gl, i, none⟩ = some u) := Lib.hid fun i u hu => hox.cell' (HLC.out i u hu) (nT gl (by omega))
        have HEL5 : Hid (EntCells w5 (fun i => (w2.heap.size ≤ i ∧ i < w3.heap.size) ∧ Loose w5 i) yl p) := Lib.hid (EntCells.imp HEL.out fun v bs h => Byt.looseOnly h hox fun i hi => nT i (by omega))
        have d0' := hox.cell' d0 (nT _ (Nat.le_refl _))
        have d1' := hox.cell' d1 (nT _ (Nat.le_refl _))
        have HB5 : Hid (w5.heap[M]? = some (.map #[{ key := pkey m q, val := .slice (some ⟨gl, 0, none⟩) nj cl, born := c }] (c + 1))) := Lib.hid ((hox.block M (Array.getElem?_eq_some_iff.1 HB4.out).1 fun h => (HTR.out M h).2 rfl).trans HB4.out)
        have HPRE' := Lib.hid hpre'
        have HOX := Lib.hid hox
        have HJX' := Lib.hid hjx
        have HT' := Lib.hid hT'
        have HNT := Lib.hid nT
        clear hpre' hox hjx hT' nT d0 d1 e0 e1
        by_cases hjn : j < nj
        · obtain ⟨e, he⟩ : ∃ e, p[j]? = some e := ⟨_, List.getElem?_eq_getElem (by rw [HNJ.out]; exact hjn)⟩
          obtain ⟨k1, u1, y0, y1, y2, y3, r0, r1⟩ := HEL5.out.at_ he
          have x0 := HCL.out _ _ y0
          have x1 := HCL.out _ _ y1
          have x2 := HCL.out _ _ y2
          have x3 := HCL.out _ _ y3
          rw [Nat.mul_comm 4 j] at x0 x1 x2 x3
          obtain ⟨A1, c1', rfl⟩ := slice_form r0
          obtain ⟨A2, c2', rfl⟩ := slice_form r1
          obtain ⟨nk, hnk⟩ : ∃ q, e.key.length = q := ⟨_, rfl⟩
          obtain ⟨nu, hnu⟩ : ∃ q, e.val.length = q := ⟨_, rfl⟩
          rw [hnk] at x0 r0
          rw [hnu] at x3 r1
          have FY : fr w5 (w5.alloc (.cells #[.slice A1 nk c1', .int .i64 e.seq, .bool e.dead, .slice A2 nu c2'] 48)) := fr.alloc fr.refl _
          obtain ⟨wy, hwy⟩ : ∃ x, w5.alloc (.cells #[.slice A1 nk c1', .int .i64 e.seq, .bool e.dead, .slice A2 nu c2'] 48) = x := ⟨_, rfl⟩
          rw [hwy] at FY
          have hby : wy.heap[w5.heap.size]? = some (.cells #[.slice A1 nk c1', .int .i64 e.seq, .bool e.dead, .slice A2 nu c2'] 48 (0, 0)) := by rw [← hwy]; exact heap_alloc_new w5 _
          have z0 := cell_of_row wy _ 0 _ _ _ hby
          have z1 := cell_of_row wy _ 1 _ _ _ hby
          have z2 := cell_of_row wy _ 2 _ _ _ hby
          have z3 := cell_of_row wy _ 3 _ _ _ hby
          have HKY := Lib.hid (HK5.out.fr FY)
          have kl := HKY.out.b2.cell
          have hzy := Below.size FY
          have hR0 : Byt wy (fun i => (w2.heap.size ≤ i ∧ i < w3.heap.size) ∧ Loose wy i) (.slice A1 nk c1') e.key := Byt.looseOnly (S := fun _ => False) r0 (Only.of_below FY) fun _ _ h => h
          have hR1 : Byt wy (fun i => (w2.heap.size ≤ i ∧ i < w3.heap.size) ∧ Loose wy i) (.slice A2 nu c2') e.val := Byt.looseOnly (S := fun _ => False) r1 (Only.of_below FY) fun _ _ h => h
          have HR0 := Lib.hid hR0
          have HR1 := Lib.hid hR1
          have HJY : Hid (J pre' T' wy) := Lib.hid (HJ.out _ _ _ _ HJX'.out (Idle.of_below FY))
          have HOY : Hid (Only T w4 wy) := Lib.hid (Only.trans HOX.out (Only.of_below FY))
          obtain ⟨z, hz⟩ : ∃ z, cmpB e.key lo = z := ⟨_, rfl⟩
          have HCM := Lib.hid (bcompare_any _ _ _ _ e.key lo wy HR0.out HKY.out.key)
          rw [hz] at HCM
          have htk := take_snoc he
          have HE := Lib.hid he
          have HZ := Lib.hid hz
          have HTK := Lib.hid htk
          have HWY := Lib.hid hwy
          clear r0 r1 y0 y1 y2 y3 hnk hnu he hz hR0 hR1 htk FY hby
          by_cases hz0 : 0 ≤ z
          · have hq0 : fromQ lo e = true := by unfold fromQ; rw [HZ.out]; simpa using hz0
            have hok : OkF w.heap.size (fromE lo es) pre' T' (.agg #[.slice A1 nk c1', .int .i64 e.seq, .bool e.dead, .slice A2 nu c2'], e) wy := by
              have hd : ∀ i, (w2.heap.size ≤ i ∧ i < w3.heap.size) ∧ Loose wy i → (w.heap.size ≤ i ∧ ¬ T' i) ∧ Loose wy i := fun i hi => ⟨⟨by have := HWZ.out; have := HM.out; omega, fun h => by
                rcases HT'.out i h with h | h
                · exact HNT.out i (by omega) h
                · omega⟩, hi.2⟩
              refine ⟨⟨_, _, rfl, HR0.out.mono hd, HR1.out.mono hd⟩, ?_⟩
              obtain ⟨rest, hr⟩ := from_rest HPO.out.all HP.out HE.out hq0
              exact ⟨rest, by rw [HPRE'.out]; exact hr⟩
            obtain ⟨fn, tmps, assign, body, hy, hR⟩ := HY.out pre' T' _ wy HJY.out hok
            dsimp only at hy
            have HQ0 := Lib.hid hq0
            clear hok hq0
            refine (wpIn_wide (n := nn)).1 ?_
            gi_wp2_with (first | rw [HWY.out] | (refine ⟨trivial, fun h => absurd h (by decide), ?_⟩; gi_at_call 60; refine (callsIn_wide.2 HCM.out).mono ?_; rintro r w' ⟨rfl, rfl⟩))
            refine ⟨fun h => absurd h (by decide), hR.mono ?_⟩
            rintro ee w6 ⟨T6, gT, oT, (⟨rfl, hj6⟩ | ⟨rfl, hj6⟩)⟩
            · have HJ6 := Lib.hid hj6
              have HG6 := Lib.hid gT
              have HO6 := Lib.hid oT
              clear hy hR hj6 gT oT z0 z1 z2 z3 kl x0 x1 x2 x3
              gi_wp2
              go_wp2
              refine ⟨⟨j + 1, T6, _, by go_num, by omega, ?_, ⟨HO6.out.os.trans HOY.out.os, HO6.out.tape.trans HOY.out.tape, HO6.out.output.trans HOY.out.output, Nat.le_trans HOY.out.size HO6.out.size, fun i hi hn => (HO6.out.block i (by have := HOY.out.size; omega) fun h => ?_).trans (HOY.out.block i hi hn)⟩, HJ6.out, fun i hi => ?_⟩, by simp [intOf]; omega⟩
              · rw [List.map_append, HPRE'.out, HTK.out, ← List.append_assoc, List.filter_append (l₂ := [e])]
                simp [HQ0.out]
              · rcases HT'.out i h with h | h
                · exact hn h
                · omega
              · rcases HG6.out i hi with h | h
                · exact HT'.out i h
                · exact .inr (by omega)
            · have HJX6 := Lib.hid hj6
              clear hy hR hj6 gT oT z0 z1 z2 z3 kl x0 x1 x2 x3
              gi_wp2
              go_wp2
              refine bodyPost_ret (results_none rfl _ _ _) rfl ?_
              exact ⟨⟨_, rfl⟩, .inr ⟨_, T6, trivial, HJX6.out⟩⟩
          · go_wp2_with (first | rw [HWY.out] | (go_at_call 60; refine HCM.out.mono ?_; rintro r w' ⟨rfl, rfl⟩))
            refine ⟨⟨j + 1, T', pre', by go_num, by omega, ?_, HOY.out, HJY.out, HT'.out⟩, by simp [intOf]; omega⟩
            have hq0 : fromQ lo e = false := by unfold fromQ; rw [HZ.out]; simpa using hz0
            rw [HPRE'.out, HTK.out, ← List.append_assoc, List.filter_append (l₂ := [e])]
            simp [hq0]
        · obtain rfl : j = nj := by omega
          have hdel : ∀ ty, (Builtin.delete_ #[132, 136] ty #[.map (some M), .agg #[.int .i64 m, .int .i64 q]]).run Tryz.prog w5 = .ok (.tuple #[]) (upd w5 M (.map #[] (c + 1))) := fun ty => map_del m q M c (c + 1) _ ty w5 HB5.out
          go_wp2_with (first | (rw [hdel]; simp only [Result.andThen_ok]))
          have hM5 := (Array.getElem?_eq_some_iff.1 HB5.out).1
          refine ⟨⟨m + 1, c + 1, T', pre', by go_num, by omega, ?_, HK5.out.only (only_upd _ _ _) fun i hi h => ?_, World.putObj_heap_same hM5, HJ.out _ _ _ _ HJX'.out (Idle.putObj (by have := HM.out; omega) HB5.out rfl), fun i hi => ?_⟩, by simp [intOf]; omega⟩
          · have ht : p.take j = p := List.take_of_length_le (by rw [HNJ.out]; exact Nat.le_refl _)
            rw [HPRE'.out, take_snoc HP.out, List.flatten_append, ht]
            simp
          · have h1 := HS.out i h
            have h2 := HM.out
            omega
          · rcases HT'.out i hi with h | h
            · exact HTR.out i h
            · refine ⟨fun h' => ?_, fun h' => by omega⟩
              have h1 := HS.out i h'
              have h2 := HM.out
              omega
    · obtain rfl : m = np := by omega
      have hfin : pre.map Prod.snd = fromE lo es := by
        rw [HPRE.out, List.take_of_length_le (by rw [HNP.out]; exact Nat.le_refl _), HPO.out.all]
        rfl
      have HFIN := Lib.hid hfin
      clear hfin
      go_wp2
      go_end0
      exact ⟨⟨_, rfl⟩, .inl ⟨pre, T, HFIN.out, HJR.out⟩⟩
end Go.Proofs.YtiffgjodbcploaaGreat
end
section
namespace Go.Proofs.YtiffgjodbcploaaGreat
set_option maxRecDepth 100000
open Go.RowKit Go.BigFrame Go.Shelf
attribute [local go_sem ↓] Go.wp_at_zero Go.wp_at_succ
attribute [local go_sem] Oper.semAt_some
/-- what Get answers of the entries from its key on. -/
def getF (key : List UInt8) (s : Int) : List Ent → Option Ent
  | [] => none
  | e :: l => if e.key = key then (if e.seq ≤ s then some e else getF key s l) else none
theorem getF_skip {key : List UInt8} {s : Int} : ∀ {pre l : List Ent}, (∀ e ∈ pre, e.key = key ∧ s < e.seq) → getF key s (pre ++ l) = getF key s l
  | [], _, _ => rfl
  | e :: pre, l, h => by
    obtain ⟨h1, h2⟩ := h e (by simp)
    rw [List.cons_append, getF, if_pos h1, if_neg (by omega), getF_skip fun x hx => h x (by simp [hx])]
/-- an answer: an entry or none. -/
def GotV (w : World) (lo : Nat) (T : Nat → Prop) (k s d u : Value) (ok : Bool) : Option Ent → Prop
  | none => ok = false ∧ k = .slice none 0 0 ∧ s = .int .i64 0 ∧ d = .bool false ∧ u = .slice none 0 0
  | some e => ok = true ∧ s = .int .i64 e.seq ∧ d = .bool e.dead ∧ Byt w (fun i => (lo ≤ i ∧ ¬ T i) ∧ Loose w i) k e.key ∧ Byt w (fun i => (lo ≤ i ∧ ¬ T i) ∧ Loose w i) u e.val
abbrev T3 (R : Nat) (i : Nat) : Prop := i = R ∨ i = R + 1 ∨ i = R + 1 + 1
def GetI (w1 : World) (R : Nat) (key : List UInt8) (s : Int) (pre : List (Value × Ent)) (T : Nat → Prop) (W : World) : Prop :=
  (∀ e ∈ pre.map Prod.snd, e.key = key ∧ s < e.seq) ∧ T = T3 R ∧ fr w1 W
def GetX (w1 : World) (R : Nat) (lo : Nat) (key : List UInt8) (s : Int) (fs : List Ent) (c : Code) (T : Nat → Prop) (W : World) : Prop :=
  c = .ret ∧ T = T3 R ∧ Only (T3 R) w1 W ∧ ∃ k sq d u ok, W.heap[R]? = some (.cells #[k, sq, d, u] 48 (0, 0)) ∧ Boxed W (R + 1) 4 (.bool ok) ∧ Boxed W (R + 1 + 1) 30 (.int .i64 0) ∧ (∃ A n c, k = .slice A n c) ∧ (∃ A n c, u = .slice A n c) ∧ GotV W lo T k sq d u ok (getF key s fs)
def AxG (lo : Nat) (fs : List Ent) (f : Nat → Value → Array Value) (pre : List (Value × Ent)) (T : Nat → Prop) (x : Value × Ent) (a : Act) (W : World) : Prop :=
  ∃ Bx Ak nk ck Au nu cu, x.1 = .agg #[.slice Ak nk ck, .int .i64 x.2.seq, .bool x.2.dead, .slice Au nu cu] ∧ W.heap[Bx]? = some (.cells #[.slice Ak nk ck, .int .i64 x.2.seq, .bool x.2.dead, .slice Au nu cu] 48 (0, 0)) ∧ Byt W (fun i => (lo ≤ i ∧ ¬ T i) ∧ Loose W i) (.slice Ak nk ck) x.2.key ∧ Byt W (fun i => (lo ≤ i ∧ ¬ T i) ∧ Loose W i) (.slice Au nu cu) x.2.val ∧
    (∃ rest, pre.map Prod.snd ++ x.2 :: rest = fs) ∧ a = { tmps := f Bx x.1, defers := [] }
/-- the three results written. -/
abbrev putG (W : World) (R : Nat) (k sq d u ok er : Value) : World := (((((W.setCell ⟨R, 0, none⟩ k).setCell ⟨R, 1, none⟩ sq).setCell ⟨R, 2, none⟩ d).setCell ⟨R, 3, none⟩ u).setCell ⟨R + 1, 0, none⟩ ok).setCell ⟨R + 1 + 1, 0, none⟩ er
theorem putG_ok {W : World} {R : Nat} {k0 s0 d0 u0 ok0 er0 : Value} (k sq d u ok er : Value) (h0 : W.heap[R]? = some (.cells #[k0, s0, d0, u0] 48 (0, 0))) (h1 : Boxed W (R + 1) 4 ok0) (h2 : Boxed W (R + 1 + 1) 30 er0) :
    (putG W R k sq d u ok er).heap[R]? = some (.cells #[k, sq, d, u] 48 (0, 0)) ∧ Boxed (putG W R k sq d u ok er) (R + 1) 4 ok ∧ Boxed (putG W R k sq d u ok er) (R + 1 + 1) 30 er ∧ Only (T3 R) W (putG W R k sq d u ok er) := by
  have a1 := heap_setCell_same W R 0 _ _ k h0
  have a2 := heap_setCell_same _ R 1 _ _ sq a1
  have a3 := heap_setCell_same _ R 2 _ _ d a2
  have a4 := heap_setCell_same _ R 3 _ _ u a3
  have o4 : Only (fun i => i = R) W ((((W.setCell ⟨R, 0, none⟩ k).setCell ⟨R, 1, none⟩ sq).setCell ⟨R, 2, none⟩ d).setCell ⟨R, 3, none⟩ u) := (((only_set W R 0 _).trans (only_set _ R 1 _)).trans (only_set _ R 2 _)).trans (only_set _ R 3 _)
  have b1 := boxedOnly h1 o4 (by omega)
  have b2 := boxedOnly h2 o4 (by omega)
  refine ⟨?_, ((b1.set ok).other (by omega) er), ((b2.other (by omega) ok).set er), ?_⟩
  · exact (heap_setCell_other _ ⟨R + 1 + 1, 0, none⟩ R er (by show ¬ R = R + 1 + 1; omega)).trans ((heap_setCell_other _ ⟨R + 1, 0, none⟩ R ok (by show ¬ R = R + 1; omega)).trans a4)
  · exact Only.setCell (S := T3 R) (Only.setCell (S := T3 R) (Only.mono o4 fun i h => .inl h) (p := ⟨R + 1, 0, none⟩) (.inr (.inl rfl)) _) (p := ⟨R + 1 + 1, 0, none⟩) (.inr (.inr rfl)) _
abbrev gFrame (Tb z nk ck : Nat) (A : Option Addr) (s : Int) (Bx : Nat) (x : Value) : Array Value :=
  #[.pointer (some ⟨Tb, 0, none⟩), .slice A nk ck, .int .i64 s, undef, .pointer (some ⟨z, 0, none⟩), .pointer (some ⟨z + 1, 0, none⟩), .pointer (some ⟨z + 1 + 1, 0, none⟩), .pointer (some ⟨z + 1 + 1 + 1, 0, none⟩), .pointer (some ⟨z + 1 + 1 + 1 + 1, 0, none⟩), .pointer (some ⟨Bx, 0, none⟩), .int .i64 0, .pointer (some ⟨Tb, 0, none⟩), .bool false, undef, .pointer (some ⟨Tb, 0, none⟩), .slice A nk ck,
    .func (.func 76) #[] #[.pointer (some ⟨z + 5, 0, none⟩), .pointer (some ⟨z + 5 + 1, 0, none⟩)], x, .int .i64 0, undef, undef, undef, undef, undef, undef, undef, undef, undef, undef, undef, undef, undef, undef, undef, undef, undef, undef, undef]
set_option maxRecDepth 100000 in
set_option maxHeartbeats 4000000 in
theorem tget_any (Tb N nk ck : Nat) (A : Option Addr) (s : Int) (S0 S1 : Nat → Prop) (key : List UInt8) (es : List Ent) (ps : List (List Ent)) (w : World) (hkey : Byt w S1 (.slice A nk ck) key) (htab : TabS w S0 Tb N es ps) (hpo : PartsOk es ps) (hN : es.length = N) (hN0 : 0 < N) (hN2 : N ≤ 16777216) (hB2 : bytesE es ≤ 16777216) (hord : orderedE es = true) (hS : ∀ i, S0 i ∨ S1 i → i < w.heap.size) :
    Calls Tryz.prog 21 #[.pointer (some ⟨Tb, 0, none⟩), .slice A nk ck, .int .i64 s] w fun r w' => ∃ k sq d u ok, r = .returned (.tuple #[.agg #[k, sq, d, u], .bool ok, .int .i64 0]) ∧ GotV w' w.heap.size (fun _ => False) k sq d u ok (getF key s (fromE key es)) ∧ fr w w' := by
  have hz1 : (((((w.alloc (.cells #[.slice A nk ck] 42)).alloc (.cells #[.int .i64 s] 3)).alloc (.cells #[.slice none 0 0, .int .i64 0, .bool false, .slice none 0 0] 48)).alloc (.cells #[.bool false] 4)).alloc (.cells #[.int .i64 0] 30)).heap.size = w.heap.size + 5 := by simp
  obtain ⟨wA, hwA⟩ : ∃ x, ((((w.alloc (.cells #[.slice A nk ck] 42)).alloc (.cells #[.int .i64 s] 3)).alloc (.cells #[.slice none 0 0, .int .i64 0, .bool false, .slice none 0 0] 48)).alloc (.cells #[.bool false] 4)).alloc (.cells #[.int .i64 0] 30) = x := ⟨_, rfl⟩
  rw [hwA] at hz1
  have fA : fr w wA := by rw [← hwA]; exact fr.alloc (fr.alloc (fr.alloc (fr.alloc (fr.alloc fr.refl _) _) _) _) _
  have p4 : Boxed wA w.heap.size 42 (.slice A nk ck) := by rw [← hwA]; exact ((((Boxed.new w 42 (.slice A nk ck)).alloc _).alloc _).alloc _).alloc _
  have p5 : Boxed wA (w.heap.size + 1) 3 (.int .i64 s) := by
    rw [← hwA]
    have := (((Boxed.new (w.alloc (.cells #[.slice A nk ck] 42)) 3 (.int .i64 s)).alloc (.cells #[.slice none 0 0, .int .i64 0, .bool false, .slice none 0 0] 48)).alloc (.cells #[.bool false] 4)).alloc (.cells #[.int .i64 0] 30)
    rwa [World.size_alloc] at this
  have p6 : wA.heap[w.heap.size + 1 + 1]? = some (.cells #[.slice none 0 0, .int .i64 0, .bool false, .slice none 0 0] 48 (0, 0)) := by
    rw [← hwA]
    have := heap_alloc_new ((w.alloc (.cells #[.slice A nk ck] 42)).alloc (.cells #[.int .i64 s] 3)) (.cells #[.slice none 0 0, .int .i64 0, .bool false, .slice none 0 0] 48)
    simp only [World.size_alloc] at this
    exact fr.hp (fr.alloc (fr.alloc fr.refl _) _) this
  have p7 : Boxed wA (w.heap.size + 1 + 1 + 1) 4 (.bool false) := by
    rw [← hwA]
    have := (Boxed.new (((w.alloc (.cells #[.slice A nk ck] 42)).alloc (.cells #[.int .i64 s] 3)).alloc (.cells #[.slice none 0 0, .int .i64 0, .bool false, .slice none 0 0] 48)) 4 (.bool false)).alloc (.cells #[.int .i64 0] 30)
    simp only [World.size_alloc] at this
    exact this
  have p8 : Boxed wA (w.heap.size + 1 + 1 + 1 + 1) 30 (.int .i64 0) := by
    rw [← hwA]
    have := Boxed.new ((((w.alloc (.cells #[.slice A nk ck] 42)).alloc (.cells #[.int .i64 s] 3)).alloc (.cells #[.slice none 0 0, .int .i64 0, .bool false, .slice none 0 0] 48)).alloc (.cells #[.bool false] 4)) 30 (.int .i64 0)
    simp only [World.size_alloc] at this
    exact this
  have c4 := p4.cell
  have HFA := Lib.hid fA
  have HWA := Lib.hid hwA
  have P4 := Lib.hid p4
  have P5 := Lib.hid p5
  have P6 := Lib.hid p6
  have P7 := Lib.hid p7
  have P8 := Lib.hid p8
  have HKEY := Lib.hid hkey
  have HTAB := Lib.hid htab
  have HS := Lib.hid hS
  have HPO := Lib.hid hpo
  have HN := Lib.hid hN
  have HORD := Lib.hid hord
  clear fA hwA p4 p5 p6 p7 p8 hkey htab hS hpo hN hord
  refine (callsIn_wide (n := 1)).1 ?_
  refine callsIn_of_wp_marks Tryz.func21 rfl trivial ?_
  simp only [Tryz.ntmps21, List.size_toArray, List.length_cons, List.length_nil, Nat.reduceAdd, Nat.reduceSub, Array.replicate_succ, Array.replicate_zero, List.push_toArray, List.append_toArray, List.nil_append, List.cons_append]
  refine wpIn_wide.2 ?_
  go_wp2_with (first | rw [HWA.out] | (go_at_call 47; refine (tfrom_any Tb nk ck A wA).mono ?_; rintro r w1 ⟨rfl, b1, b2, f1, hz2⟩))
  rw [hz1] at b1 b2
  have HTI := Lib.hid (from_tells 0 w1 (w.heap.size + 5) Tb N nk ck A S0 S1 key es ps ⟨b1, b2, (HKEY.out.below HFA.out).below f1, (HTAB.out.fr HFA.out).fr f1⟩ HPO.out HN.out hN0 hN2 hB2 HORD.out (fun i h => by have := HS.out i h; omega))
  have HF1 := Lib.hid f1
  have HB1 := Lib.hid b1
  have hzz : w1.heap.size = w.heap.size + 7 := by omega
  clear b1 b2 f1 c4
  have HEND : ∀ (W' : World) (D' : Nat) (k sq d u : Value) (ok : Bool), w1.heap.size ≤ D' → W'.heap[D']? = some (.deferred (some [])) → W'.heap[w.heap.size + 1 + 1]? = some (.cells #[k, sq, d, u] 48 (0, 0)) → Boxed W' (w.heap.size + 1 + 1 + 1) 4 (.bool ok) → Boxed W' (w.heap.size + 1 + 1 + 1 + 1) 30 (.int .i64 0) → Only (T3 (w.heap.size + 1 + 1)) w1 W' → GotV W' w1.heap.size (T3 (w.heap.size + 1 + 1)) k sq d u ok (getF key s (fromE key es)) →
      ((W'.putObj D' (.deferred none)).cell? ⟨w.heap.size + 1 + 1, 0, none⟩ = some k ∧ (W'.putObj D' (.deferred none)).cell? ⟨w.heap.size + 1 + 1, 1, none⟩ = some sq ∧ (W'.putObj D' (.deferred none)).cell? ⟨w.heap.size + 1 + 1, 2, none⟩ = some d ∧ (W'.putObj D' (.deferred none)).cell? ⟨w.heap.size + 1 + 1, 3, none⟩ = some u ∧ (W'.putObj D' (.deferred none)).cell? ⟨w.heap.size + 1 + 1 + 1, 0, none⟩ = some (.bool ok) ∧ (W'.putObj D' (.deferred none)).cell? ⟨w.heap.size + 1 + 1 + 1 + 1, 0, none⟩ = some (.int .i64 0)) ∧
      GotV (W'.putObj D' (.deferred none)) w.heap.size (fun _ => False) k sq d u ok (getF key s (fromE key es)) ∧ fr w (W'.putObj D' (.deferred none)) := fun W' D' k sq d u ok hD hk a1 a2 a3 ho hg => by
    have o4 : Only (fun i => i = D') W' (W'.putObj D' (.deferred none)) := ⟨rfl, rfl, rfl, by simp, fun i _ hi => World.putObj_heap_other hi⟩
    have a1' := (o4.block _ (Array.getElem?_eq_some_iff.1 a1).1 (by show ¬ w.heap.size + 1 + 1 = D'; omega)).trans a1
    have hwz := HFA.out.size
    refine ⟨⟨cell_of_row _ _ 0 _ _ _ a1', cell_of_row _ _ 1 _ _ _ a1', cell_of_row _ _ 2 _ _ _ a1', cell_of_row _ _ 3 _ _ _ a1', (boxedOnly a2 o4 (by omega)).cell, (boxedOnly a3 o4 (by omega)).cell⟩, ?_, ?_⟩
    · have hno : ∀ i, Loose W' i → ¬ i = D' := fun i ⟨cs, hl⟩ e => by
        subst e
        rw [hk] at hl
        cases hl
      have hb : ∀ v bs, Byt W' (fun i => (w1.heap.size ≤ i ∧ ¬ T3 (w.heap.size + 1 + 1) i) ∧ Loose W' i) v bs → Byt (W'.putObj D' (.deferred none)) (fun i => (w.heap.size ≤ i ∧ ¬ False) ∧ Loose (W'.putObj D' (.deferred none)) i) v bs := fun v bs h =>
        Byt.mono (S := fun i => (w1.heap.size ≤ i ∧ ¬ T3 (w.heap.size + 1 + 1) i) ∧ Loose W' i) (Byt.only h o4 fun i _ hi => hno i hi.2) fun i hi => ⟨⟨by have := hi.1.1; omega, fun h => h⟩, hi.2.only o4 (hno i hi.2)⟩
      cases hgf : getF key s (fromE key es) with
      | none => rw [hgf] at hg; exact hg
      | some e =>
        rw [hgf] at hg
        obtain ⟨b1, b2, b3, b4, b5⟩ := hg
        exact ⟨b1, b2, b3, hb _ _ b4, hb _ _ b5⟩
    · have h0 := fr.step HFA.out HF1.out
      have o5 := Only.trans (Only.mono ho fun i h => (Or.inl h : T3 (w.heap.size + 1 + 1) i ∨ i = D')) (Only.mono o4 fun i h => Or.inr h)
      exact ⟨o5.os.trans h0.os, o5.tape.trans h0.tape, o5.output.trans h0.output, Nat.le_trans h0.size o5.size, fun i hi => (o5.block i (by omega) (by rintro ((h | h | h) | h) <;> omega)).trans (h0.block i hi)⟩
  refine (wpIn_wide (n := 1)).1 ?_
  refine range_tells rfl (by omega) (gf := 76) (lb := #[.pointer (some ⟨w.heap.size + 5, 0, none⟩), .pointer (some ⟨w.heap.size + 5 + 1, 0, none⟩)]) rfl trivial (enters_of Tryz.func76 (by kernel_rfl) rfl) HTI.out
    ?hD (fun i h => h.elim) (fun pre T T' x A hT h => h.anti hT) (fun _ _ _ h _ => h) (fun _ _ _ h _ => h) (fun _ => rfl)
    (GetI w1 (w.heap.size + 1 + 1) key s) (fun c pre T W => GetX w1 (w.heap.size + 1 + 1) w1.heap.size key s (fromE key es) c T W) ?still ?stillX (T3 (w.heap.size + 1 + 1)) ?t0 ⟨fun e h => by simp at h, rfl, fr.refl⟩
    (AxG w1.heap.size (fromE key es) (gFrame Tb w.heap.size nk ck A s)) ?ax ?assign ?body ?done ?stop ?lt ?ltx
  case assign =>
    rintro l pre T ⟨x1, x2⟩ W K hi' ⟨⟨k, u, hx, hk1, hu1⟩, hrest⟩ hK
    obtain ⟨Ak, ck', rfl⟩ := slice_form hk1
    obtain ⟨Au, cu, rfl⟩ := slice_form hu1
    simp only at hx
    subst hx
    have HK := Lib.hid hk1
    have HU := Lib.hid hu1
    have HI := Lib.hid hi'
    have HR := Lib.hid hrest
    clear hk1 hu1 hi' hrest
    gi_wp2
    have hal : fr W (W.alloc (.cells #[.slice Ak x2.key.length ck', .int .i64 x2.seq, .bool x2.dead, .slice Au x2.val.length cu] 48)) := fr.alloc fr.refl _
    have hI := HI.out
    refine hK _ _ hal ⟨hI.1, hI.2.1, fr.step hI.2.2 hal⟩ ⟨W.heap.size, Ak, _, ck', Au, _, cu, rfl, heap_alloc_new W _, HK.out.idle (Idle.of_below (Z := fun _ => False) (base := 0) hal) (fun _ _ h => h), HU.out.idle (Idle.of_below (Z := fun _ => False) (base := 0) hal) (fun _ _ h => h), HR.out, rfl⟩
  case hD =>
    rintro i (rfl | rfl | h | h)
    · omega
    · omega
    · have := HS.out i (.inl h); omega
    · have := HS.out i (.inr h); omega
  case t0 =>
    intro i hi
    refine ⟨by rcases hi with rfl | rfl | rfl <;> omega, fun h => ?_⟩
    have h1 : i < w.heap.size + 5 ∧ w.heap.size ≤ i := by rcases hi with rfl | rfl | rfl <;> omega
    rcases h with h | h | h | h
    · omega
    · omega
    · have := HS.out i (.inl h); omega
    · have := HS.out i (.inr h); omega
  case still =>
    rintro pre T A B ⟨h1, h2, h3⟩ hi
    exact ⟨h1, h2, hi.os.trans h3.os, hi.tape.trans h3.tape, hi.output.trans h3.output, Nat.le_trans h3.size hi.size, fun i hlt => (hi.block i (Nat.lt_of_lt_of_le hlt h3.size) fun hk => by rcases hk with hk | hk; exact hk; omega).trans (h3.block i hlt)⟩
  case stillX =>
    rintro c pre T A B ⟨h1, h2, h3, k, sq, d, u, ok, a1, a2, a3, a4, a5, a6⟩ hi
    refine ⟨h1, h2, ⟨hi.os.trans h3.os, hi.tape.trans h3.tape, hi.output.trans h3.output, Nat.le_trans h3.size hi.size, fun i hlt hn => (hi.block i (Nat.lt_of_lt_of_le hlt h3.size) fun hk => by rcases hk with hk | hk; exact hk; omega).trans (h3.block i hlt hn)⟩, k, sq, d, u, ok, hi.cells (fun h => h) a1 rfl, hi.cells (fun h => h) a2 rfl, hi.cells (fun h => h) a3 rfl, a4, a5, ?_⟩
    cases hg : getF key s (fromE key es) with
    | none => rw [hg] at a6; exact a6
    | some e =>
      rw [hg] at a6
      obtain ⟨b1, b2, b3, b4, b5⟩ := a6
      exact ⟨b1, b2, b3, b4.idle hi (fun _ _ h => h), b5.idle hi (fun _ _ h => h)⟩
  case ax =>
    rintro pre T x a' A B ⟨Bx, Ak, nk', ck', Au, nu, cu, hx, hbx, hk, hu, hr, rfl⟩ hi
    exact ⟨Bx, Ak, nk', ck', Au, nu, cu, hx, hi.cells (fun h => h) hbx rfl, hk.idle hi (fun _ _ h => h), hu.idle hi (fun _ _ h => h), hr, rfl⟩
  case lt =>
    rintro pre T W i ⟨h1, rfl, h3⟩ hT
    have := h3.size
    rcases hT with rfl | rfl | rfl <;> omega
  case ltx =>
    rintro c pre T W i ⟨h1, rfl, h3, _⟩ hT
    have := h3.size
    rcases hT with rfl | rfl | rfl <;> omega
  case body =>
    rintro l pre T x a' sA W hl hlA hrec hTs hsA ⟨h1, rfl, h3⟩ ⟨Bx, Ak, nk', ck', Au, nu, cu, hx, hbx, hk, hu, hr, rfl⟩
    have P4W := boxedFr (boxedFr P4.out HF1.out) h3
    have P5W := boxedFr (boxedFr P5.out HF1.out) h3
    have P6W := fr.hp h3 (fr.hp HF1.out P6.out)
    have P7W := boxedFr (boxedFr P7.out HF1.out) h3
    have P8W := boxedFr (boxedFr P8.out HF1.out) h3
    have c4 := P4W.cell
    have c5 := P5W.cell
    have x0 := cell_of_row W _ 0 _ _ _ hbx
    have x1 := cell_of_row W _ 1 _ _ _ hbx
    have x2 := cell_of_row W _ 2 _ _ _ hbx
    have x3 := cell_of_row W _ 3 _ _ _ hbx
    have q0 := cell_of_row W _ 0 _ _ _ P6W
    have q1 := cell_of_row W _ 1 _ _ _ P6W
    have q2 := cell_of_row W _ 2 _ _ _ P6W
    have q3 := cell_of_row W _ 3 _ _ _ P6W
    have z0 := frozen_of_row W _ 0 _ _ P6W
    have z1 := frozen_of_row W _ 1 _ _ P6W
    have z2 := frozen_of_row W _ 2 _ _ P6W
    have z3 := frozen_of_row W _ 3 _ _ P6W
    have q4 := P7W.cell
    have z4 := P7W.frozen
    have q5 := P8W.cell
    have z5 := P8W.frozen
    have HQ := fun k sq d u ok er => putG_ok k sq d u ok er P6W P7W P8W
    have HHQ := Lib.hid HQ
    have HBE := Lib.hid (bequal_any _ _ _ _ x.2.key key W hk (((HKEY.out.below HFA.out).below HF1.out).below h3))
    have HK := Lib.hid hk
    have HU := Lib.hid hu
    have HX := Lib.hid hx
    have HRR := Lib.hid hr
    have HH1 := Lib.hid h1
    have HH3 := Lib.hid h3
    clear hrec hTs P4W P5W P6W P7W P8W HQ hk hu hx hr h1 h3 hbx hl hlA
    by_cases hkk : x.2.key = key
    · rw [decide_eq_true hkk] at HBE
      have HKK := Lib.hid hkk
      clear hkk
      by_cases hsq : x.2.seq ≤ s
      · have HSQ := Lib.hid hsq
        gi_wp2_with (refine ⟨trivial, rfl, ?_⟩; gi_at_call 40; refine (CallsIn.inRound l (callsIn_wide.2 HBE.out)).mono ?_; rintro r w' ⟨rfl, hw'⟩; have hw2 : W = w' := hw'; subst hw2)
        obtain ⟨g1, g2, g3, g4⟩ := HHQ.out (.slice Ak nk' ck') (.int .i64 x.2.seq) (.bool x.2.dead) (.slice Au nu cu) (.bool true) (.int .i64 0)
        obtain ⟨rest, hrr⟩ := HRR.out
        refine ⟨T3 _, fun i h => .inl h, Only.mono g4 fun i h => .inl h, rfl, rfl, Only.trans (Only.of_below HH3.out) g4, _, _, _, _, true, g1, g2, g3, ⟨_, _, _, rfl⟩, ⟨_, _, _, rfl⟩, ?_⟩
        rw [← hrr, getF_skip HH1.out, getF, if_pos HKK.out, if_pos HSQ.out]
        exact ⟨rfl, rfl, rfl, Byt.looseOnly HK.out g4 fun i hi => hi.2, Byt.looseOnly HU.out g4 fun i hi => hi.2⟩
      · have HSQ := Lib.hid hsq
        gi_wp2_with (refine ⟨trivial, rfl, ?_⟩; gi_at_call 40; refine (CallsIn.inRound l (callsIn_wide.2 HBE.out)).mono ?_; rintro r w' ⟨rfl, hw'⟩; have hw2 : W = w' := hw'; subst hw2)
        refine ⟨T3 _, fun i h => .inl h, Only.refl _ _, fun e he => ?_, rfl, HH3.out⟩
        rw [List.map_append, List.mem_append] at he
        rcases he with he | he
        · exact HH1.out e he
        · obtain rfl : e = x.2 := by simpa using he
          exact ⟨HKK.out, by have := HSQ.out; omega⟩
    · rw [decide_eq_false hkk] at HBE
      have HKK := Lib.hid hkk
      gi_wp2_with (refine ⟨trivial, rfl, ?_⟩; gi_at_call 40; refine (CallsIn.inRound l (callsIn_wide.2 HBE.out)).mono ?_; rintro r w' ⟨rfl, hw'⟩; have hw2 : W = w' := hw'; subst hw2)
      obtain ⟨g1, g2, g3, g4⟩ := HHQ.out (.slice none 0 0) (.int .i64 0) (.bool false) (.slice none 0 0) (.bool false) (.int .i64 0)
      obtain ⟨rest, hrr⟩ := HRR.out
      refine ⟨T3 _, fun i h => .inl h, Only.mono g4 fun i h => .inl h, rfl, rfl, Only.trans (Only.of_below HH3.out) g4, _, _, _, _, false, g1, g2, g3, ⟨_, _, _, rfl⟩, ⟨_, _, _, rfl⟩, ?_⟩
      rw [← hrr, getF_skip HH1.out, getF, if_neg HKK.out]
      exact ⟨rfl, rfl, rfl, rfl, rfl⟩
  case done =>
    rintro D' xs T W hD' hTs hxs ⟨h1, rfl, h3⟩ hK
    have P6W := fr.hp h3 (fr.hp HF1.out P6.out)
    have P7W := boxedFr (boxedFr P7.out HF1.out) h3
    have P8W := boxedFr (boxedFr P8.out HF1.out) h3
    have q0 := cell_of_row W _ 0 _ _ _ P6W
    have q1 := cell_of_row W _ 1 _ _ _ P6W
    have q2 := cell_of_row W _ 2 _ _ _ P6W
    have q3 := cell_of_row W _ 3 _ _ _ P6W
    have z0 := frozen_of_row W _ 0 _ _ P6W
    have z1 := frozen_of_row W _ 1 _ _ P6W
    have z2 := frozen_of_row W _ 2 _ _ P6W
    have z3 := frozen_of_row W _ 3 _ _ P6W
    have q4 := P7W.cell
    have z4 := P7W.frozen
    have q5 := P8W.cell
    have z5 := P8W.frozen
    have HQ := putG_ok (.slice none 0 0) (.int .i64 0) (.bool false) (.slice none 0 0) (.bool false) (.int .i64 0) P6W P7W P8W
    have HHQ := Lib.hid HQ
    have HH3 := Lib.hid h3
    have hgn : getF key s (fromE key es) = none := by rw [← hxs, ← List.append_nil (xs.map _), getF_skip h1]; rfl
    have HGN := Lib.hid hgn
    have HKD := Lib.hid hK
    clear P6W P7W P8W HQ h3 hTs hxs h1 hgn hK
    go_wp2
    obtain ⟨g1, g2, g3, g4⟩ := HHQ.out
    have hkd := (g4.block D' (Array.getElem?_eq_some_iff.1 HKD.out).1 (by rintro (h | h | h) <;> omega)).trans HKD.out
    obtain ⟨e1, e2, e3⟩ := HEND _ D' _ _ _ _ false hD' hkd g1 g2 g3 (Only.trans (Only.of_below HH3.out) g4) (by rw [HGN.out]; exact ⟨rfl, rfl, rfl, rfl, rfl⟩)
    obtain ⟨s0, s1, s2, s3, s4, s5⟩ := e1
    refine ⟨by simp, .inl ⟨_, _, rfl, run_takeDeferred hkd, ?_⟩⟩
    exact ⟨.tuple #[.agg #[.slice none 0 0, .int .i64 0, .bool false, .slice none 0 0], .bool false, .int .i64 0], by simp [results, Tryz.results21, go_sem, s0, s1, s2, s3, s4, s5], _, _, _, _, false, rfl, e2, e3⟩
  case stop =>
    rintro D' c xs T W hD' hTs _ ⟨rfl, rfl, h3, k, sq, d, u, ok, a1, a2, a3, ⟨Ax, nx, cx, rfl⟩, ⟨Ay, ny, cy, rfl⟩, a6⟩ hK
    obtain ⟨e1, e2, e3⟩ := HEND _ D' _ _ _ _ ok hD' hK a1 a2 a3 h3 a6
    obtain ⟨s0, s1, s2, s3, s4, s5⟩ := e1
    gi_wp2
    try go_wp2
    refine ⟨by simp, .inl ⟨_, _, rfl, run_takeDeferred hK, ?_⟩⟩
    exact ⟨.tuple #[.agg #[.slice Ax nx cx, sq, d, .slice Ay ny cy], .bool ok, .int .i64 0], by simp [results, Tryz.results21, go_sem, s0, s1, s2, s3, s4, s5], _, _, _, _, ok, rfl, e2, e3⟩
end Go.Proofs.YtiffgjodbcploaaGreat
end
section
namespace Go.Proofs.YtiffgjodbcploaaGreat
set_option maxRecDepth 100000
open Go.RowKit Go.BigFrame Go.Shelf
attribute [local go_sem ↓] Go.wp_at_zero Go.wp_at_succ
attribute [local go_sem] Oper.semAt_some
set_option maxRecDepth 100000 in
set_option maxHeartbeats 1000000 in
theorem count_nil (w : World) : Calls Tryz.prog 18 #[.pointer none] w fun r w' => r = .returned (.int .i64 0) ∧ fr w w' := by
  go_enter Tryz.func18, Tryz.ntmps18
  go_wp2
  go_ret
  exact ⟨rfl, fr.refl⟩
set_option maxRecDepth 100000 in
set_option maxHeartbeats 1000000 in
theorem count_any (S : Nat → Prop) (Tb N : Nat) (es : List Ent) (ps : List (List Ent)) (w : World) (h : TabS w S Tb N es ps) : Calls Tryz.prog 18 #[.pointer (some ⟨Tb, 0, none⟩)] w fun r w' => r = .returned (.int .i64 N) ∧ fr w w' := by
  obtain ⟨b, o, n, c, gp, pc, A, ll, lc, ys, h1, _⟩ := h
  have c2 := cell_of_row w Tb 2 _ _ _ h1
  clear h1
  go_enter Tryz.func18, Tryz.ntmps18
  go_wp2
  go_ret
  exact ⟨rfl, fr.refl⟩
set_option maxRecDepth 100000 in
set_option maxHeartbeats 1000000 in
theorem bounds_nil (w : World) : Calls Tryz.prog 16 #[.pointer none] w fun r w' => r = .returned (.tuple #[.slice none 0 0, .slice none 0 0]) ∧ fr w w' := by
  go_enter Tryz.func16, Tryz.ntmps16
  go_wp2
  refine bodyPost_ret (v := .tuple #[.slice none 0 0, .slice none 0 0]) (by simp [results, Tryz.results16, go_sem]) rfl ?_
  exact ⟨rfl, fr.refl⟩
set_option maxRecDepth 100000 in
set_option maxHeartbeats 1000000 in
theorem topen_nil (x : Value) (w : World) : Calls Tryz.prog 14 #[.pointer none, x] w fun r w' => r = .returned (.tuple #[.pointer none, .int .i64 1]) ∧ fr w w' := by
  go_enter Tryz.func14, Tryz.ntmps14
  go_wp2
  refine bodyPost_ret (v := .tuple #[.pointer none, .int .i64 1]) (by simp [results, Tryz.results14, go_sem]) rfl ?_
  exact ⟨rfl, fr.refl⟩
set_option maxRecDepth 100000 in
set_option maxHeartbeats 1000000 in
theorem write_nil (x v s : Value) (w : World) : Calls Tryz.prog 9 #[.pointer none, x, v, s] w fun r w' => r = .returned (.int .i64 1) ∧ fr w w' := by
  have b8 := Boxed.new w 30 (.int .i64 0)
  have hf8 : fr w (w.alloc (.cells #[.int .i64 0] 30)) := fr.alloc fr.refl _
  refine (callsIn_wide (n := 1)).1 ?_
  refine callsIn_of_wp_marks Tryz.func9 rfl trivial ?_
  simp only [Tryz.ntmps9, List.size_toArray, List.length_cons, List.length_nil, Nat.reduceAdd, Nat.reduceSub, Array.replicate_succ, Array.replicate_zero, List.push_toArray, List.append_toArray, List.nil_append, List.cons_append]
  refine wpIn_wide.2 ?_
  go_wp2
  have b9 := (Boxed.new w 30 (.int .i64 1)).cell
  exact ⟨.int .i64 1, by simp [results, Tryz.results9, go_sem, b9], rfl, fr.alloc fr.refl _⟩
set_option maxRecDepth 100000 in
set_option maxHeartbeats 1000000 in
theorem write_none (x : Value) (p size : Nat) (w : World) (hsz : 1 ≤ size ∧ size ≤ 1024) : Calls Tryz.prog 9 #[.pointer (some ⟨p, 0, none⟩), x, .slice none 0 0, .int .i64 size] w fun r w' => r = .returned (.int .i64 30) ∧ fr w w' := by
  obtain ⟨hsz1, hsz2⟩ := hsz
  have hb1 : decide ((size : Int) < 1) = false := by simp; omega
  have hb2 : decide ((1024 : Int) < (size : Int)) = false := by simp; omega
  refine (callsIn_wide (n := 1)).1 ?_
  refine callsIn_of_wp_marks Tryz.func9 rfl trivial ?_
  simp only [Tryz.ntmps9, List.size_toArray, List.length_cons, List.length_nil, Nat.reduceAdd, Nat.reduceSub, Array.replicate_succ, Array.replicate_zero, List.push_toArray, List.append_toArray, List.nil_append, List.cons_append]
  refine wpIn_wide.2 ?_
  go_wp2
  have b9 := (Boxed.new w 30 (.int .i64 30)).cell
  exact ⟨.int .i64 30, by simp [results, Tryz.results9, go_sem, b9], rfl, fr.alloc fr.refl _⟩
set_option maxRecDepth 100000 in
set_option maxHeartbeats 1000000 in
theorem write_twice (F : Nat → Prop) (p : Nat) (k : Pk) (x : Nm) (S0 : Nat → Prop) (g o N c size : Nat) (es : List Ent) (w : World) (hd : DiskP w F p k) (hv : Ents w S0 (.slice (some ⟨g, o, none⟩) N c) es) (hx : x.length ≤ 140737488355328) (hsz : 1 ≤ size ∧ size ≤ 1024) (hord : orderedE es = true) (hN0 : 0 < N) (hr : readyE k [x] = 0) :
    Calls Tryz.prog 9 #[.pointer (some ⟨p, 0, none⟩), .string ⟨x.toArray⟩, .slice (some ⟨g, o, none⟩) N c, .int .i64 size] w fun r w' => r = .returned (.int .i64 31) ∧ fr w w' := by
  obtain ⟨hsz1, hsz2⟩ := hsz
  have hb1 : decide ((size : Int) < 1) = false := by simp; omega
  have hb2 : decide ((1024 : Int) < (size : Int)) = false := by simp; omega
  have R0 : ∀ wx, fr w wx → Calls Tryz.prog 26 #[.slice (some ⟨g, o, none⟩) N c] wx fun r w' => r = .returned (.bool true) ∧ fr wx w' := fun wx hx => by
    refine (ordered_any S0 _ es wx (hv.below hx)).mono ?_
    rintro r w' ⟨rfl, h⟩
    rw [hord]
    exact ⟨rfl, h⟩
  have HR0 := Lib.hid R0
  have HR1 := Lib.hid (fun wx (hx : fr w wx) => read_any F p k x wx (hd.below hx) (by assumption))
  rw [hr] at HR1
  have b8 := Boxed.new w 30 (.int .i64 0)
  have hf8 : fr w (w.alloc (.cells #[.int .i64 0] 30)) := fr.alloc fr.refl _
  clear R0 hv hd hr
  refine (callsIn_wide (n := 1)).1 ?_
  refine callsIn_of_wp_marks Tryz.func9 rfl trivial ?_
  simp only [Tryz.ntmps9, List.size_toArray, List.length_cons, List.length_nil, Nat.reduceAdd, Nat.reduceSub, Array.replicate_succ, Array.replicate_zero, List.push_toArray, List.append_toArray, List.nil_append, List.cons_append]
  refine wpIn_wide.2 ?_
  go_wp2_with (first
    | (go_at_call 26; refine (HR0.out _ hf8).mono ?_; rintro r w1 ⟨rfl, f1⟩)
    | (go_at_call 24; refine (HR1.out _ (fr.step hf8 f1)).mono ?_; rintro r w2 ⟨v2, rfl, hv2, f2⟩; have h8 := boxedFr (boxedFr b8 f1) f2; have c8 := h8.cell; have z8 := h8.frozen; have HB8 := Lib.hid h8; have HF2 := Lib.hid (fr.step (fr.step hf8 f1) f2); clear hv2 h8 f2 b8 hf8))
  have h9 := (HB8.out.set (.int .i64 31)).cell
  have f := HF2.out
  exact ⟨.int .i64 31, by simp [results, Tryz.results9, go_sem, h9], rfl, f.os, f.tape, f.output, by have := f.size; simp [World.setCell]; omega, fun i hi => (Below.heap_setCell w2 ⟨w.heap.size, 0, none⟩ _ i (by show ¬ i = w.heap.size; omega)).trans (f.block i hi)⟩
end Go.Proofs.YtiffgjodbcploaaGreat
end
section
namespace Go.Proofs.YtiffgjodbcploaaGreat
set_option maxRecDepth 100000
open Go.RowKit Go.BigFrame Go.Shelf
attribute [local go_sem ↓] Go.wp_at_zero Go.wp_at_succ
/-- a calm disk; with one file. -/
def calm0 : Pk := ⟨[], -1, -1, [], 0, 0, false⟩
def calm1 (x : Nm) (b : List UInt8) : Pk := ⟨[⟨x, b, b.length⟩], -1, -1, [], 2, wrap64 b.length, false⟩
theorem calm_ready : readyE calm0 [[116]] = 22 := by decide
theorem calm_append (b : List UInt8) : appendE calm0 [116] b = 0 := by
  unfold appendE
  rw [calm_ready]
  rfl
theorem calm_appendK (b : List UInt8) : appendK calm0 [116] b = ⟨[⟨[116], b, 0⟩], -1, -1, [], 1, wrap64 b.length, false⟩ := by
  have h1 : crashes calm0 = false := by decide
  have h2 : fullP calm0 b.length = false := rfl
  have h3 : appFs [116] b calm0.fs = [⟨[116], b, 0⟩] := rfl
  unfold appendK
  have h4 : changeK calm0 = ⟨[], -1, -1, [], 1, 0, false⟩ := rfl
  rw [calm_ready, if_pos (.inr rfl), h2, h1, h3, h4]
  simp [calm0]
theorem calm_sync (b : List UInt8) : syncE (appendK calm0 [116] b) [116] = 0 ∧ syncK (appendK calm0 [116] b) [116] = calm1 [116] b := by
  rw [calm_appendK]
  have h1 : readyE ⟨[⟨[116], b, 0⟩], -1, -1, [], 1, wrap64 b.length, false⟩ [[116]] = 0 := rfl
  have h2 : crashes ⟨[⟨[116], b, 0⟩], -1, -1, [], 1, wrap64 b.length, false⟩ = false := rfl
  refine ⟨?_, ?_⟩
  · unfold syncE
    rw [if_pos h1]
    rfl
  · unfold syncK
    rw [if_pos h1, h2]
    rfl
theorem calm_ready1 (b : List UInt8) : readyE (calm1 [116] b) [[116]] = 0 := rfl
theorem calm_read1 (b : List UInt8) : readD (calm1 [116] b) [116] = b := rfl
/-- Write on a calm disk. -/
theorem write_calm (F : Nat → Prop) (p : Nat) (S0 : Nat → Prop) (g o N c size : Nat) (es : List Ent) (w : World) (h : DiskP w F p calm0) (hv : Ents w S0 (.slice (some ⟨g, o, none⟩) N c) es) (hN : es.length = N) (hS0 : ∀ i, S0 i → i < w.heap.size) (hsz : 1 ≤ size ∧ size ≤ 1024) (hord : orderedE es = true) (hN0 : 0 < N) (hN2 : N ≤ 16777216) (hB2 : bytesE es ≤ 16777216) :
    Calls Tryz.prog 9 #[.pointer (some ⟨p, 0, none⟩), .string ⟨#[116]⟩, .slice (some ⟨g, o, none⟩) N c, .int .i64 size] w fun r w' => ∃ ps, PartsOk es ps ∧ r = .returned (.int .i64 0) ∧ DiskP w' (orNew F w.heap.size) p (calm1 [116] (sealF (fileF N ps))) ∧ Only F w w' := by
  refine (write_ok F p calm0 [116] S0 g o N c size es w h hv hN hS0 (by simp) hsz hord ((ordered_iff es).1 hord).1 hN0 hN2 hB2 calm_ready (by decide) (by decide) (by decide)).mono ?_
  rintro r w' ⟨ps, hps, rfl, h', ho⟩
  obtain ⟨s1, s2⟩ := calm_sync (sealF (fileF N ps))
  rw [calm_append, if_pos rfl, s1]
  rw [calm_append, if_pos rfl, s2] at h'
  exact ⟨ps, hps, rfl, h', ho⟩
set_option maxRecDepth 100000 in
set_option maxHeartbeats 1000000 in
theorem calm_any (w : World) : Calls Tryz.prog 8 #[] w fun r w' => r = .returned (.agg #[.int .i64 (-1), .int .i64 (-1), .slice none 0 0]) ∧ fr w w' := by
  go_enter Tryz.func8, Tryz.ntmps8
  go_wp2
  have hb := heap_alloc_new w (.cells #[.int .i64 (-1), .int .i64 (-1), .slice none 0 0] 28)
  have c0 := cell_of_row _ _ 0 _ _ _ hb
  have c1 := cell_of_row _ _ 1 _ _ _ hb
  have c2 := cell_of_row _ _ 2 _ _ _ hb
  refine bodyPost_ret (v := .agg #[.int .i64 (-1), .int .i64 (-1), .slice none 0 0]) (by simp [results, Tryz.results8, go_sem, c0, c1, c2]) rfl ?_
  exact ⟨rfl, fr.alloc fr.refl _⟩
def tk1 : Ent := ⟨[98], 5, false, [120]⟩
def tk2 : Ent := ⟨[98], 3, false, []⟩
def tk3 : Ent := ⟨[99], 4, true, []⟩
theorem Byt.one {w : World} {S : Nat → Prop} {g c : Nat} {b : UInt8} {v : Value} (h : w.cell? ⟨g, 0, none⟩ = some v) (hv : v = bcell b) (hS : S g) (hc : 1 ≤ c) (hc' : c ≤ 9223372036854775807) : Byt w S (.slice (some ⟨g, 0, none⟩) 1 c) [b] := by
  subst hv
  refine ⟨_, _, rfl, hc, hc', by simp, ⟨by simp, fun _ => ⟨g, 0, rfl, hS, World.block_lt_of_cell? w _ h, fun j u hu => ?_⟩⟩⟩
  match j, hu with
  | 0, hu => simp at hu; subst hu; simpa using h
theorem cell_marked (w : World) (cs : Array Value) (t : TypeId) (fr : Nat × Nat) (g j : Nat) (hg : g = w.heap.size) : (w.alloc (.cells cs t fr)).cell? ⟨g, j, none⟩ = cs[j]? := by
  subst hg; exact cell_of_row _ _ j cs t fr (heap_alloc_new w _)
/-- the literal of three. -/
theorem tlit3 (w : World) (T : TypeId) (W : World) (sz : Nat) (hsz : sz = w.heap.size)
    (hW : W = (((((w.alloc (.cells #[.int .u8 98] T (1, 2))).alloc (.cells #[.int .u8 120] T (1, 2))).alloc (.cells #[.int .u8 98] T (1, 2))).alloc (.cells #[.int .u8 99] T (1, 2))).alloc
      (.cells #[.slice (some ⟨sz, 0, none⟩) 1 1, .int .i64 5, .bool false, .slice (some ⟨sz + 1, 0, none⟩) 1 1, .slice (some ⟨sz + 1 + 1, 0, none⟩) 1 1, .int .i64 3, .bool false, .slice none 0 0, .slice (some ⟨sz + 1 + 1 + 1, 0, none⟩) 1 1, .int .i64 4, .bool true, .slice none 0 0] 48))) :
    Ents W (fun i => w.heap.size ≤ i ∧ i < W.heap.size) (.slice (some ⟨sz + 1 + 1 + 1 + 1, 0, none⟩) 3 3) [tk1, tk2, tk3] ∧ Below w.heap.size w W := by
  subst hW hsz
  have hb : Below w.heap.size w (((((w.alloc (.cells #[.int .u8 98] T (1, 2))).alloc (.cells #[.int .u8 120] T (1, 2))).alloc (.cells #[.int .u8 98] T (1, 2))).alloc (.cells #[.int .u8 99] T (1, 2))).alloc
      (.cells #[.slice (some ⟨w.heap.size, 0, none⟩) 1 1, .int .i64 5, .bool false, .slice (some ⟨w.heap.size + 1, 0, none⟩) 1 1, .slice (some ⟨w.heap.size + 1 + 1, 0, none⟩) 1 1, .int .i64 3, .bool false, .slice none 0 0, .slice (some ⟨w.heap.size + 1 + 1 + 1, 0, none⟩) 1 1, .int .i64 4, .bool true, .slice none 0 0] 48)) :=
    (((((Below.refl _ _).alloc (Nat.le_refl _) _).alloc (by simp) _).alloc (by simp; omega) _).alloc (by simp; omega) _).alloc (by simp; omega) _
  refine ⟨?_, hb⟩
  refine ⟨_, _, [.slice (some ⟨w.heap.size, 0, none⟩) 1 1, .int .i64 5, .bool false, .slice (some ⟨w.heap.size + 1, 0, none⟩) 1 1, .slice (some ⟨w.heap.size + 1 + 1, 0, none⟩) 1 1, .int .i64 3, .bool false, .slice none 0 0, .slice (some ⟨w.heap.size + 1 + 1 + 1, 0, none⟩) 1 1, .int .i64 4, .bool true, .slice none 0 0], rfl, by simp, by simp, by simp, ⟨by simp, fun _ => ⟨_, 0, rfl, ⟨by first | omega | (simp; done) | (simp; omega), by first | (simp; done) | (simp; omega)⟩, by simp, fun j u hu => ?_⟩⟩, ?_⟩
  · rw [World.cell?_alloc_at _ _ _ _ (by simp)]
    simpa using hu
  · refine ⟨rfl, rfl, Byt.one (v := .int .u8 98) ?_ rfl ⟨by first | omega | (simp; done) | (simp; omega), by first | (simp; done) | (simp; omega)⟩ (by omega) (by omega), Byt.one (v := .int .u8 120) ?_ rfl ⟨by first | omega | (simp; done) | (simp; omega), by first | (simp; done) | (simp; omega)⟩ (by omega) (by omega), rfl, rfl, Byt.one (v := .int .u8 98) ?_ rfl ⟨by first | omega | (simp; done) | (simp; omega), by first | (simp; done) | (simp; omega)⟩ (by omega) (by omega), Byt.nil _ _, rfl, rfl, Byt.one (v := .int .u8 99) ?_ rfl ⟨by first | omega | (simp; done) | (simp; omega), by first | (simp; done) | (simp; omega)⟩ (by omega) (by omega), Byt.nil _ _, trivial⟩
    · exact Lib.cell?_alloc_marked _ (Lib.cell?_alloc_marked _ (Lib.cell?_alloc_marked _ (Lib.cell?_alloc_marked _ (cell_marked _ _ _ _ _ _ rfl))))
    · exact Lib.cell?_alloc_marked _ (Lib.cell?_alloc_marked _ (Lib.cell?_alloc_marked _ (cell_marked _ _ _ _ _ _ (by simp))))
    · exact Lib.cell?_alloc_marked _ (Lib.cell?_alloc_marked _ (cell_marked _ _ _ _ _ _ (by simp)))
    · exact Lib.cell?_alloc_marked _ (cell_marked _ _ _ _ _ _ (by simp))
end Go.Proofs.YtiffgjodbcploaaGreat
end
