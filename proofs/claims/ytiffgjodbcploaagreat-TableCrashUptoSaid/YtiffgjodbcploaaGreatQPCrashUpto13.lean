/-
A table in memory, by the set of its blocks; what table.from tells, plain words.
-/
import Derived.Test.YtiffgjodbcploaaGreatQPCrashUpto12
import Derived.Test.YtiffgjodbcploaaGreatQPCrashUpto4
import Derived.DeepKeys4
import Derived.Maps.Keyed
import Derived.Carry
import Derived.Test.YtiffgjodbcploaaGreatQPCrashUpto6
section
namespace Go.Proofs.YtiffgjodbcploaaGreat
set_option maxRecDepth 100000
open Go.RowKit Go.BigFrame Go.Shelf
attribute [local go_sem ↓] Go.wp_at_zero Go.wp_at_succ
/-- an entry in a block of its own. -/
def EntB (w : World) (lo B : Nat) (e : Ent) : Prop := ∃ Ak nk ck Au nu cu, w.heap[B]? = some (.cells #[.slice Ak nk ck, .int .i64 e.seq, .bool e.dead, .slice Au nu cu] 48 (0, 0)) ∧ BytL w lo (.slice Ak nk ck) e.key ∧ BytL w lo (.slice Au nu cu) e.val
/-- the table's own block, while it is read. -/
def TabC (w : World) (Tb b o n c : Nat) (A : Option Addr) (m pc cnt : Nat) (lA : Option Addr) (ll lc : Nat) : Prop := w.heap[Tb]? = some (.cells #[.slice (some ⟨b, o, none⟩) n c, .slice A m pc, .int .i64 cnt, .slice lA ll lc] 95 (0, 0))
theorem Loose.neT {w : World} {i : Nat} {cs : Array Value} {t : TypeId} (h : Loose w i) (h2 : w.heap[i]? = some (.cells cs t (0, 0))) : t = 5 := by
  obtain ⟨c, h⟩ := h
  rw [h] at h2
  injection h2 with h2
  injection h2 with _ h2
  exact h2.symm
theorem BytL.cut {w : World} {lo b o n c : Nat} {bs : List UInt8} (h : BytL w lo (.slice (some ⟨b, o, none⟩) n c) bs) {f m c' : Nat} (hf : f + m ≤ n) (hc : m ≤ c') (hcm : c' ≤ 9223372036854775807) : BytL w lo (.slice (some ⟨b, o + f, none⟩) m c') ((bs.drop f).take m) := Byt.cut h hf hc hcm
theorem step_rowQ {w : World} {ops : Array Oper} {o : Oper} {a : Act} {K : Act → World → Prop} {Q : Exit → Act → World → Prop} {E : Prop} (hgd : o.guard = none) (s x : Operand)
    (ho : o.op = .call { callee := .builtin .append, args := #[s, x], argTypes := #[93, 93] }) (base : Nat) (v : Value) (k : Nat) (xs : List Value) (hs : a.eval s = v) (hown : w.ownsRow base 100 5 v k xs)
    (g : Nat) (news : List Value) (hx : a.eval x = .slice (some ⟨g, 0, none⟩) 1 1) (hn : news.length = 5) (hc : ∀ j u, news[j]? = some u → w.cell? ((⟨g, 0, none⟩ : Addr).add j) = some u) (h1c : ∀ u ∈ news, u.oneCell' = true) (hm : k + 1 ≤ 1099511627776) (hbase : base ≤ w.heap.size)
    (hK : ∀ g c w', w'.ownsRow base 100 5 (.slice (some ⟨g, 0, none⟩) (k + 1) c) (k + 1) (xs ++ news) → w.grownBy w' v.ownBlock → (some g = v.ownBlock ∨ g = w.heap.size) → K (a.put o.dst (.slice (some ⟨g, 0, none⟩) (k + 1) c)) w') :
    if Region.wanted o (yielded ops a.tmps) = true then Oper.wp Tryz.prog o a w K Q else E := by
  have hw : Region.wanted o (yielded ops a.tmps) = true := by simp [Region.wanted, hgd]
  rw [if_pos hw]
  obtain ⟨i0, hi, hz0, hz1, hz2⟩ := info_parts infoP
  obtain ⟨v', w', hrun, h2, h3, _, h5⟩ := run_append_own_at (P := Tryz.prog) w base 93 o.type 100 i0 _ 5 72 Tryz.underlying93 hi hz0 hz1 hz2 rfl (by decide) v k xs hown ⟨g, 0, none⟩ 1 1 news (by omega) hc h1c (by unfold maxLen; omega) (by omega) hbase
  obtain ⟨g', c', rfl⟩ := ownsRow_succ h2
  unfold Oper.wp execOp
  simp only [ho, resolve, invoke, builtin, Sem.run_bind, Sem.run_pure, Result.andThen_ok, List.map_toArray, List.map_cons, List.map_nil, hs, hx, hrun]
  refine hK g' c' w' h2 h3 (h5.imp (fun h => ?_) fun h => ?_)
  · simpa [Value.ownBlock] using h
  · simpa [Value.ownBlock] using h
theorem cell_five_new (w : World) (a b c d e : Value) (t : TypeId) : ∀ j u, [a, b, c, d, e][j]? = some u → (w.alloc (.cells #[a, b, c, d, e] t)).cell? ((⟨w.heap.size, 0, none⟩ : Addr).add j) = some u := by
  intro j u hu
  rw [Addr.add_lit, World.cell?_alloc_at _ _ _ _ rfl]
  simpa using hu
theorem EntB.only {w w' : World} {lo B : Nat} {e : Ent} {S : Nat → Prop} (h : EntB w lo B e) (ho : Only S w w') (hB : ¬ S B) (hd : ∀ i, Loose w i → ¬ S i) : EntB w' lo B e := by
  obtain ⟨Ak, nk, ck, Au, nu, cu, h1, h2, h3⟩ := h
  exact ⟨Ak, nk, ck, Au, nu, cu, (ho.block B (Array.getElem?_eq_some_iff.1 h1).1 hB).trans h1, h2.only ho fun i _ hl => hd i hl, h3.only ho fun i _ hl => hd i hl⟩
set_option maxRecDepth 100000 in
set_option maxHeartbeats 4000000 in
theorem index_any (lo Tb b o n c N : Nat) (es : List Ent) (ps : List (List Ent)) (w : World) (hP : TabC w Tb b o n c none 0 0 0 none 0 0) (hlo : lo ≤ Tb) (hv : BytL w lo (.slice (some ⟨b, o, none⟩) n c) (fileF N ps)) (hn : (fileF N ps).length = n) (hpo : PartsOk es ps) (hN : es.length = N) (hN0 : 0 < N) (hN2 : N ≤ 16777216) (_hB2 : bytesE es ≤ 16777216) (hord : orderedE es = true) :
    Calls Tryz.prog 41 #[.pointer (some ⟨Tb, 0, none⟩)] w fun r w' => r = .returned (.bool true) ∧ TabV w' lo Tb N es ps ∧ Only (fun i => i = Tb) w w' := by
  obtain ⟨i0, hi, hz0, hz1, hz2⟩ := info_parts infoP
  obtain ⟨hgl, hpw⟩ := (ordered_iff es).1 hord
  have hfle := fileF_le hpo
  rw [hN, hn] at hfle
  have hfl := formN_len N
  have hput := readF_put (formN N) ((ps.map partF).flatten) (by omega)
  have hdr0 : (fileF N ps).drop 0 = putF (formN N) ++ (ps.map partF).flatten := rfl
  obtain ⟨nf, hnf⟩ : ∃ q, (formN N).length = q := ⟨_, rfl⟩
  rw [hnf] at hfl hput
  have hoff0 : offF N ps 0 = nf + 8 := by unfold offF; simp [putF_len, hnf]
  have HR : Hid (Calls Tryz.prog 68 #[.slice (some ⟨b, o, none⟩) n c, .int .i64 0] w fun r w' => ∃ b1 o1 c1, r = .returned (.tuple #[.slice (some ⟨b1, o1, none⟩) nf c1, .int .i64 (nf + 8 : Nat), .int .i64 0]) ∧ Byt w' (fun _ => True) (.slice (some ⟨b1, o1, none⟩) nf c1) (formN N) ∧ fr w w') := Lib.hid (by
    refine (fread_some _ b o n c 0 (fileF N ps) w hv (Nat.zero_le _) hn).mono ?_
    rintro r w' ⟨v', p, q, e, h1, rfl, h2, h3⟩
    rw [hdr0, hput] at h1
    simp only [Prod.mk.injEq] at h1
    obtain ⟨rfl, rfl, rfl⟩ := h1
    obtain ⟨A1, c1, rfl⟩ := slice_form h2
    obtain ⟨b1, o1, rfl⟩ := Byt.some_of h2 (by omega)
    rw [hnf] at h2 ⊢
    exact ⟨b1, o1, c1, by rw [if_pos rfl, show 0 + (8 + nf) = nf + 8 by omega], h2.byt.mono fun _ _ => trivial, h3⟩)
  have hPC : w.heap[Tb]? = some (.cells #[.slice (some ⟨b, o, none⟩) n c, .slice none 0 0, .int .i64 0, .slice none 0 0] 95 (0, 0)) := hP
  have c0 := cell_of_row w Tb 0 _ _ _ hPC
  have HV := Lib.hid hv
  have HPO := Lib.hid hpo
  have HGL := Lib.hid hgl
  have HPW := Lib.hid hpw
  have HN := Lib.hid hN
  have HNF := Lib.hid hnf
  have HOFF0 := Lib.hid hoff0
  have HPT := Lib.hid hPC
  have HFN := Lib.hid hn
  clear hv hpo hgl hpw hord hN hP hPC hput hdr0 hnf hoff0 hn
  go_enter Tryz.func41, Tryz.ntmps41
  go_wp2_with (first
    | (go_at_call 68; refine HR.out.mono ?_; rintro r w1 ⟨b1, o1, c1, rfl, hb1, f1⟩)
    | (go_at_call 69; refine (uint_any _ b1 o1 nf c1 0 N (formN N) [] w1 hb1 HNF.out (Nat.zero_le _) (by simp) (by omega)).mono ?_; rintro r w2 ⟨rfl, hw2⟩; rw [HNF.out, Nat.zero_add]; have hw2' : w1 = w2 := hw2.symm; subst hw2'))
  have hz1 := Below.size f1
  have hTb := (Array.getElem?_eq_some_iff.1 HPT.out).1
  have hE8 := heap_alloc_new w1 (.cells #[.slice none 0 0, .int .i64 0, .bool false, .slice none 0 0] 48)
  have fA : fr w (w1.alloc (.cells #[.slice none 0 0, .int .i64 0, .bool false, .slice none 0 0] 48)) := fr.alloc f1 _
  have hzA : (w1.alloc (.cells #[.slice none 0 0, .int .i64 0, .bool false, .slice none 0 0] 48)).heap.size = w1.heap.size + 1 := World.size_alloc _ _
  generalize w1.alloc (.cells #[.slice none 0 0, .int .i64 0, .bool false, .slice none 0 0] 48) = w2 at hE8 fA hzA ⊢
  obtain ⟨E, hE⟩ : ∃ E, w1.heap.size = E := ⟨_, rfl⟩
  rw [hE] at hE8 hzA ⊢
  have HE8 := Lib.hid hE8
  have HFA := Lib.hid fA
  have HZA := Lib.hid hzA
  have HE := Lib.hid hE
  have HTb := Lib.hid hTb
  have hEw : w.heap.size ≤ E := by omega
  have hlow : lo ≤ w.heap.size := by omega
  have hTbE : Tb < E := by omega
  clear hb1 f1 hE8 fA hzA hE c0 HR hz1 hTb
  go_loopw [4] (fun x wr => ∃ (m q pc ll lc : Nat) (A lA : Option Addr) (ys : List Value) (a : Ent), m ≤ ps.length ∧ x = .int .i64 q ∧ q = offF N ps m ∧ TabC wr Tb b o n c A m pc (ps.take m).flatten.length lA ll lc ∧ wr.ownsRow (E + 1) 100 5 (.slice A m pc) m ys ∧ PcAt wr lo N ps m ys ∧ EntB wr lo E a ∧ (∀ k, (ps.take m).flatten.length = k + 1 → es[k]? = some a ∧ BytL wr lo (.slice lA ll lc) a.key) ∧ Only (fun i => i = Tb) w wr ∧ E < wr.heap.size) (fun x _ => n - (intOf x).toNat)
  case atStart => exact ⟨0, nf + 8, 0, 0, 0, none, none, [], ⟨[], 0, false, []⟩, Nat.zero_le _, rfl, HOFF0.out.symm, fr.hp HFA.out HPT.out, World.ownsRow_nil _ _ _ _, fun i p e h => absurd h (by omega), ⟨none, 0, 0, none, 0, 0, HE8.out, BytL.nil _ _, BytL.nil _ _⟩, fun k h => by simp at h, Only.of_below HFA.out, by have := HZA.out; omega⟩
  case round =>
    clear HE8
    obtain ⟨m, q, pc, ll, lc, A, lA, ys, a, hm, rfl, hq, hT, hrow, hpa, hea, hlast, how, hEw2⟩ := hrel
    obtain ⟨w3, hw3⟩ : ∃ x, x = wr := ⟨_, rfl⟩
    subst hw3
    have hTC : w3.heap[Tb]? = some (.cells #[.slice (some ⟨b, o, none⟩) n c, .slice A m pc, .int .i64 ((ps.take m).flatten.length : Nat), .slice lA ll lc] 95 (0, 0)) := hT
    have hnT : ∀ i, Loose w i → ¬ i = Tb := fun i hl e => by
      have := hl.neT (e ▸ HPT.out)
      exact absurd this (by decide)
    have HV3 := Lib.hid (HV.out.only how fun i _ hl => hnT i hl)
    obtain ⟨cnt, hcnt⟩ : ∃ q, (ps.take m).flatten.length = q := ⟨_, rfl⟩
    rw [hcnt] at hT hTC hlast
    have c0 := cell_of_row w3 Tb 0 _ _ _ hTC
    have c2 := cell_of_row w3 Tb 2 _ _ _ hTC
    have HT := Lib.hid hTC
    have HROW := Lib.hid hrow
    have HPA := Lib.hid hpa
    have HEA := Lib.hid hea
    have HLAST := Lib.hid hlast
    have HOW := Lib.hid how
    have HQ := Lib.hid hq
    have HCNT := Lib.hid hcnt
    clear hT hTC hrow hpa hea hlast how hq hcnt hnT
    by_cases hmp : m < ps.length
    · obtain ⟨p, hp⟩ : ∃ p, ps[m]? = some p := ⟨_, List.getElem?_eq_getElem hmp⟩
      obtain ⟨hp0, hp1, hp2⟩ := HPO.out.part p (List.mem_of_getElem? hp)
      obtain ⟨hat, hoff⟩ := offF_at (n := N) hp
      rw [← HQ.out] at hat hoff
      have hplen := putF_len (buildGo [] (pairsF 0 p))
      have hpe : (partF p).length = (buildGo [] (pairsF 0 p)).length + 8 := hplen
      have hqn : q + (partF p).length ≤ n := by rw [← hoff, ← HFN.out]; exact offF_le _ _ _
      have hpg : GoodL p := fun e he => HGL.out e (by rw [← HPO.out.all]; exact List.mem_flatten.2 ⟨p, List.mem_of_getElem? hp, he⟩)
      have HRD := Lib.hid (tread_any _ Tb b o n c q (fileF N ps) _ p w3 c0 HV3.out.byt HFN.out (by omega) hat hp0 hp1 hp2 hpg)
      obtain ⟨np, hnp⟩ : ∃ q, p.length = q := ⟨_, rfl⟩
      rw [hnp] at HRD hp0 hp1
      obtain ⟨q2, hq2⟩ : ∃ x, q + (partF p).length = x := ⟨_, rfl⟩
      rw [hq2] at HRD hqn hoff
      have hqq : q < q2 := by omega
      have HP := Lib.hid hp
      have HNP := Lib.hid hnp
      have HOFF := Lib.hid hoff
      have hcb : cnt + np ≤ N := by
        have h1 := take_flat_len hp
        have h2 := take_flat_le (ps.map id) (m + 1)
        rw [List.map_id, HPO.out.all, HN.out] at h2
        rw [HCNT.out, hnp] at h1
        omega
      have HAT : Hid (∀ j e, p[j]? = some e → es[cnt + j]? = some e) := Lib.hid fun j e he => by
        have := flat_at2 hp he
        rwa [HPO.out.all, HCNT.out] at this
      have HHD : Hid (∃ e0, p[0]? = some e0) := Lib.hid ⟨_, List.getElem?_eq_getElem (by omega)⟩
      clear hp hat hoff hplen hpe hpg hnp hq2 hp2
      go_wp2_with (go_at_call 70; refine HRD.out.mono ?_; rintro r w4 ⟨v, yl, T, rfl, hrl, hel, hTl, f4⟩; obtain ⟨gl, cl, rfl⟩ : ∃ g cap, v = .slice (some ⟨g, 0, none⟩) np cap := by (have h := hrl; rw [show np = (np - 1) + 1 by omega] at h ⊢; exact ownsRow_succ h))
      have hgl : w3.heap.size ≤ gl ∧ gl < w4.heap.size := by
        rcases hrl.2 with ⟨h, h0⟩ | ⟨g, cap, cur, h, hb, hh, _⟩
        · omega
        · simp only [Value.slice.injEq, Option.some.injEq] at h
          obtain ⟨h, _⟩ := h
          injection h with h
          subst h
          exact ⟨hb, (Array.getElem?_eq_some_iff.1 hh).1⟩
      obtain ⟨hgl1, hgl2⟩ := hgl
      have hTE : Tb < w3.heap.size := (Array.getElem?_eq_some_iff.1 HT.out).1
      have HLC : Hid (∀ i u, yl[i]? = some u → w4.cell? ⟨gl, i, none⟩ = some u) := Lib.hid fun i u hu => by
        have h := hrl.cells (g := gl) rfl i u hu
        rwa [Addr.add_lit, Nat.zero_add] at h
      have HEL : Hid (EntCells w4 (fun i => lo ≤ i ∧ Loose w4 i) yl p) := Lib.hid (EntCells.mono hel fun i hi => ⟨by have := hi.1.1; have := HOW.out.size; omega, hi.2⟩)
      have HT4 := Lib.hid (fr.hp f4 HT.out)
      have HEA4 : Hid (EntB w4 lo E a) := Lib.hid (HEA.out.only (S := fun _ => False) (Only.of_below f4) (fun h => h) fun _ _ h => h)
      have HF4 := Lib.hid f4
      have hz4 := Below.size f4
      clear hrl hel hTl f4 c0 c2
      go_wp2
      go_loopw [57] (fun t wx => ∃ (j : Nat) (a : Ent), j ≤ np ∧ t = .int .i64 j ∧ wx.heap[Tb]? = some (.cells #[.slice (some ⟨b, o, none⟩) n c, .slice A m pc, .int .i64 (cnt + j : Nat), .slice lA ll lc] 95 (0, 0)) ∧ EntB wx lo E a ∧ (∀ k, cnt + j = k + 1 → es[k]? = some a) ∧ Only (fun i => i = Tb ∨ i = E) w4 wx) (fun t _ => np - (intOf t).toNat)
      case atStart => exact ⟨0, a, Nat.zero_le _, rfl, HT4.out, HEA4.out, fun k hk => (HLAST.out k hk).1, Only.refl _ _⟩
      case round =>
        obtain ⟨j, a2, hj, rfl, hTx, hEx, hlx, hox⟩ := hrel
        obtain ⟨w5, hw5⟩ : ∃ x, x = wr := ⟨_, rfl⟩
        subst hw5
        have HTX := Lib.hid hTx
        have HEX := Lib.hid hEx
        have HLX := Lib.hid hlx
        have HOX := Lib.hid hox
        have hz5 := hox.size
        have HCL : Hid (∀ i u, yl[i]? = some u → w5.cell? ⟨gl, i, none⟩ = some u) := Lib.hid fun i u hu => hox.cell' (HLC.out i u hu) (by omega)
        have hnTE : ∀ (wx : World), Only (fun i => i = Tb ∨ i = E) w4 wx → ∀ i, Loose w4 i → ¬ (i = Tb ∨ i = E) := fun wx _ i hl h => by
          rcases h with rfl | rfl
          · exact absurd (hl.neT HT4.out) (by decide)
          · obtain ⟨_, _, _, _, _, _, h1, _⟩ := HEA4.out
            exact absurd (hl.neT h1) (by decide)
        have HEL5 : Hid (EntCells w5 (fun i => lo ≤ i ∧ Loose w5 i) yl p) := Lib.hid (EntCells.imp HEL.out fun v bs h => BytL.only (lo := lo) h hox fun i _ hl => hnTE _ hox i hl)
        clear hTx hEx hlx hox hnTE
        by_cases hjn : j < np
        · obtain ⟨e, he⟩ : ∃ e, p[j]? = some e := ⟨_, List.getElem?_eq_getElem (by rw [HNP.out]; exact hjn)⟩
          obtain ⟨k1, u1, y0, y1, y2, y3, r0, r1⟩ := HEL5.out.at_ he
          have x0 := HCL.out _ _ y0
          have x1 := HCL.out _ _ y1
          have x2 := HCL.out _ _ y2
          have x3 := HCL.out _ _ y3
          rw [Nat.mul_comm 4 j] at x0 x1 x2 x3
          obtain ⟨A1, c1', rfl⟩ := slice_form r0
          obtain ⟨A2, c2', rfl⟩ := slice_form r1
          obtain ⟨nk, hnk⟩ : ∃ q, e.key.length = q := ⟨_, rfl⟩
          obtain ⟨nu, hnu⟩ : ∃ q, e.val.length = q := ⟨_, rfl⟩
          rw [hnk] at x0 r0
          rw [hnu] at x3 r1
          have HR0 : Hid (BytL w5 lo (.slice A1 nk c1') e.key) := Lib.hid r0
          have HR1 : Hid (BytL w5 lo (.slice A2 nu c2') e.val) := Lib.hid r1
          have HES := HAT.out j e he
          obtain ⟨s, hs⟩ : ∃ q, cnt + j = q := ⟨_, rfl⟩
          rw [hs] at HTX HLX HES
          have hX6 := heap_alloc_new w5 (.cells #[.slice A1 nk c1', .int .i64 e.seq, .bool e.dead, .slice A2 nu c2'] 48)
          have f6 : fr w5 (w5.alloc (.cells #[.slice A1 nk c1', .int .i64 e.seq, .bool e.dead, .slice A2 nu c2'] 48)) := fr.alloc fr.refl _
          have HEE := Lib.hid HES
          have HSS := Lib.hid hs
          have hsN : s < N := by omega
          clear y0 y1 y2 y3 r0 r1 he HES hs hnk hnu
          go_upto_region 15 with (fail)
          generalize w5.alloc (.cells #[.slice A1 nk c1', .int .i64 e.seq, .bool e.dead, .slice A2 nu c2'] 48) = w6 at hX6 f6 ⊢
          obtain ⟨X, hX⟩ : ∃ X, w5.heap.size = X := ⟨_, rfl⟩
          rw [hX] at hX6 ⊢
          have hT6 := fr.hp f6 HTX.out
          have c26 := cell_of_row w6 Tb 2 _ _ _ hT6
          have z26 := frozen_of_row w6 Tb 2 _ _ hT6
          have HX6 := Lib.hid hX6
          have HT6 := Lib.hid hT6
          have HF6 := Lib.hid f6
          have hTX : Tb < X := by omega
          have hEX : E < X := by omega
          have hzX := Below.size f6
          clear x0 x1 x2 x3 hT6 hX6 f6
          go_upto_region 16 with (fail)
          have hT7 := heap_setCell_same w6 Tb 2 _ _ (.int .i64 ((s : Int) + 1)) HT6.out
          have o7 := only_set w6 Tb 2 (.int .i64 ((s : Int) + 1))
          generalize w6.setCell ⟨Tb, 2, none⟩ (.int .i64 ((s : Int) + 1)) = w7 at hT7 o7 ⊢
          have c27 : w7.cell? ⟨Tb, 2, none⟩ = some (.int .i64 ((s : Int) + 1)) := cell_of_row w7 Tb 2 _ _ _ hT7
          have HT7 := Lib.hid hT7
          have HO7 := Lib.hid o7
          have HX7 := Lib.hid ((o7.block X (Array.getElem?_eq_some_iff.1 HX6.out).1 (by omega)).trans HX6.out)
          have hnTb : ∀ i, Loose w6 i → ¬ i = Tb := fun i hl h => absurd (hl.neT (h ▸ HT6.out)) (by decide)
          have HE7 : Hid (EntB w7 lo E a2) := Lib.hid ((HEX.out.only (S := fun _ => False) (Only.of_below HF6.out) (fun h => h) fun _ _ h => h).only o7 (by omega) hnTb)
          have HK7 : Hid (BytL w7 lo (.slice A1 nk c1') e.key) := Lib.hid ((HR0.out.below HF6.out).only o7 fun i _ hl => hnTb i hl)
          have HU7 : Hid (BytL w7 lo (.slice A2 nu c2') e.val) := Lib.hid ((HR1.out.below HF6.out).only o7 fun i _ hl => hnTb i hl)
          clear c26 z26 hT7 o7 hnTb
          rcases Nat.eq_zero_or_pos s with hs0 | hs0
          · subst hs0
            go_upto_region 18 with (fail)
            obtain ⟨w8, hw8⟩ : ∃ x, x = w7 := ⟨_, rfl⟩
            subst hw8
            have HF8 := Lib.hid (fr.refl (W := w8))
            clear c27
            have hX8 := fr.hp HF8.out HX7.out
            have hT8 := fr.hp HF8.out HT7.out
            have hE8 : EntB w8 lo E a2 := HE7.out.only (S := fun _ => False) (Only.of_below HF8.out) (fun h => h) fun _ _ h => h
            obtain ⟨Aq, nq, cq, Ar, nr, cr, hEq, _, _⟩ := hE8
            have q0 := cell_of_row w8 E 0 _ _ _ hEq
            have q1 := cell_of_row w8 E 1 _ _ _ hEq
            have q2 := cell_of_row w8 E 2 _ _ _ hEq
            have q3 := cell_of_row w8 E 3 _ _ _ hEq
            have z0 := frozen_of_row w8 E 0 _ _ hEq
            have z1 := frozen_of_row w8 E 1 _ _ hEq
            have z2 := frozen_of_row w8 E 2 _ _ hEq
            have z3 := frozen_of_row w8 E 3 _ _ hEq
            have p0 := cell_of_row w8 X 0 _ _ _ hX8
            have p1 := cell_of_row w8 X 1 _ _ _ hX8
            have p2 := cell_of_row w8 X 2 _ _ _ hX8
            have p3 := cell_of_row w8 X 3 _ _ _ hX8
            have HEQ := Lib.hid hEq
            have HT8 := Lib.hid hT8
            clear hX8 hT8 hEq
            go_wp2
            have hz7 := HO7.out.size
            have hz8 := Below.size HF8.out
            have h1 := heap_setCell_same w8 E 0 _ _ (.slice A1 nk c1') HEQ.out
            have h2 := heap_setCell_same _ E 1 _ _ (.int .i64 e.seq) h1
            have h3 := heap_setCell_same _ E 2 _ _ (.bool e.dead) h2
            have h4 := heap_setCell_same _ E 3 _ _ (.slice A2 nu c2') h3
            have o9 : Only (fun i => i = E) w8 ((((w8.setCell ⟨E, 0, none⟩ (.slice A1 nk c1')).setCell ⟨E, 1, none⟩ (.int .i64 e.seq)).setCell ⟨E, 2, none⟩ (.bool e.dead)).setCell ⟨E, 3, none⟩ (.slice A2 nu c2')) := (((only_set w8 E 0 _).trans (only_set _ E 1 _)).trans (only_set _ E 2 _)).trans (only_set _ E 3 _)
            generalize (((w8.setCell ⟨E, 0, none⟩ (.slice A1 nk c1')).setCell ⟨E, 1, none⟩ (.int .i64 e.seq)).setCell ⟨E, 2, none⟩ (.bool e.dead)).setCell ⟨E, 3, none⟩ (.slice A2 nu c2') = w9 at h4 o9 ⊢
            have hnE : ∀ i, Loose w8 i → ¬ i = E := fun i hl h => absurd (hl.neT (h ▸ HEQ.out)) (by decide)
            refine ⟨⟨j + 1, e, by omega, by go_num, ?_, ⟨A1, nk, c1', A2, nu, c2', h4, (HK7.out.below HF8.out).only o9 fun i _ hl => hnE i hl, (HU7.out.below HF8.out).only o9 fun i _ hl => hnE i hl⟩, fun k hk => ?_, ?_⟩, by simp [intOf]; omega⟩
            · have := (o9.block Tb (Array.getElem?_eq_some_iff.1 HT8.out).1 (by omega)).trans HT8.out
              rw [this]
              have hs := HSS.out
              rw [show cnt + (j + 1) = 0 + 1 by omega]
              rfl
            · have hs := HSS.out
              have hee := HEE.out
              rw [show k = 0 by omega]
              exact hee
            · exact HOX.out.trans ((Only.of_below HF6.out).trans ((Only.mono HO7.out fun i h => .inl h).trans ((Only.of_below HF8.out).trans (Only.mono o9 fun i h => .inr h))))
          · obtain ⟨t, ht⟩ : ∃ t, s = t + 1 := ⟨s - 1, by omega⟩
            have hcmp : cmpE a2 e < 0 := by
              have h1 := HLX.out t ht
              have h2 := HEE.out
              obtain ⟨g1, g2⟩ := List.getElem?_eq_some_iff.1 h1
              obtain ⟨g3, g4⟩ := List.getElem?_eq_some_iff.1 h2
              have := List.pairwise_iff_getElem.1 HPW.out t s g1 g3 (by omega)
              rw [g2, g4] at this
              exact this
            obtain ⟨zc, hzc⟩ : ∃ z, cmpE a2 e = z := ⟨_, rfl⟩
            obtain ⟨Aa, na, ca, Ab, nb, cb, hEb, hka, hua⟩ := HE7.out
            have a0 := cell_of_row w7 E 0 _ _ _ hEb
            have a1 := cell_of_row w7 E 1 _ _ _ hEb
            have a2' := cell_of_row w7 E 2 _ _ _ hEb
            have a3 := cell_of_row w7 E 3 _ _ _ hEb
            have b0 := cell_of_row w7 X 0 _ _ _ HX7.out
            have b1' := cell_of_row w7 X 1 _ _ _ HX7.out
            have b2' := cell_of_row w7 X 2 _ _ _ HX7.out
            have b3' := cell_of_row w7 X 3 _ _ _ HX7.out
            have HCM := Lib.hid (compare_any _ _ (.agg #[.slice Aa na ca, .int .i64 a2.seq, .bool a2.dead, .slice Ab nb cb]) (.agg #[.slice A1 nk c1', .int .i64 e.seq, .bool e.dead, .slice A2 nu c2']) a2 e w7 ⟨_, _, rfl, hka, hua⟩ ⟨_, _, rfl, HK7.out, HU7.out⟩)
            rw [hzc] at hcmp HCM
            have hz0 : ¬ (0 : Int) ≤ zc := by omega
            have hs1 : decide ((1 : Int) < (s : Int) + 1) = true := by simp; omega
            clear hEb hka hua hzc ht
            go_upto_region 18 with (go_at_call 51; refine HCM.out.mono ?_; rintro r w8 ⟨rfl, f8⟩)
            have HF8 : Hid (fr w7 w8) := Lib.hid f8
            clear f8 c27 a0 a1 a2' a3 b0 b1' b2' b3' HCM hz0 hs1
            have hX8 := fr.hp HF8.out HX7.out
            have hT8 := fr.hp HF8.out HT7.out
            have hE8 : EntB w8 lo E a2 := HE7.out.only (S := fun _ => False) (Only.of_below HF8.out) (fun h => h) fun _ _ h => h
            obtain ⟨Aq, nq, cq, Ar, nr, cr, hEq, _, _⟩ := hE8
            have q0 := cell_of_row w8 E 0 _ _ _ hEq
            have q1 := cell_of_row w8 E 1 _ _ _ hEq
            have q2 := cell_of_row w8 E 2 _ _ _ hEq
            have q3 := cell_of_row w8 E 3 _ _ _ hEq
            have z0 := frozen_of_row w8 E 0 _ _ hEq
            have z1 := frozen_of_row w8 E 1 _ _ hEq
            have z2 := frozen_of_row w8 E 2 _ _ hEq
            have z3 := frozen_of_row w8 E 3 _ _ hEq
            have p0 := cell_of_row w8 X 0 _ _ _ hX8
            have p1 := cell_of_row w8 X 1 _ _ _ hX8
            have p2 := cell_of_row w8 X 2 _ _ _ hX8
            have p3 := cell_of_row w8 X 3 _ _ _ hX8
            have HEQ := Lib.hid hEq
            have HT8 := Lib.hid hT8
            clear hX8 hT8 hEq
            go_wp2
            have hz7 := HO7.out.size
            have hz8 := Below.size HF8.out
            have h1 := heap_setCell_same w8 E 0 _ _ (.slice A1 nk c1') HEQ.out
            have h2 := heap_setCell_same _ E 1 _ _ (.int .i64 e.seq) h1
            have h3 := heap_setCell_same _ E 2 _ _ (.bool e.dead) h2
            have h4 := heap_setCell_same _ E 3 _ _ (.slice A2 nu c2') h3
            have o9 : Only (fun i => i = E) w8 ((((w8.setCell ⟨E, 0, none⟩ (.slice A1 nk c1')).setCell ⟨E, 1, none⟩ (.int .i64 e.seq)).setCell ⟨E, 2, none⟩ (.bool e.dead)).setCell ⟨E, 3, none⟩ (.slice A2 nu c2')) := (((only_set w8 E 0 _).trans (only_set _ E 1 _)).trans (only_set _ E 2 _)).trans (only_set _ E 3 _)
            generalize (((w8.setCell ⟨E, 0, none⟩ (.slice A1 nk c1')).setCell ⟨E, 1, none⟩ (.int .i64 e.seq)).setCell ⟨E, 2, none⟩ (.bool e.dead)).setCell ⟨E, 3, none⟩ (.slice A2 nu c2') = w9 at h4 o9 ⊢
            have hnE : ∀ i, Loose w8 i → ¬ i = E := fun i hl h => absurd (hl.neT (h ▸ HEQ.out)) (by decide)
            refine ⟨⟨j + 1, e, by omega, by go_num, ?_, ⟨A1, nk, c1', A2, nu, c2', h4, (HK7.out.below HF8.out).only o9 fun i _ hl => hnE i hl, (HU7.out.below HF8.out).only o9 fun i _ hl => hnE i hl⟩, fun k hk => ?_, ?_⟩, by simp [intOf]; omega⟩
            · have := (o9.block Tb (Array.getElem?_eq_some_iff.1 HT8.out).1 (by omega)).trans HT8.out
              rw [this]
              have hs := HSS.out
              rw [show cnt + (j + 1) = s + 1 by omega]
              rfl
            · have hs := HSS.out
              have hee := HEE.out
              rw [show k = s by omega]
              exact hee
            · exact HOX.out.trans ((Only.of_below HF6.out).trans ((Only.mono HO7.out fun i h => .inl h).trans ((Only.of_below HF8.out).trans (Only.mono o9 fun i h => .inr h))))
        · obtain rfl : j = np := by omega
          obtain ⟨e0, he0⟩ := HHD.out
          obtain ⟨k1, u1, y0, y1, y2, y3, r0, r1⟩ := HEL5.out.at_ he0
          have x0 := HCL.out _ _ y0
          have x1 := HCL.out _ _ y1
          have x2 := HCL.out _ _ y2
          have x3 := HCL.out _ _ y3
          simp only [Nat.mul_zero, Nat.zero_add] at x0 x1 x2 x3
          obtain ⟨A1, c1', rfl⟩ := slice_form r0
          obtain ⟨A2, c2', rfl⟩ := slice_form r1
          obtain ⟨nk, hnk⟩ : ∃ q, e0.key.length = q := ⟨_, rfl⟩
          obtain ⟨nu, hnu⟩ : ∃ q, e0.val.length = q := ⟨_, rfl⟩
          rw [hnk] at x0 r0
          rw [hnu] at x3
          have HR0 : Hid (BytL w5 lo (.slice A1 nk c1') e0.key) := Lib.hid r0
          have HE0 := Lib.hid he0
          obtain ⟨s, hs⟩ : ∃ q, cnt + j = q := ⟨_, rfl⟩
          rw [hs] at HTX HLX
          have HSS := Lib.hid hs
          have hob : ∀ g, (Value.slice A m pc).ownBlock = some g → E < g ∧ g < w3.heap.size := fun g hg => by
            rcases HROW.out.2 with ⟨h, _⟩ | ⟨gg, cap, cur, h, hb, hh, _⟩
            · rw [h] at hg; simp [Value.ownBlock] at hg
            · rw [h] at hg
              obtain rfl : gg = g := by simpa [Value.ownBlock] using hg
              exact ⟨hb, (Array.getElem?_eq_some_iff.1 hh).1⟩
          have HRX : Hid (w5.ownsRow (E + 1) 100 5 (.slice A m pc) m ys) := Lib.hid (own_only (own_below HROW.out HF4.out) HOX.out fun g hg h => by have := hob g hg; omega)
          have HPA5 : Hid (PcAt w5 lo N ps m ys) := Lib.hid ((HPA.out.only (S := fun _ => False) (Only.of_below HF4.out) fun _ _ h => h).only HOX.out fun i hl h => by
            rcases h with rfl | rfl
            · exact absurd (hl.neT HT4.out) (by decide)
            · obtain ⟨_, _, _, _, _, _, h1, _⟩ := HEA4.out
              exact absurd (hl.neT h1) (by decide))
          have HOB := Lib.hid hob
          have hm40 : m + 1 ≤ 1099511627776 := by
            have h1 := HPO.out
            have h2 : ∀ (l : List (List Ent)), (∀ p ∈ l, 0 < p.length) → l.length ≤ l.flatten.length := fun l => by
              induction l with
              | nil => intro _; simp
              | cons a l ih =>
                intro h
                have := ih fun p hp => h p (by simp [hp])
                have := h a (by simp)
                simp only [List.length_cons, List.flatten_cons, List.length_append]
                omega
            have h3 := h2 ps fun p hp => (h1.part p hp).1
            rw [h1.all, HN.out] at h3
            omega
          have HZ := Lib.hid (show Tb < w5.heap.size ∧ E + 1 ≤ w5.heap.size ∧ w3.heap.size ≤ w5.heap.size from ⟨by omega, by omega, by omega⟩)
          have t1 := cell_of_row w5 Tb 1 _ _ _ HTX.out
          clear y0 y1 y2 y3 r0 r1 he0 hs hnk hnu hob
          go_upto_region 20 with (fail)
          have hfa : fr w5 (w5.alloc (.cells #[.int .i64 q, .slice A1 nk c1', .int .i64 e0.seq, .bool e0.dead, .slice A2 nu c2'] 100)).drew := (fr.refl.alloc _).drew
          have n1 := World.new_ne w5 _ t1
          have n2 := World.new_ne w5 _ x0
          simp only at n1 n2
          have m1 : Tb < w5.heap.size := World.block_lt_of_cell? w5 _ t1
          have m2 : gl < w5.heap.size := World.block_lt_of_cell? w5 _ x0
          go_region_law (first
            | (refine step_rowQ (by rfl) _ _ (by rfl) (E + 1) (.slice A m pc) m ys (by rfl) (own_below HRX.out hfa) w5.heap.size [.int .i64 q, .slice A1 nk c1', .int .i64 e0.seq, .bool e0.dead, .slice A2 nu c2'] (by rfl) rfl (fun j u hu => cell_five_new w5 _ _ _ _ _ _ j u hu) (by simp [Value.oneCell']) hm40 (by have h1 := HZ.out.2.1; have h2 := Below.size hfa; omega) ?_; intro g9 c9 w9 hr9 hg9 hat9; have hT9 := (hg9.block Tb (by have h2 := Below.size hfa; omega) (fun h => by have := (HOB.out Tb h.symm).1; omega)).trans (fr.hp hfa HTX.out); have t9 := cell_of_row w9 Tb 1 _ _ _ hT9; have z9 := frozen_of_row w9 Tb 1 _ _ hT9))
          all_goals
            obtain ⟨Aq, nq, cq, Ar, nr, cr, hEq, hkq, _⟩ := HEX.out
            have oA := Only.of_grown hg9
            have hneE : (Value.slice A m pc).ownBlock ≠ some E := fun h => by have := (HOB.out E h).1; omega
            have hE9 := (oA.block E (by have h1 := (Array.getElem?_eq_some_iff.1 (fr.hp hfa hEq)).1; exact h1) hneE).trans (fr.hp hfa hEq)
            have o10 := only_set w9 Tb 1 (.slice (some ⟨g9, 0, none⟩) (m + 1) c9)
            have hE10 := (o10.block E (Array.getElem?_eq_some_iff.1 hE9).1 (by omega)).trans hE9
            have hT10 := heap_setCell_same w9 Tb 1 _ _ (.slice (some ⟨g9, 0, none⟩) (m + 1) c9) hT9
            have v0 := cell_of_row _ E 0 _ _ _ hE10
            have v3 := cell_of_row _ Tb 3 _ _ _ hT10
            have vz := frozen_of_row _ Tb 3 _ _ hT10
            have o11 := only_set (w9.setCell ⟨Tb, 1, none⟩ (.slice (some ⟨g9, 0, none⟩) (m + 1) c9)) Tb 3 (.slice Aq nq cq)
            have hT11 := heap_setCell_same (w9.setCell ⟨Tb, 1, none⟩ (.slice (some ⟨g9, 0, none⟩) (m + 1) c9)) Tb 3 _ _ (.slice Aq nq cq) hT10
            have oX : Only (fun i => (Value.slice A m pc).ownBlock = some i ∨ i = Tb) w5 ((w9.setCell ⟨Tb, 1, none⟩ (.slice (some ⟨g9, 0, none⟩) (m + 1) c9)).setCell ⟨Tb, 3, none⟩ (.slice Aq nq cq)) := (Only.of_below hfa).trans ((Only.mono oA fun i h => .inl h).trans ((Only.mono o10 fun i h => .inr h).trans (Only.mono o11 fun i h => .inr h)))
            have HOX5 := Lib.hid oX
            have HT11 := Lib.hid hT11
            have HR9 := Lib.hid hr9
            have HKQ : Hid (BytL w5 lo (.slice Aq nq cq) a2.key) := Lib.hid hkq
            have HHAT := Lib.hid hat9
            have HSZ := Lib.hid hg9.size
            have HFAZ := Lib.hid (Below.size hfa)
            clear oA hneE hE9 o10 hE10 hT10 o11 hT11 oX hr9 hkq hEq hat9 hg9 hT9 hfa t9 z9 x0 x1 x2 x3 t1
            go_wp2
            have hLs : ∀ i, Loose w5 i → ¬ ((Value.slice A m pc).ownBlock = some i ∨ i = Tb) := fun i hl h => by
              rcases h with h | h
              · rcases HRX.out.2 with ⟨h2, _⟩ | ⟨gg, cap, cur, h2, hb, hh, _⟩
                · rw [h2] at h; simp [Value.ownBlock] at h
                · rw [h2] at h
                  obtain rfl : gg = i := by simpa [Value.ownBlock] using h
                  exact absurd (hl.neT hh) (by decide)
              · exact absurd (hl.neT (h ▸ HTX.out)) (by decide)
            have hox := HOX5.out
            have hss := HSS.out
            have htk := take_flat_len HP.out
            rw [HCNT.out, HNP.out] at htk
            have hyl : ys.length = m * 5 := HRX.out.1
            have hg9T : g9 ≠ Tb := fun h => by
              rcases HHAT.out with h2 | h2
              · have := (HOB.out g9 h2.symm).1; have := hTbE; omega
              · have := HZ.out.1; have := HFAZ.out; omega
            refine ⟨⟨m + 1, q2, c9, nq, cq, some ⟨g9, 0, none⟩, Aq, _, a2, hmp, rfl, HOFF.out.symm, ?_, own_only (own_only HR9.out (only_set _ Tb 1 _) fun g hg h => ?_) (only_set _ Tb 3 _) fun g hg h => ?_, (PcAt.snoc HPA5.out hyl HP.out HE0.out HR0.out (s := .int .i64 e0.seq) (d := .bool e0.dead) (u := .slice A2 nu c2')).only hox hLs |> fun h => by rw [← HQ.out] at h; exact h, HEX.out.only hox (fun h => by rcases h with h | h; have := (HOB.out E h).1; omega; omega) hLs, fun k hk => ⟨HLX.out k (by omega), HKQ.out.only hox fun i _ hl => hLs i hl⟩, ?_, ?_⟩, by simp [intOf]; omega⟩
            · rw [htk, hss]
              exact HT11.out
            · obtain rfl : g9 = g := by simpa [Value.ownBlock] using hg
              exact hg9T h
            · obtain rfl : g9 = g := by simpa [Value.ownBlock] using hg
              exact hg9T h
            · have h1 := HOW.out
              have h2 := HF4.out
              have h3 := HOX.out
              have h1s := h1.size
              have h2s := Below.size h2
              have h3s := h3.size
              refine ⟨hox.os.trans (h3.os.trans (h2.os.trans h1.os)), hox.tape.trans (h3.tape.trans (h2.tape.trans h1.tape)), hox.output.trans (h3.output.trans (h2.output.trans h1.output)), by have := hox.size; omega, fun i hi hne => ?_⟩
              exact (hox.block i (by omega) (fun h => by rcases h with h | h; have := (HOB.out i h).1; omega; exact hne h)).trans ((h3.block i (by omega) (fun h => by rcases h with h | h; exact hne h; omega)).trans ((h2.block i (by omega)).trans (h1.block i hi hne)))
            · have := hox.size
              have := HZ.out.2.1
              omega
    · obtain rfl : m = ps.length := by omega
      have hqn : q = n := by rw [HQ.out, offF_all, HFN.out]
      have hcN : cnt = N := by rw [← HCNT.out, List.take_length, HPO.out.all, HN.out]
      have hpl : 0 < ps.length := by
        rcases Nat.eq_zero_or_pos ps.length with h | h
        · have : ps = [] := List.eq_nil_of_length_eq_zero h
          have h2 := HPO.out.all
          rw [this] at h2
          have h3 := HN.out
          rw [← h2] at h3
          simp at h3
          omega
        · exact h
      rw [hcN] at c2
      have hNm : (N : Int) % 18446744073709551616 = (N : Int) := by omega
      have hTV : TabV w3 lo Tb N es ps := by
        have h1 := HROW.out
        obtain ⟨k, hk⟩ : ∃ k, ps.length = k + 1 := ⟨ps.length - 1, by omega⟩
        obtain ⟨gp, cp, hgp⟩ : ∃ g cap, Value.slice A ps.length pc = .slice (some ⟨g, 0, none⟩) ps.length cap := by
          have h2 := h1
          rw [hk] at h2 ⊢
          exact ownsRow_succ h2
        simp only [Value.slice.injEq] at hgp
        obtain ⟨rfl, _, rfl⟩ := hgp
        refine ⟨b, o, n, c, gp, pc, lA, ll, lc, ys, by rw [← hcN]; exact HT.out, HFN.out.symm, HV3.out, World.ownsRow.mono h1 (by omega), HPA.out, fun e he => ?_, hlo⟩
        obtain ⟨h3, h4⟩ := HLAST.out (N - 1) (by omega)
        rw [h3] at he
        injection he with he
        subst he
        exact h4
      have HTV := Lib.hid hTV
      subst hqn
      clear hcN hTV
      go_wp2
      go_ret
      exact ⟨rfl, HTV.out, HOW.out⟩
end Go.Proofs.YtiffgjodbcploaaGreat
end
section
namespace Go.Proofs.YtiffgjodbcploaaGreat
set_option maxRecDepth 100000
open Go.RowKit Go.BigFrame Go.Shelf
attribute [local go_sem ↓] Go.wp_at_zero Go.wp_at_succ
theorem strOfNums_bytes (bs : List UInt8) : strOfNums (bs.map fun b => (b.toNat : Int)) = ⟨bs.toArray⟩ := by
  have := bytesOf_bcell bs
  unfold Lib.bytesOf at this
  exact congrArg (fun l : List UInt8 => (⟨l.toArray⟩ : ByteArray)) this
theorem bequal_any (S S' : Nat → Prop) (v v' : Value) (xs ys : List UInt8) (w : World) (hx : Byt w S v xs) (hy : Byt w S' v' ys) :
    Calls Tryz.prog 40 #[v, v'] w fun e w' => e = .returned (.bool (decide (xs = ys))) ∧ w = w' := by
  refine (Tryz.bytes_Equal v v' (xs.map fun b => (b.toNat : Int)) (ys.map fun b => (b.toNat : Int)) w (by rw [strOfNums_bytes]; exact hx.convert) (by rw [strOfNums_bytes]; exact hy.convert)).mono ?_
  rintro r w' ⟨rfl, h⟩
  refine ⟨ret_bool ?_, h.symm⟩
  rw [bytesOf_bcell, bytesOf_bcell]
  rw [Bool.eq_iff_iff]
  simp
theorem sealF_drop (b : List UInt8) : (sealF b).drop 12 = b := by
  unfold sealF
  rw [List.drop_left' (by rw [List.length_append, leN_len, leN_len])]
theorem sealF_len (b : List UInt8) : (sealF b).length = b.length + 12 := by unfold sealF; rw [List.length_append, List.length_append, leN_len, leN_len]; omega
theorem fileF_pos (N : Nat) (ps : List (List Ent)) : 8 ≤ (fileF N ps).length := by unfold fileF; rw [List.length_append, putF_len]; omega
set_option maxRecDepth 100000 in
set_option maxHeartbeats 2000000 in
theorem open_ok (F : Nat → Prop) (p : Nat) (k : Pk) (x : Nm) (N : Nat) (es : List Ent) (ps : List (List Ent)) (w : World) (hd : DiskP w F p k) (hx : x.length ≤ 140737488355328) (hr : readyE k [x] = 0) (hrd : readD k x = sealF (fileF N ps)) (hpo : PartsOk es ps) (hN : es.length = N) (hN0 : 0 < N) (hN2 : N ≤ 16777216) (hB2 : bytesE es ≤ 16777216) (hord : orderedE es = true) :
    Calls Tryz.prog 14 #[.pointer (some ⟨p, 0, none⟩), .string ⟨x.toArray⟩] w fun r w' => ∃ Tb, r = .returned (.tuple #[.pointer (some ⟨Tb, 0, none⟩), .int .i64 0]) ∧ TabV w' w.heap.size Tb N es ps ∧ fr w w' := by
  have hfle := fileF_le hpo
  have hfp := fileF_pos N ps
  rw [hN] at hfle
  have HR := Lib.hid (read_any F p k x w hd hx)
  rw [hr, hrd, if_pos rfl] at HR
  obtain ⟨fl, hfl⟩ : ∃ f, fileF N ps = f := ⟨_, rfl⟩
  rw [hfl] at HR hfle hfp
  have HFL := Lib.hid hfl
  obtain ⟨n, hn⟩ : ∃ n, fl.length = n := ⟨_, rfl⟩
  rw [hn] at hfle hfp
  have HN := Lib.hid hn
  have HPO := Lib.hid hpo
  have HNE := Lib.hid hN
  have HORD := Lib.hid hord
  have hsl := sealF_len fl
  rw [hn] at hsl
  have HSL := Lib.hid hsl
  clear hd hr hrd hpo hN hord hfl hn hsl
  go_enter Tryz.func14, Tryz.ntmps14
  go_upto_region 6 with (go_at_call 24; refine HR.out.mono ?_; rintro r w1 ⟨v, rfl, hv, f1⟩; obtain ⟨A1, c1, rfl⟩ := slice_form hv; obtain ⟨b1, o1, rfl⟩ := Byt.some_of hv (by rw [HSL.out]; omega); rw [HSL.out] at hv ⊢)
  have hc1 : n + 12 ≤ c1 ∧ c1 ≤ 9223372036854775807 := by obtain ⟨A, ca, e, h1, h2, _⟩ := hv; simp only [Value.slice.injEq] at e; rw [HSL.out] at h1; omega
  obtain ⟨n12, hn12⟩ : ∃ q, n + 12 = q := ⟨_, rfl⟩
  rw [hn12] at hv hc1 ⊢
  have hcut : BytL w1 w.heap.size (.slice (some ⟨b1, o1 + 12, none⟩) n (c1 - 12)) fl := by
    have := BytL.cut hv (f := 12) (m := n) (c' := c1 - 12) (by omega) (by omega) (by omega)
    rw [sealF_drop, List.take_of_length_le (by rw [HN.out]; exact Nat.le_refl _)] at this
    exact this
  have HV := Lib.hid hv
  have HCU := Lib.hid hcut
  have HS := Lib.hid (seal_any _ _ fl w1 hcut.byt (by rw [HN.out]; omega))
  rw [HN.out, hn12] at HS
  have i1 : ((n12 : Int) - 12) = (n : Int) := by omega
  have i2 : n12 - 12 = n := by omega
  have i3 : ¬ c1 = 12 := by omega
  have i4 : ¬ (n12 : Int) < 12 := by omega
  have i5 : (12 : Int) ≤ (n12 : Int) := by omega
  have HFX := Lib.hid f1
  clear hv hcut f1
  go_wp2_with (first
    | (go_at_call 33; refine HS.out.mono ?_; rintro r w2 ⟨A2, c2, rfl, ho2, f2⟩)
    | (go_at_call 40; refine (bequal_any _ _ _ _ (sealF fl) (sealF fl) w2 (HV.out.below f2) ho2.byt).mono ?_; rintro r w3 ⟨rfl, hw3⟩; subst hw3; rw [decide_eq_true rfl])
    | (go_at_call 41; refine (index_any w.heap.size w2.heap.size b1 (o1 + 12) n (c1 - 12) N es ps _ (heap_alloc_new w2 _) (by have h1 := HFX.out.size; have h2 := Below.size f2; omega) (by rw [HFL.out]; exact (HCU.out.below f2).below (fr.alloc fr.refl _)) (by rw [HFL.out]; exact HN.out) HPO.out HNE.out hN0 hN2 hB2 HORD.out).mono ?_; rintro r w4 ⟨rfl, hT4, o4⟩))
  refine bodyPost_ret (v := .tuple #[.pointer (some ⟨w2.heap.size, 0, none⟩), .int .i64 0]) (by simp [results, Tryz.results14, go_sem]) rfl ?_
  have h1 := HFX.out
  have h1s := h1.size
  have h2s := Below.size f2
  have f3 : fr w (w2.alloc (.cells #[.slice (some ⟨b1, o1 + 12, none⟩) n (c1 - 12), .slice none 0 0, .int .i64 0, .slice none 0 0] 95)) := fr.alloc (fr.step h1 f2) _
  have f3s := f3.size
  have hne : ∀ i, i < w.heap.size → ¬ i = w2.heap.size := fun i hi => by omega
  exact ⟨_, rfl, hT4, o4.os.trans f3.os, o4.tape.trans f3.tape, o4.output.trans f3.output, Nat.le_trans f3.size o4.size, fun i hi => (o4.block i (Nat.lt_of_lt_of_le hi f3s) (hne i hi)).trans (f3.block i hi)⟩
end Go.Proofs.YtiffgjodbcploaaGreat
end
section
namespace Go.Proofs.YtiffgjodbcploaaGreat
set_option maxRecDepth 100000
open Go.RowKit Go.BigFrame Go.Shelf
abbrev pkey (i a : Int) : Value := .agg #[.int .i64 i, .int .i64 a]
theorem pk_map : Tryz.prog.underlying 132 = some (.map 136 22) := by kernel_rfl
theorem pk_und : Tryz.prog.underlying 136 = some (.struct (Tryz.prog.fieldsOf 136)) := by kernel_rfl
theorem pk_check (e : Bool) (i a : Int) (w : World) : (Instr.checkKey e 10000 136 (pkey i a)).run Tryz.prog w = .ok () w := by kernel_rfl
theorem pk_none (i a : Int) (w : World) : (Instr.findKey 136 (pkey i a) []).run Tryz.prog w = .ok none w := by kernel_rfl
theorem pk_flds : (Tryz.prog.fieldsOf 136).toList.map (fun f => (f.name, f.type, f.offset)) = [("number", 3, 0), ("at", 3, 1)] := by kernel_rfl
theorem pk_equal (i a : Int) (w : World) : (Op.equal 136 (pkey i a) (pkey i a)).run Tryz.prog w = .ok true w := by
  have hs : Tryz.prog.stoodInHeld 136 = false := by kernel_rfl
  have e : (Op.equal 136 (pkey i a) (pkey i a)).run Tryz.prog w = (Op.eqFields 9999 #[.int .i64 i, .int .i64 a] #[.int .i64 i, .int .i64 a] (Tryz.prog.fieldsOf 136).toList).run Tryz.prog w := run_equalIn_struct w 9999 136 _ _ pk_und hs
  rw [e]
  have hf := pk_flds
  obtain ⟨f1, f2, he⟩ : ∃ f1 f2, (Tryz.prog.fieldsOf 136).toList = [f1, f2] := by
    match h : (Tryz.prog.fieldsOf 136).toList with
    | [f1, f2] => exact ⟨f1, f2, rfl⟩
    | [] => rw [h] at hf; simp at hf
    | [_] => rw [h] at hf; simp at hf
    | _ :: _ :: _ :: _ => rw [h] at hf; simp at hf
  rw [he] at hf ⊢
  simp only [List.map_cons, List.map_nil, List.cons.injEq, Prod.mk.injEq, and_true] at hf
  obtain ⟨⟨n1, t1, o1⟩, n2, t2, o2⟩ := hf
  have p1 : ∀ W : World, (part f1.type #[.int .i64 i, .int .i64 a] f1.offset).run Tryz.prog W = .ok (.int .i64 i) W := fun W => by rw [t1, o1]; kernel_rfl
  have p2 : ∀ W : World, (part f2.type #[.int .i64 i, .int .i64 a] f2.offset).run Tryz.prog W = .ok (.int .i64 a) W := fun W => by rw [t2, o2]; kernel_rfl
  have q1 : ∀ (x : Int) (W : World), (Op.equalIn 9999 3 (.int .i64 x) (.int .i64 x)).run Tryz.prog W = .ok true W := fun x W => by
    rw [run_equalIn_int W 9998 3 .i64 .i64 x x Tryz.underlying3]; simp
  rw [t1] at p1
  rw [t2] at p2
  simp [Op.eqFields, n1, n2, p1, p2, t1, t2, q1, Result.andThen]
theorem pk_one (i a : Int) (v : Value) (c : Nat) (w : World) : (Instr.findKey 136 (pkey i a) [{ key := pkey i a, val := v, born := c }]).run Tryz.prog w = .ok (some (0, v)) w := by
  simp [Instr.findKey, run_underlying pk_und, Instr.findNow, Instr.sameNow, Instr.findAsking, pk_equal, Result.andThen]
abbrev upd (w : World) (M : Nat) (o : Obj) : World := { w with heap := w.heap.setIfInBounds M o }
theorem map_put (i a : Int) (M c : Nat) (v : Value) (w : World) (hb : w.heap[M]? = some (.map #[] c)) :
    (Instr.mapUpdate 132 (.map (some M)) (pkey i a) v).run Tryz.prog w = .ok () (upd w M (.map #[{ key := pkey i a, val := v, born := c }] (c + 1))) := by
  simp [Instr.mapUpdate, run_underlying pk_map, MapKept.run_getObj_map hb, pk_check, pk_none, MapKept.run_setObj_map _ hb, Result.andThen, upd]
theorem map_get (i a : Int) (M c d : Nat) (v : Value) (w : World) (hb : w.heap[M]? = some (.map #[{ key := pkey i a, val := v, born := c }] d)) :
    (Instr.lookup 132 (.map (some M)) (pkey i a) false).run Tryz.prog w = .ok v w := by
  simp [Instr.lookup, run_underlying pk_map, MapKept.run_getObj_map hb, pk_check, pk_one, Result.andThen]
theorem map_del (i a : Int) (M c d : Nat) (v : Value) (ty : TypeId) (w : World) (hb : w.heap[M]? = some (.map #[{ key := pkey i a, val := v, born := c }] d)) :
    (Builtin.delete_ #[132, 136] ty #[.map (some M), pkey i a]).run Tryz.prog w = .ok (.tuple #[]) (upd w M (.map #[] d)) := by
  simp [Builtin.delete_, run_underlying pk_map, MapKept.run_getObj_map hb, pk_check, pk_one, MapKept.run_setObj_map _ hb, Result.andThen, upd, Array.eraseIdxIfInBounds]
end Go.Proofs.YtiffgjodbcploaaGreat
end
section
namespace Go.Proofs.YtiffgjodbcploaaGreat
set_option maxRecDepth 100000
open Go.RowKit Go.BigFrame Go.Shelf
attribute [local go_sem ↓] Go.wp_at_zero Go.wp_at_succ
set_option maxRecDepth 100000 in
set_option maxHeartbeats 1000000 in
theorem search_any (g : Nat) (cb : Array Value) (n : Nat) (p : Nat → Bool) (w : World) (eg : ∀ args w, (callFunc g args).run Tryz.prog w = .ok (.enter g args) w) (hn : n < 4611686018427387904)
    (hf : ∀ (W : World) (i : Nat), i < n → fr w W → Calls Tryz.prog g (#[.int .i64 i] ++ cb) W fun r w' => r = .returned (.bool (p i)) ∧ fr W w') :
    Calls Tryz.prog 77 #[.int .i64 n, .func (.func g) #[] cb] w fun r w' => ∃ k : Nat, k ≤ n ∧ r = .returned (.int .i64 k) ∧ (0 < k → p (k - 1) = false) ∧ fr w w' := by
  have HF := Lib.hid hf
  clear hf
  go_enter Tryz.func77, Tryz.ntmps77
  go_wp2
  go_loopw [5, 6] (fun s5 s6 wr => ∃ lo hi : Nat, s5 = .int .i64 lo ∧ s6 = .int .i64 hi ∧ lo ≤ hi ∧ hi ≤ n ∧ (0 < lo → p (lo - 1) = false) ∧ fr w wr) (fun s5 s6 _ => (intOf s6).toNat - (intOf s5).toNat)
  case atStart => exact ⟨0, n, rfl, rfl, Nat.zero_le _, Nat.le_refl _, fun h => absurd h (by omega), fr.refl⟩
  case round =>
    obtain ⟨lo, hi, rfl, rfl, hlh, hin, hp, hfr⟩ := hrel
    have HP := Lib.hid hp
    have HFR := Lib.hid hfr
    clear hp hfr
    by_cases hlt : lo < hi
    · obtain ⟨h, hh⟩ : ∃ h, (lo + hi) / 2 = h := ⟨_, rfl⟩
      have hhi : ((lo : Int) + (hi : Int)) / 2 = (h : Int) := by omega
      have hc := Lib.hid (HF.out wr h (by omega) HFR.out)
      cases hp : p h
      · have HPH := Lib.hid hp
        rw [hp] at hc
        clear hp
        go_wp2_with (first | rw [hhi] | (go_at_fn g; refine hc.out.mono ?_; rintro r w1 ⟨rfl, f1⟩))
        refine ⟨⟨h + 1, hi, by go_num, rfl, by omega, hin, fun _ => by rw [Nat.add_sub_cancel]; exact HPH.out, fr.step HFR.out f1⟩, by simp [intOf]; omega⟩
      · rw [hp] at hc
        clear hp
        go_wp2_with (first | rw [hhi] | (go_at_fn g; refine hc.out.mono ?_; rintro r w1 ⟨rfl, f1⟩))
        refine ⟨⟨lo, h, rfl, by go_num, by omega, by omega, HP.out, fr.step HFR.out f1⟩, by simp [intOf]; omega⟩
    · obtain rfl : hi = lo := by omega
      go_wp2
      go_ret
      exact ⟨hi, hin, rfl, HP.out, HFR.out⟩
set_option maxRecDepth 100000 in
set_option maxHeartbeats 1000000 in
theorem least_any (S S' : Nat → Prop) (Bt Bl Tb gp pc m i _c : Nat) (_x0 _x2 _x3 : Value) (A : Option Addr) (lk lc kc kn : Nat) (kA : Option Addr) (lo kb : List UInt8) (w : World) (hb1 : w.cell? ⟨Bt, 0, none⟩ = some (.pointer (some ⟨Tb, 0, none⟩))) (hb2 : w.cell? ⟨Bl, 0, none⟩ = some (.slice A lk lc)) (hlo : Byt w S (.slice A lk lc) lo)
    (hT : w.cell? ⟨Tb, 1, none⟩ = some (.slice (some ⟨gp, 0, none⟩) m pc)) (hi : i < m) (_hm : m ≤ 1152921504606846976) (hk : w.cell? ⟨gp, i * 5 + 1, none⟩ = some (.slice kA kn kc)) (hkb : Byt w S' (.slice kA kn kc) kb) :
    Calls Tryz.prog 78 #[.int .i64 i, .pointer (some ⟨Bt, 0, none⟩), .pointer (some ⟨Bl, 0, none⟩)] w fun r w' => r = .returned (.bool (decide (0 ≤ cmpB kb lo))) ∧ fr w w' := by
  have H1 := Lib.hid hlo
  have H2 := Lib.hid hkb
  have hiz : (i : Int) < (m : Int) := by omega
  clear hlo hkb
  go_enter Tryz.func78, Tryz.ntmps78
  go_wp2
  go_region_held3 (fun w' => w'.cell? ⟨Bt, 0, none⟩ = some (.pointer (some ⟨Tb, 0, none⟩)) ∧ w'.cell? ⟨Bl, 0, none⟩ = some (.slice A lk lc) ∧ w'.cell? ⟨Tb, 1, none⟩ = some (.slice (some ⟨gp, 0, none⟩) m pc) ∧ w'.cell? ⟨gp, i * 5 + 1, none⟩ = some (.slice kA kn kc)) (go_keep)
    (first | (go_at_call 60; refine (bcompare_any S' S _ _ kb lo _ (by exact H2.out) (by exact H1.out)).mono ?_; rintro r w' ⟨rfl, rfl⟩))
  all_goals go_wp2
  go_ret
  exact ⟨rfl, fr.drew fr.refl⟩
end Go.Proofs.YtiffgjodbcploaaGreat
end
section
namespace Go.Proofs.YtiffgjodbcploaaGreat
set_option maxRecDepth 100000
open Go.RowKit Go.BigFrame Go.Shelf
/-- the entries whose keys are not below one. -/
def fromQ (lo : List UInt8) (e : Ent) : Bool := decide (0 ≤ cmpB e.key lo)
def fromE (lo : List UInt8) (es : List Ent) : List Ent := es.filter (fromQ lo)
/-- what lies ahead of an entry below lo is below it. -/
theorem from_none {lo : List UInt8} {es : List Ent} {ps : List (List Ent)} {s : Nat} {p : List Ent} {e : Ent} (hall : ps.flatten = es) (hpw : es.Pairwise before) (hp : ps[s]? = some p) (he : p[0]? = some e) (hb : cmpB e.key lo < 0) : ((ps.take s).flatten).filter (fromQ lo) = [] := by
  have hl := (List.getElem?_eq_some_iff.1 hp).1
  have e1 : es = (ps.take s).flatten ++ (p ++ (ps.drop (s + 1)).flatten) := by
    rw [← hall]
    conv => lhs; rw [← List.take_append_drop s ps, List.drop_eq_getElem_cons hl, (List.getElem?_eq_some_iff.1 hp).2]
    simp
  rw [e1] at hpw
  have h2 := (List.pairwise_append.1 hpw).2.2
  refine List.filter_eq_nil_iff.2 fun a ha => ?_
  have h3 := h2 a ha e (List.mem_append_left _ (List.mem_of_getElem? he))
  have h4 : cmpB a.key lo < 0 := by
    unfold before cmpE at h3
    split at h3
    · rename_i h0
      rw [cmpB_eq.1 h0]
      exact hb
    · exact cmpB_trans h3 hb
  unfold fromQ
  simp
  omega
theorem from_rest {lo : List UInt8} {es : List Ent} {ps : List (List Ent)} {m j : Nat} {p : List Ent} {e : Ent} (hall : ps.flatten = es) (hp : ps[m]? = some p) (he : p[j]? = some e) (hq : fromQ lo e = true) :
    ∃ rest, (((ps.take m).flatten ++ p.take j).filter (fromQ lo)) ++ e :: rest = fromE lo es := by
  have hl := (List.getElem?_eq_some_iff.1 hp).1
  have hj := (List.getElem?_eq_some_iff.1 he).1
  have e1 : es = ((ps.take m).flatten ++ p.take j) ++ e :: (p.drop (j + 1) ++ (ps.drop (m + 1)).flatten) := by
    rw [← hall]
    conv => lhs; rw [← List.take_append_drop m ps, List.drop_eq_getElem_cons hl, (List.getElem?_eq_some_iff.1 hp).2]
    have e2 : p = p.take j ++ e :: p.drop (j + 1) := by
      conv => lhs; rw [← List.take_append_drop j p, List.drop_eq_getElem_cons hj, (List.getElem?_eq_some_iff.1 he).2]
    rw [List.flatten_append, List.flatten_cons]
    conv => lhs; rw [e2]
    simp
  refine ⟨(p.drop (j + 1) ++ (ps.drop (m + 1)).flatten).filter (fromQ lo), ?_⟩
  unfold fromE
  conv => rhs; rw [e1]
  rw [List.filter_append (l₂ := e :: _), List.filter_cons_of_pos hq]
/-- an opened table, all of it in blocks of S. -/
def TabS (w : World) (S : Nat → Prop) (Tb N : Nat) (es : List Ent) (ps : List (List Ent)) : Prop :=
  ∃ b o n c gp pc A ll lc ys, w.heap[Tb]? = some (.cells #[.slice (some ⟨b, o, none⟩) n c, .slice (some ⟨gp, 0, none⟩) ps.length pc, .int .i64 N, .slice A ll lc] 95 (0, 0)) ∧ n = (fileF N ps).length ∧ Byt w S (.slice (some ⟨b, o, none⟩) n c) (fileF N ps) ∧
    w.ownsRow 0 100 5 (.slice (some ⟨gp, 0, none⟩) ps.length pc) ps.length ys ∧
    (∀ (i : Nat) (p : List Ent) (e : Ent), ps[i]? = some p → p[0]? = some e → ys[5 * i]? = some (.int .i64 (offF N ps i : Nat)) ∧ ∃ k, ys[5 * i + 1]? = some k ∧ Byt w S k e.key) ∧ (∀ e, es[N - 1]? = some e → Byt w S (.slice A ll lc) e.key) ∧ S Tb ∧ S gp
theorem BytL.byt' {w : World} {lo : Nat} {v : Value} {bs : List UInt8} (h : BytL w lo v bs) : Byt w (fun i => lo ≤ i ∧ Loose w i) v bs := h
theorem own_rebase' {w : World} {base base' n size : Nat} {v : Value} {e : TypeId} {xs : List Value} (h : w.ownsRow base e size v n xs) (hb : base' ≤ base) : w.ownsRow base' e size v n xs := by
  obtain ⟨h1, h2⟩ := h
  refine ⟨h1, h2.imp id ?_⟩
  rintro ⟨g, cap, cur, e, h3, h4⟩
  exact ⟨g, cap, cur, e, Nat.le_trans hb h3, h4⟩
theorem TabV.set {w : World} {lo Tb N : Nat} {es : List Ent} {ps : List (List Ent)} (h : TabV w lo Tb N es ps) (hps : 0 < ps.length) : TabS w (fun i => lo ≤ i ∧ i < w.heap.size) Tb N es ps := by
  obtain ⟨b, o, n, c, gp, pc, A, ll, lc, ys, h1, h2, h3, h4, h5, h6, h7⟩ := h
  have hg : lo ≤ gp ∧ gp < w.heap.size := by
    obtain ⟨g, c, e, a1, a2, _⟩ := own_pos h4 hps
    simp only [Value.slice.injEq, Option.some.injEq, Addr.mk.injEq] at e
    obtain ⟨⟨rfl, _⟩, _⟩ := e
    exact ⟨a1, a2⟩
  refine ⟨b, o, n, c, gp, pc, A, ll, lc, ys, h1, h2, h3.byt'.mono fun i hi => ⟨hi.1, hi.2.lt⟩, own_rebase' h4 (Nat.zero_le _), fun i p e hp he => ?_, fun e he => (h6 e he).byt'.mono fun i hi => ⟨hi.1, hi.2.lt⟩, ⟨h7, (Array.getElem?_eq_some_iff.1 h1).1⟩, hg⟩
  obtain ⟨a1, k, a2, a3⟩ := h5 i p e (List.getElem?_eq_some_iff.1 hp).1 hp he
  exact ⟨a1, k, a2, a3.byt'.mono fun i hi => ⟨hi.1, hi.2.lt⟩⟩
theorem TabS.only {w w' : World} {S T : Nat → Prop} {Tb N : Nat} {es : List Ent} {ps : List (List Ent)} (h : TabS w S Tb N es ps) (ho : Only T w w') (hd : ∀ i, S i → ¬ T i) : TabS w' S Tb N es ps := by
  obtain ⟨b, o, n, c, gp, pc, A, ll, lc, ys, h1, h2, h3, h4, h5, h6, h7, h8⟩ := h
  refine ⟨b, o, n, c, gp, pc, A, ll, lc, ys, (ho.block Tb (Array.getElem?_eq_some_iff.1 h1).1 (hd _ h7)).trans h1, h2, h3.only ho fun i _ hi => hd i hi, own_only h4 ho fun g hg => ?_, fun i p e hp he => ?_, fun e he => (h6 e he).only ho fun i _ hi => hd i hi, h7, h8⟩
  · simp [Value.ownBlock] at hg
    subst hg
    exact hd _ h8
  · obtain ⟨a1, k, a2, a3⟩ := h5 i p e hp he
    exact ⟨a1, k, a2, a3.only ho fun i _ hi => hd i hi⟩
theorem TabS.fr {w w' : World} {S : Nat → Prop} {Tb N : Nat} {es : List Ent} {ps : List (List Ent)} (h : TabS w S Tb N es ps) (hf : fr w w') : TabS w' S Tb N es ps := h.only (T := fun _ => False) (Only.of_below hf) fun _ _ h => h
theorem TabS.cell {w : World} {S : Nat → Prop} {Tb N : Nat} {es : List Ent} {ps : List (List Ent)} (h : TabS w S Tb N es ps) : ∃ b o n c gp pc, w.cell? ⟨Tb, 0, none⟩ = some (.slice (some ⟨b, o, none⟩) n c) ∧ w.cell? ⟨Tb, 1, none⟩ = some (.slice (some ⟨gp, 0, none⟩) ps.length pc) ∧ n = (fileF N ps).length ∧ Byt w S (.slice (some ⟨b, o, none⟩) n c) (fileF N ps) ∧
    (∀ (i : Nat) (p : List Ent) (e : Ent), ps[i]? = some p → p[0]? = some e → w.cell? ⟨gp, i * 5, none⟩ = some (.int .i64 (offF N ps i : Nat)) ∧ ∃ k, w.cell? ⟨gp, i * 5 + 1, none⟩ = some k ∧ Byt w S k e.key) ∧ w.heap.size > Tb := by
  obtain ⟨b, o, n, c, gp, pc, A, ll, lc, ys, h1, h2, h3, h4, h5, h6, h7, h8⟩ := h
  have hc : ∀ (i : Nat) (u : Value), ys[i]? = some u → w.cell? ⟨gp, i, none⟩ = some u := fun i u hu => by
    have h := h4.cells (g := gp) rfl i u hu
    rwa [Addr.add_lit, Nat.zero_add] at h
  refine ⟨b, o, n, c, gp, pc, cell_of_row w Tb 0 _ _ _ h1, cell_of_row w Tb 1 _ _ _ h1, h2, h3, fun i p e hp he => ?_, (Array.getElem?_eq_some_iff.1 h1).1⟩
  obtain ⟨a1, k, a2, a3⟩ := h5 i p e hp he
  rw [Nat.mul_comm i 5]
  exact ⟨hc _ _ a1, k, hc _ _ a2, a3⟩
/-- an entry handed over: its bytes are new, and in none of the round's blocks; it is the next one. -/
def OkF (lo : Nat) (fs : List Ent) (pre : List (Value × Ent)) (T : Nat → Prop) (x : Value × Ent) (W : World) : Prop :=
  (∃ k u, x.1 = .agg #[k, .int .i64 x.2.seq, .bool x.2.dead, u] ∧ Byt W (fun i => (lo ≤ i ∧ ¬ T i) ∧ Loose W i) k x.2.key ∧ Byt W (fun i => (lo ≤ i ∧ ¬ T i) ∧ Loose W i) u x.2.val) ∧ ∃ rest, pre.map Prod.snd ++ x.2 :: rest = fs
theorem OkF.anti {lo : Nat} {fs : List Ent} {pre : List (Value × Ent)} {T T' : Nat → Prop} {x : Value × Ent} {W : World} (h : OkF lo fs pre T x W) (hT : ∀ i, T' i → T i) : OkF lo fs pre T' x W := by
  obtain ⟨⟨k, u, e, h1, h2⟩, h3⟩ := h
  exact ⟨⟨k, u, e, h1.mono fun i hi => ⟨⟨hi.1.1, fun h => hi.1.2 (hT i h)⟩, hi.2⟩, h2.mono fun i hi => ⟨⟨hi.1.1, fun h => hi.1.2 (hT i h)⟩, hi.2⟩⟩, h3⟩
end Go.Proofs.YtiffgjodbcploaaGreat
end
