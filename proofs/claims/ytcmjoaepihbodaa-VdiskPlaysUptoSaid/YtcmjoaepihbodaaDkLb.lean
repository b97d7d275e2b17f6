/-
ref07's insert, without.
-/
import Derived.Test.YtcmjoaepihbodaaDkLa
namespace Go.Proofs.Ytcmjoaepihbodaa
open Go.RowKit Go.BigFrame
attribute [local go_sem ↓] Go.wp_at_zero Go.wp_at_succ

theorem flR.below {w w' : World} {S : Nat → Prop} {f : Fl} {cs : List Value} (h : flR w S f cs) (hb : Below w.heap.size w w') : flR w' S f cs := flFine.keep h fun _ _ _ _ hr => hr.below hb
theorem flR.alloc {w : World} {S : Nat → Prop} {f : Fl} {cs : List Value} (h : flR w S f cs) (o : Obj) : flR (w.alloc o) S f cs := h.below ((Below.refl _ _).alloc (Nat.le_refl _) _)
theorem RowF.alloc {w : World} {base : Nat} {S : Nat → Prop} {v : Value} {fs : List Fl} (h : RowF w base S v fs) (o : Obj) : RowF (w.alloc o) base S v fs := h.below ((Below.refl _ _).alloc (Nat.le_refl _) _)
theorem push2_a {os : List Fl} {f : Fl} {i n : Nat} (h1 : os.length = i) (h2 : i < n) (h3 : (n + 1) * 48 ≤ 140737488355328) : ((os ++ [f]).length + 1) * 48 ≤ 140737488355328 := by
  rw [List.length_append, List.length_singleton, h1]
  exact Nat.le_trans (Nat.mul_le_mul_right 48 (by omega)) h3
theorem push1_b {os : List Fl} {g : Fl} {i : Nat} (h1 : os.length ≤ i + 1) : (os ++ [g]).length ≤ i + 1 + 1 := by rw [List.length_append, List.length_singleton]; omega
theorem push2_b {os : List Fl} {f g : Fl} {i : Nat} (h1 : os.length = i) : (os ++ [f] ++ [g]).length ≤ i + 1 + 1 := by rw [List.length_append, List.length_append, List.length_singleton, List.length_singleton, h1]; exact Nat.le_refl _
theorem le_alloc {b : Nat} {w : World} (h : b ≤ w.heap.size) (o : Obj) : b ≤ (w.alloc o).heap.size := by simp; omega
theorem wpList_push_fl {w : World} {ops : Array Oper} {rest : List Oper} {o : Oper} {a : Act} {Q : Exit → Act → World → Prop} (hgd : o.guard = none) (s x : Operand)
    (ho : o.op = .call { callee := .builtin .append, args := #[s, x], argTypes := #[22, 22] }) (base : Nat) (S : Nat → Prop) (v : Value) (os : List Fl) (hs : a.eval s = v) (hrow : RowF w base S v os)
    (g : Nat) (f : Fl) (A : Option Addr) (c : Nat) (hx : a.eval x = .slice (some ⟨g, 0, none⟩) 1 1) (hg : w.heap[g]? = some (.cells #[.string ⟨f.name.toArray⟩, .slice A f.data.length c, .int .i64 f.synced] 37 (0, 0)))
    (hf : flR w S f [.string ⟨f.name.toArray⟩, .slice A f.data.length c, .int .i64 f.synced]) (hS : ∀ i, S i → i < base) (hl : (os.length + 1) * 48 ≤ 140737488355328) (hbase : base ≤ w.heap.size)
    (hK : ∀ v' w', RowF w' base S v' (os ++ [f]) → w.grownBy w' v.ownBlock → wpList Try.prog ops Q rest (a.put o.dst v') w') : wpList Try.prog ops Q (o :: rest) a w := by
  obtain ⟨i0, hi, hz0, hz1, hz2⟩ := info_parts infoF
  obtain ⟨css, hown, hys⟩ := hrow
  refine wpList_append_own_at _ hgd s x 22 ho base 37 i0 _ 3 48 Try.underlying22 hi hz0 hz1 hz2 rfl (by decide) v _ _ hs hown ⟨g, 0, none⟩ 1 1 [.string ⟨f.name.toArray⟩, .slice A f.data.length c, .int .i64 f.synced] hx rfl
    (fun j u hu => by rw [Addr.add_lit, cell_of_row w g _ _ _ _ hg, Nat.zero_add]; simpa using hu) (by simp [Value.oneCell']) (by unfold maxLen; omega) hl hbase ?_
  intro v' w' h1 h2 _ _
  exact hK v' w' (RowF.push hown hys (Below.refl _ _) hf h2 hS h1) h2
theorem RowF.grow {w w' : World} {base : Nat} {S : Nat → Prop} {v : Value} {fs : List Fl} {W : World} (h : RowF w base S v fs) (hb : Below base W w) (hw : base ≤ w.heap.size) (hg : w.grownBy w' v.ownBlock) : Below base W w' :=
  hb.grown hg hw (fun _ e => (h.lt e).1)

theorem RowF.cell {w w2 : World} {base : Nat} {S : Nat → Prop} {v u : Value} {os : List Fl} {p : Addr} (h : RowF w base S v os) (hg : w.grownBy w2 v.ownBlock) (hp : p.block < base) (hc : w.cell? p = some u) : w2.cell? p = some u :=
  (World.cell?_of_block (hg.block p.block (World.block_lt_of_cell? w p hc) fun e => by have := (h.lt e.symm).1; omega)).trans hc
theorem flR.grow {w w2 : World} {base : Nat} {S E : Nat → Prop} {v : Value} {os : List Fl} {f : Fl} {cs : List Value} (hf : flR w E f cs) (hE : ∀ i, E i → i < base) (h : RowF w base S v os) (hg : w.grownBy w2 v.ownBlock) : flR w2 E f cs :=
  flFine.keep hf fun _ _ _ _ hr => hr.keep hg.size fun i hi hs => hg.block i hi fun e => by have := (h.lt e.symm).1; have := hE i hs; omega

set_option maxRecDepth 100000 in
set_option maxHeartbeats 4000000 in
theorem insert_any (S : Nat → Prop) (v : Value) (fs : List Fl) (f : Fl) (A : Option Addr) (c : Nat) (w : World) (hv : FilesV w S v fs) (hf : Byt w S (.slice A f.data.length c) f.data) (hfn : f.name.length ≤ 140737488355328) (hl : (fs.length + 1) * 48 ≤ 140737488355328) :
    Calls Try.prog 38 #[v, .agg #[.string ⟨f.name.toArray⟩, .slice A f.data.length c, .int .i64 f.synced]] w fun r w' => ∃ v', r = .returned v' ∧ RowF w' w.heap.size (fun i => S i ∧ i < w.heap.size) v' (insI f fs) ∧ Below w.heap.size w w' := by
  obtain ⟨Av, cv, rfl⟩ := hv.form
  obtain ⟨n, hn⟩ : ∃ n, fs.length = n := ⟨_, rfl⟩
  obtain ⟨E, hE⟩ : ∃ E : Nat → Prop, E = fun i => S i ∧ i < w.heap.size := ⟨_, rfl⟩
  have hvE : FilesV w E (.slice Av fs.length cv) fs := hv.keep flFine fun _ _ _ _ hr => hr.monoLt fun i hi hs => by rw [hE]; exact ⟨hs, hi⟩
  have hfE : flR w E f [.string ⟨f.name.toArray⟩, .slice A f.data.length c, .int .i64 f.synced] := ⟨_, rfl, hf.monoLt fun i hi hs => by rw [hE]; exact ⟨hs, hi⟩, hfn⟩
  have hEb : ∀ i, E i → i < w.heap.size + 1 := fun i hi => by rw [hE] at hi; have := hi.2; omega
  rw [hn] at hl hvE ⊢
  obtain ⟨W0, hW0⟩ : ∃ W0, W0 = w.alloc (.cells #[.string ⟨f.name.toArray⟩, .slice A f.data.length c, .int .i64 f.synced] 37) := ⟨_, rfl⟩
  have hb0 : Below w.heap.size w W0 := by rw [hW0]; exact (Below.refl _ _).alloc (Nat.le_refl _) _
  have hs0 : W0.heap.size = w.heap.size + 1 := by rw [hW0]; simp
  have hx0 : W0.heap[w.heap.size]? = some (.cells #[.string ⟨f.name.toArray⟩, .slice A f.data.length c, .int .i64 f.synced] 37 (0, 0)) := by rw [hW0]; exact heap_alloc_new w _
  have HN := Lib.hid hn
  have HE := Lib.hid hE
  have HEB := Lib.hid hEb
  have HV := Lib.hid (hvE.below flFine hb0)
  have HF := Lib.hid (hfE.below hb0)
  have HX := Lib.hid hx0
  have HB0 := Lib.hid hb0
  clear hn hE hv hf hvE hfE hx0 hb0 hEb
  go_enter Try.func38, Try.ntmps38
  go_wp2
  rw [← hW0]
  go_loopw [5, 6, 10] (fun v5 v6 t wr => ∃ (i : Nat) (b : Bool) (os : List Fl), i ≤ n ∧ t = .int .i64 i ∧ v6 = .bool b ∧ RowF wr (w.heap.size + 1) E v5 os ∧ Below (w.heap.size + 1) W0 wr ∧ os.length ≤ i + 1 ∧ ((b = false ∧ os = fs.take i ∧ insI f fs = os ++ insI f (fs.drop i)) ∨ (b = true ∧ insI f fs = os ++ fs.drop i))) (fun _ _ t _ => n - (intOf t).toNat)
  case atStart => exact ⟨0, false, [], Nat.zero_le _, rfl, rfl, RowF.nil _ _ _, Below.refl _ _, by simp, .inl ⟨rfl, rfl, rfl⟩⟩
  case round =>
    obtain ⟨i, b, os, hi, rfl, rfl, hrow, hbel, hol, hst⟩ := hrel
    have HR := Lib.hid hrow
    have HB := Lib.hid hbel
    have HST := Lib.hid hst
    have hx : wr.heap[w.heap.size]? = _ := (hbel.block _ (by omega)).trans HX.out
    have hwz := hbel.size
    have hz0 : w.heap.size + 1 ≤ wr.heap.size := by omega
    have hbw : Below W0.heap.size W0 wr := hbel.mono (by omega)
    have HBW := Lib.hid hbw
    have x0 : wr.cell? ⟨w.heap.size, 0, none⟩ = some (.string ⟨f.name.toArray⟩) := cell_of_row wr w.heap.size 0 _ _ _ hx
    have x1 : wr.cell? ⟨w.heap.size, 1, none⟩ = some (.slice A f.data.length c) := cell_of_row wr w.heap.size 1 _ _ _ hx
    have x2 : wr.cell? ⟨w.heap.size, 2, none⟩ = some (.int .i64 f.synced) := cell_of_row wr w.heap.size 2 _ _ _ hx
    have HXW := Lib.hid hx
    clear hrow hbel hst hx hbw
    by_cases hin : i < n
    · obtain ⟨g, hg⟩ : ∃ g, fs[i]? = some g := ⟨_, List.getElem?_eq_getElem (by rw [HN.out]; exact hin)⟩
      obtain ⟨b0, o0, cs, rfl, _, hEb0, ⟨vd, rfl, hvd, hgn⟩, hc⟩ := Rows.at_ flFine (HV.out.below flFine HBW.out) hg
      have hb0w := HEB.out _ hEb0
      obtain ⟨Ag, cg, rfl⟩ := slice_form hvd
      have c0 : wr.cell? ⟨b0, o0 + i * 3, none⟩ = _ := hc 0 _ rfl
      have c1 : wr.cell? ⟨b0, o0 + i * 3 + 1, none⟩ = _ := hc 1 _ rfl
      have c2 : wr.cell? ⟨b0, o0 + i * 3 + 2, none⟩ = _ := hc 2 _ rfl
      have HG := Lib.hid (show flR wr E g [.string ⟨g.name.toArray⟩, .slice Ag g.data.length cg, .int .i64 g.synced] from ⟨_, rfl, hvd, hgn⟩)
      have HD := Lib.hid (drop_cons hg)
      have HTK := Lib.hid (take_snoc hg)
      have X0 : ∀ q : Ext wr, q.w.cell? ⟨w.heap.size, 0, none⟩ = _ := fun q => q.h.cell x0
      have C0 : ∀ q : Ext wr, q.w.cell? ⟨b0, o0 + i * 3, none⟩ = _ := fun q => q.h.cell c0
      clear hg hvd hc
      have hbq : ∀ wq : World, fr wr wq → Below (w.heap.size + 1) W0 wq := fun wq hq => HB.out.trans (Below.mono hq (by have := HB.out.size; omega))
      have HBQ := Lib.hid hbq
      clear hbq
      cases b with
      | true =>
        go_upto_region 6 with (fail)
        (refine wp_region_quiet_ext (by kernel_rfl) (by kernel_rfl) ?_; (repeat (go_big_quiet_step (fail))); refine wpQuiet_nil ?_; intro wq hw'; obtain ⟨⟨_, hq⟩, hw''⟩ := hw'; subst hw'')
        have hz9 : w.heap.size + 1 ≤ wq.heap.size := by have := (HBQ.out _ hq).size; omega
        have c0q := fr.cell hq c0
        have c1q := fr.cell hq c1
        have c2q := fr.cell hq c2
        go_wp2_with (at_builtin; refine wpList_push_fl (by rfl) _ _ (by rfl) (w.heap.size + 1) E _ os (by rfl) ((HR.out.below hq).alloc _) wq.heap.size g Ag cg (by rfl) (heap_alloc_new wq _) ((HG.out.below hq).alloc _) HEB.out (by omega) (le_alloc hz9 _) ?_; intro v' w9 hrow9 hgrow9; have HR9 := Lib.hid hrow9; have HB9 := Lib.hid (RowF.grow ((HR.out.below hq).alloc _) ((HBQ.out _ hq).alloc hz9 _) (le_alloc hz9 _) hgrow9); clear hrow9 hgrow9)
        refine ⟨⟨i + 1, true, os ++ [g], by omega, by go_num, rfl, HR9.out, HB9.out, ?_, .inr ⟨rfl, ?_⟩⟩, by simp [intOf]; omega⟩
        · exact push1_b hol
        · rcases HST.out with ⟨h, _⟩ | ⟨_, h⟩
          · cases h
          · rw [h, HD.out]; simp
      | false =>
        have hst2 : os = fs.take i ∧ insI f fs = os ++ insI f (fs.drop i) := by
          rcases HST.out with ⟨_, h⟩ | ⟨h, _⟩
          · exact h
          · cases h
        have HST2 := Lib.hid hst2
        have hosl : os.length = i := by rw [hst2.1, List.length_take, HN.out]; omega
        clear hst2
        cases hlt : Op.bytesLess f.name g.name with
        | true =>
          have hlt' : f.name < g.name := by rw [bytesLess_eq] at hlt; simpa using hlt
          have HLT := Lib.hid hlt'
          clear hlt'
          go_upto_region 6 with (fail)
          (refine wp_region_quiet_ext (by kernel_rfl) (by kernel_rfl) ?_; (repeat (go_big_quiet_step (fail))); refine wpQuiet_nil ?_; intro wq hw'; obtain ⟨⟨_, hq⟩, hw''⟩ := hw'; subst hw'')
          have hz9 : w.heap.size + 1 ≤ wq.heap.size := by have := (HBQ.out _ hq).size; omega
          have c0q := fr.cell hq c0
          have c1q := fr.cell hq c1
          have c2q := fr.cell hq c2
          have x0q := fr.cell hq x0
          have x1q := fr.cell hq x1
          have x2q := fr.cell hq x2
          have hrq := HR.out.below hq
          have HRQ := Lib.hid hrq
          have hgq := HG.out.below hq
          have HGQ := Lib.hid hgq
          have HFQ := Lib.hid ((HF.out.below HBW.out).below hq)
          clear hrq hgq
          go_upto_region 8 with (at_builtin; refine wpList_push_fl (by rfl) _ _ (by rfl) (w.heap.size + 1) E _ os (by rfl) (HRQ.out.alloc _) wq.heap.size f A c (by rfl) (heap_alloc_new wq _) (HFQ.out.alloc _) HEB.out (by omega) (le_alloc hz9 _) ?_; intro v8 w8 hrow8 hgrow8; have HB8 := Lib.hid (RowF.grow (HRQ.out.alloc _) ((HBQ.out _ hq).alloc hz9 _) (le_alloc hz9 _) hgrow8))
          have c0r := RowF.cell (HRQ.out.alloc _) hgrow8 (by simp only; omega) (fr.cell (fr.refl.alloc _) c0q)
          have c1r := RowF.cell (HRQ.out.alloc _) hgrow8 (by simp only; omega) (fr.cell (fr.refl.alloc _) c1q)
          have c2r := RowF.cell (HRQ.out.alloc _) hgrow8 (by simp only; omega) (fr.cell (fr.refl.alloc _) c2q)
          have HG8 := Lib.hid (flR.grow (HGQ.out.alloc _) HEB.out (HRQ.out.alloc _) hgrow8)
          have HR8 := Lib.hid hrow8
          have hz8 : w.heap.size + 1 ≤ w8.heap.size := by have := HB8.out.size; omega
          clear hrow8 hgrow8 c0q c1q c2q x0q x1q x2q
          go_wp2_with (at_builtin; refine wpList_push_fl (by rfl) _ _ (by rfl) (w.heap.size + 1) E _ (os ++ [f]) (by rfl) (HR8.out.alloc _) w8.heap.size g Ag cg (by rfl) (heap_alloc_new w8 _) (HG8.out.alloc _) HEB.out (push2_a hosl hin hl) (le_alloc hz8 _) ?_; intro v' w9 hrow9 hgrow9; have HR9 := Lib.hid hrow9; have HB9 := Lib.hid (RowF.grow (HR8.out.alloc _) (HB8.out.alloc hz8 _) (le_alloc hz8 _) hgrow9); clear hrow9 hgrow9)
          refine ⟨⟨i + 1, true, os ++ [f] ++ [g], hin, by go_num, rfl, HR9.out, HB9.out, push2_b hosl, .inr ⟨rfl, ?_⟩⟩, by simp [intOf]; omega⟩
          rw [HST2.out.2, HD.out, insI, if_pos HLT.out]
          simp
        | false =>
          have hlt' : ¬ f.name < g.name := by rw [bytesLess_eq] at hlt; simpa using hlt
          have HLT := Lib.hid hlt'
          clear hlt'
          go_upto_region 6 with (fail)
          (refine wp_region_quiet_ext (by kernel_rfl) (by kernel_rfl) ?_; (repeat (go_big_quiet_step (fail))); refine wpQuiet_nil ?_; intro wq hw'; obtain ⟨⟨_, hq⟩, hw''⟩ := hw'; subst hw'')
          have hz9 : w.heap.size + 1 ≤ wq.heap.size := by have := (HBQ.out _ hq).size; omega
          have c0q := fr.cell hq c0
          have c1q := fr.cell hq c1
          have c2q := fr.cell hq c2
          go_wp2_with (at_builtin; refine wpList_push_fl (by rfl) _ _ (by rfl) (w.heap.size + 1) E _ os (by rfl) ((HR.out.below hq).alloc _) wq.heap.size g Ag cg (by rfl) (heap_alloc_new wq _) ((HG.out.below hq).alloc _) HEB.out (by omega) (le_alloc hz9 _) ?_; intro v' w9 hrow9 hgrow9; have HR9 := Lib.hid hrow9; have HB9 := Lib.hid (RowF.grow ((HR.out.below hq).alloc _) ((HBQ.out _ hq).alloc hz9 _) (le_alloc hz9 _) hgrow9); clear hrow9 hgrow9)
          refine ⟨⟨i + 1, false, os ++ [g], by omega, by go_num, rfl, HR9.out, HB9.out, push1_b hol, .inl ⟨rfl, by rw [HST2.out.1, HTK.out], ?_⟩⟩, by simp [intOf]; omega⟩
          rw [HST2.out.2, HD.out, insI, if_neg HLT.out]
          simp
    · obtain rfl : i = n := by omega
      have hd0 : fs.drop i = [] := List.drop_of_length_le (by rw [HN.out]; exact Nat.le_refl _)
      have HD0 := Lib.hid hd0
      clear hd0
      cases b with
      | true =>
        go_wp2
        refine bodyPost_ret (v := u5) (by simp [results, Try.results38, go_sem]) rfl ?_
        refine ⟨u5, rfl, ?_, HB0.out.trans (HB.out.mono (by omega))⟩
        rcases HST.out with ⟨h, _⟩ | ⟨_, h⟩
        · cases h
        · rw [h, HD0.out, List.append_nil, ← HE.out]
          exact HR.out.rebase fun g hg => by have := (HR.out.lt hg).1; omega
      | false =>
        have hst2 : os = fs.take i ∧ insI f fs = os ++ insI f (fs.drop i) := by
          rcases HST.out with ⟨_, h⟩ | ⟨h, _⟩
          · exact h
          · cases h
        have HST2 := Lib.hid hst2
        have hosl : os.length = i := by rw [hst2.1, List.length_take, HN.out]; omega
        clear hst2
        have HFW := Lib.hid (HF.out.below HBW.out)
        go_wp2_with (at_builtin; refine wpList_push_fl (by rfl) _ _ (by rfl) (w.heap.size + 1) E _ os (by rfl) (HR.out.alloc _) wr.heap.size f A c (by rfl) (heap_alloc_new wr _) (HFW.out.alloc _) HEB.out (by omega) (le_alloc hz0 _) ?_; intro v' w9 hrow9 hgrow9; have HR9 := Lib.hid hrow9; have HB9 := Lib.hid (RowF.grow (HR.out.alloc _) (HB.out.alloc hz0 _) (le_alloc hz0 _) hgrow9); clear hrow9 hgrow9)
        refine bodyPost_ret (v := v') (by simp [results, Try.results38, go_sem]) rfl ?_
        refine ⟨v', rfl, ?_, HB0.out.trans (HB9.out.mono (by omega))⟩
        rw [HST2.out.2, HD0.out, ← HE.out]
        exact HR9.out.rebase fun g hg => by have := (HR9.out.lt hg).1; omega
end Go.Proofs.Ytcmjoaepihbodaa
