/-
The plain law of VdiskSurvives.
-/
import Derived.Test.YtcmjoaepihbodaaQPOwnU7
section
namespace Go.Proofs.Ytcmjoaepihbodaa
open Go.RowKit Go.BigFrame Go.Sort Go.Shelf Go.Lib Go.Maps
attribute [local go_sem ↓] Go.wp_at_zero Go.wp_at_succ
def ofGo (acc : List Fl) : List Fl → Option (List Fl)
  | [] => some acc
  | f :: l => if (findP f.name acc).isSome = true then none else ofGo (insP f acc) l
def sumB (l : List Fl) : Int := l.foldl (fun b f => wrap64 (b + f.data.length)) 0
def ofE (fs : List Fl) : Int := if fs.any nmB = true then 23 else match ofGo [] fs with
  | none => 31
  | some _ => if fs.any rgB = true then 2 else 0
def ofK (fs : List Fl) (ops room : Int) (keep : List Int) : Pk := ⟨(ofGo [] fs).getD [], ops, room, keep, 0, sumB fs, false⟩
theorem drop_cons {α : Type} {l : List α} {i : Nat} {a : α} (h : l[i]? = some a) : l.drop i = a :: l.drop (i + 1) := by
  obtain ⟨h1, h2⟩ := List.getElem?_eq_some_iff.1 h
  rw [List.drop_eq_getElem_cons h1, h2]
theorem sumB_snoc {l : List Fl} {i : Nat} {f : Fl} (h : l[i]? = some f) : sumB (l.take (i + 1)) = wrap64 (sumB (l.take i) + f.data.length) := by
  unfold sumB
  rw [take_snoc h, List.foldl_append]
  rfl
theorem put_file {w : World} {mb n : Nat} {D : DataW Unit} (h : w.ownsMap Try.prog 9 ptrR mb n D) (hn : n < maxLen) (x : Nm) (hx : x.length ≤ 140737488355328) (g : Nat) :
    ∃ w', (Instr.mapUpdate 70 (.map (some mb)) (.string ⟨x.toArray⟩) (.pointer (some ⟨g, 0, none⟩))).run Try.prog w = .ok () w' ∧ w'.ownsMap Try.prog 9 ptrR mb (n + 1) (D.put (.string x) (.lit (.int .i64 g))) ∧ w.grownBy w' (some mb) :=
  h.update law_str Try.underlying70 hn (key_str x hx) (ps := []) rfl
theorem bcloneO_any (S : Nat → Prop) (v : Value) (bs : List UInt8) (w : World) (h : Byt w S v bs) :
    Calls Try.prog 30 #[v] w fun r w' => ∃ v', r = .returned v' ∧ OwnB w' (fun i => w.heap.size ≤ i) v' bs ∧ Below w.heap.size w w' := by
  have hl := h.len
  have h' := Lib.hid h
  obtain ⟨A, c, rfl, _⟩ := h
  have q22 : ∀ (w : World) (a : Option Addr) (n c n' c' : Nat), (binOp .eql 35 (.slice a n c) (.slice none n' c')).run Try.prog w = .ok (.bool a.isNone) w := fun w a n c n' c' => Lib.run_eql_slice_nil w _ _ a n c n' c' Try.underlying35
  rcases A with _ | ad
  · have h0 : bs = [] := by
      obtain ⟨A, c', e, _, _, _, hr⟩ := h'.out
      rcases Nat.eq_zero_or_pos bs.length with h0 | h0
      · exact List.eq_nil_of_length_eq_zero h0
      · injection e with e1 _ _
        subst e1
        obtain ⟨b, o, h, _⟩ := hr.2 h0
        cases h
    subst h0
    go_enter Try.func30, Try.ntmps30
    go_wp2
    go_ret
    exact ⟨_, rfl, OwnB.nil _ _, Below.refl _ _⟩
  · have hb1 := (Below.refl w.heap.size w).alloc (Nat.le_refl _) (.cells #[] 5)
    have HB := Lib.hid hb1
    clear hb1
    go_enter Try.func30, Try.ntmps30
    go_wp2_with (at_builtin; refine wpList_append_byt rfl _ _ rfl w.heap.size _ _ rfl rfl S bs (lit0 w) (h'.out.below HB.out) HB.out.size ?_; intro v' w1 hown hgrow)
    go_ret
    exact ⟨_, rfl, OwnB.of_own hown hl (fun _ hi => hi), HB.out.grown hgrow HB.out.size (fun j e => by cases e; exact Nat.le_refl _)⟩
section
variable {W w' w2 : World} {p X i : Nat} {a b c d : Value}
theorem fr.blk (h : fr W w') {j : Nat} (hj : j < W.heap.size) : w'.heap[j]? = W.heap[j]? := Below.block h j hj
theorem fr.four (h : fr W w') (c0 : W.cell? ⟨p, i, none⟩ = some a) (x0 : W.cell? ⟨X, 0, none⟩ = some b) (x1 : W.cell? ⟨X, 1, none⟩ = some c) (x2 : W.cell? ⟨X, 2, none⟩ = some d) :
    w'.cell? ⟨p, i, none⟩ = some a ∧ w'.cell? ⟨X, 0, none⟩ = some b ∧ w'.cell? ⟨X, 1, none⟩ = some c ∧ w'.cell? ⟨X, 2, none⟩ = some d := ⟨h.cell c0, h.cell x0, h.cell x1, h.cell x2⟩
theorem fr.fourG {g : Nat} (h : fr W w') (c0 : W.cell? ⟨p, i, none⟩ = some a) (x0 : W.cell? ⟨X, 0, none⟩ = some b) (x1 : W.cell? ⟨X, 1, none⟩ = some c) (x2 : W.cell? ⟨X, 2, none⟩ = some d) (hg : w'.grownBy w2 (some g)) (hp : p ≠ g) (hX : X ≠ g) :
    w2.cell? ⟨p, i, none⟩ = some a ∧ w2.cell? ⟨X, 0, none⟩ = some b ∧ w2.cell? ⟨X, 1, none⟩ = some c ∧ w2.cell? ⟨X, 2, none⟩ = some d := by
  have l1 := World.block_lt_of_cell? W _ c0
  have l2 := World.block_lt_of_cell? W _ x0
  have hs := Below.size h
  have b1 := hg.block p (by simp at l1; omega) (fun e => hp (Option.some.inj e))
  have b2 := hg.block X (by simp at l2; omega) (fun e => hX (Option.some.inj e))
  exact ⟨(World.cell?_of_block (w' := w2) (w := w') (a := ⟨p, i, none⟩) b1).trans (h.cell c0), (World.cell?_of_block (w' := w2) (w := w') (a := ⟨X, 0, none⟩) b2).trans (h.cell x0),
    (World.cell?_of_block (w' := w2) (w := w') (a := ⟨X, 1, none⟩) b2).trans (h.cell x1), (World.cell?_of_block (w' := w2) (w := w') (a := ⟨X, 2, none⟩) b2).trans (h.cell x2)⟩
end
set_option maxRecDepth 100000 in
set_option maxHeartbeats 4000000 in
theorem of_any (S S' : Nat → Prop) (v : Value) (fs : List Fl) (ops room : Int) (kv : Value) (zs : List Int) (w : World) (hv : FilesV w S v fs) (hz : IntsIn w S' kv zs) (hl : zs.length * 8 ≤ 140737488355328) :
    Calls Try.prog 9 #[v, .agg #[.int .i64 ops, .int .i64 room, kv]] w fun r w' => ∃ q, r = .returned (.tuple #[q, .int .i64 (ofE fs)]) ∧ (ofE fs ≠ 0 → q = .pointer none) ∧ (ofE fs = 0 → ∃ p, q = .pointer (some ⟨p, 0, none⟩) ∧ DiskP w' (fun i => w.heap.size ≤ i) p (ofK fs ops room zs)) ∧ Below w.heap.size w w' := by
  obtain ⟨A, c, rfl⟩ := hv.form
  obtain ⟨n, hn⟩ : ∃ n, fs.length = n := ⟨_, rfl⟩
  have hmax : n * 48 ≤ 140737488355328 := by obtain ⟨_, _, _, _, _, _, h3, _⟩ := hv; rw [← hn]; exact h3
  rw [hn] at hv ⊢
  have HN := Lib.hid hn
  obtain ⟨Ak, ck, rfl, _⟩ := id hz
  have hA : Below w.heap.size w (w.alloc (.cells #[.int .i64 ops, .int .i64 room, .slice Ak zs.length ck] 25)) := (Below.refl _ _).alloc (Nat.le_refl _) _
  have HNEW := Lib.hid (new_any S' ops room _ zs _ (hz.below hA) hl)
  have HA := Lib.hid hA
  have HV := Lib.hid hv
  clear hn hv hz hA
  obtain ⟨q0, hq0⟩ : ∃ e, ofE fs = e := ⟨_, rfl⟩
  rw [hq0]
  have HQ := Lib.hid hq0
  clear hq0
  go_enter Try.func9, Try.ntmps9
  go_wp2_with (go_at_call 21; refine HNEW.out.mono ?_; rintro r w1 ⟨p, rfl, h1, hb1⟩; have H1 := Lib.hid (h1.mono (F' := fun i => w.heap.size ≤ i) fun i hi _ => Nat.le_trans HA.out.size hi); have HB1 := Lib.hid (HA.out.trans (hb1.mono HA.out.size)); clear h1 hb1)
  have HAN := Lib.hid (any1 S _ fs w1 (HV.out.below flFine HB1.out))
  cases hnm : fs.any nmB with
  | true =>
    rw [hnm] at HAN
    obtain rfl : 23 = q0 := by rw [← HQ.out]; unfold ofE; rw [if_pos hnm]
    clear hnm
    go_wp2_with (go_at_call 27; refine HAN.out.mono ?_; rintro r w2 ⟨rfl, hb2⟩)
    refine bodyPost_ret (v := .tuple #[.pointer none, .int .i64 23]) (by simp [results, Try.results9, go_sem]) rfl ?_
    exact ⟨_, rfl, fun _ => rfl, fun e => absurd e (by decide), HB1.out.trans (hb2.mono HB1.out.size)⟩
  | false =>
    rw [hnm] at HAN
    have HNM := Lib.hid hnm
    clear hnm
    go_upto_region 4 with (go_at_call 27; refine HAN.out.mono ?_; rintro r w2 ⟨rfl, hb2⟩; have H2 := Lib.hid (H1.out.below hb2); have HB2 := Lib.hid (HB1.out.trans (hb2.mono HB1.out.size)); clear hb2 H1 HAN HB1)
    go_wp2
    go_loopw [15] (fun t wr => ∃ (i : Nat) (acc : List Fl) (mb : Nat) (kv : Value) (d : Dk), i ≤ n ∧ t = .int .i64 i ∧ DiskV wr (fun i => w.heap.size ≤ i) p mb kv d ∧ d.pk = ⟨acc, ops, room, zs, 0, sumB (fs.take i), false⟩ ∧ ofGo [] fs = ofGo acc (fs.drop i) ∧ acc.length ≤ i ∧ Below w.heap.size w wr) (fun t _ => n - (intOf t).toNat)
    case atStart =>
      obtain ⟨mb, kv, d, h, e⟩ := H2.out
      exact ⟨0, [], mb, kv, d, Nat.zero_le _, rfl, h, e, rfl, Nat.le_refl _, HB2.out⟩
    case round =>
      obtain ⟨i, acc, mb, kv, d, hi, rfl, hd, hpk, hgo, hal, hbel⟩ := hrel
      have HD := Lib.hid hd
      have HPK := Lib.hid hpk
      have HGO := Lib.hid hgo
      have HB := Lib.hid hbel
      clear hd hpk hgo hbel H2 HB2
      by_cases hin : i < n
      · obtain ⟨f, hf⟩ : ∃ f, fs[i]? = some f := ⟨_, List.getElem?_eq_getElem (by rw [HN.out]; exact hin)⟩
        obtain ⟨b, o, cs, rfl, _, _, ⟨vd, rfl, hvd, hxl⟩, hc⟩ := Rows.at_ flFine (HV.out.below flFine HB.out) hf
        obtain ⟨A', c', rfl⟩ := slice_form hvd
        have c0 : wr.cell? ⟨b, o + i * 3, none⟩ = _ := hc 0 _ rfl
        have c1 : wr.cell? ⟨b, o + i * 3 + 1, none⟩ = _ := hc 1 _ rfl
        have c2 : wr.cell? ⟨b, o + i * 3 + 2, none⟩ = _ := hc 2 _ rfl
        have hnmf : nameB f.name = true := by
          have h1 := List.any_eq_false.1 HNM.out f (List.mem_of_getElem? hf)
          unfold nmB at h1
          simpa using h1
        have HNMF := Lib.hid hnmf
        have HF := Lib.hid hf
        have HVD := Lib.hid hvd
        clear hf hvd hc hnmf
        go_upto_region 7 with (fail)
        obtain ⟨W, hW⟩ : ∃ W, W = wr.alloc (.cells #[.string ⟨f.name.toArray⟩, .slice A' f.data.length c', .int .i64 f.synced] 37) := ⟨_, rfl⟩
        have hbox : W.heap[wr.heap.size]? = some (.cells #[.string ⟨f.name.toArray⟩, .slice A' f.data.length c', .int .i64 f.synced] 37 (0, 0)) := by rw [hW]; exact heap_alloc_new wr _
        have hbw : Below wr.heap.size wr W := by rw [hW]; exact (Below.refl _ _).alloc (Nat.le_refl _) _
        rw [← hW]
        have HDW := Lib.hid (HD.out.below hbw)
        have HBW := Lib.hid (HB.out.trans (hbw.mono HB.out.size))
        have HVW := Lib.hid (HVD.out.below hbw)
        have HBOX := Lib.hid hbox
        have y0 : W.cell? ⟨wr.heap.size, 0, none⟩ = some (.string ⟨f.name.toArray⟩) := cell_of_row W wr.heap.size 0 _ _ _ hbox
        obtain ⟨x0, _⟩ := HDW.out.cell
        have F0 : ∀ q : Ext W, q.w.cell? { block := p, off := 0 } = _ := fun q => q.h.cell x0
        have F1 : ∀ q : Ext W, q.w.cell? { block := wr.heap.size, off := 0 } = _ := fun q => q.h.cell y0
        have F2 : ∀ q : Ext W, (Instr.lookup 70 (.map (some mb)) (.string ⟨f.name.toArray⟩) false).run Try.prog q.w = .ok (ptrF (findF f.name d.ns)) q.w := fun q => (HDW.out.below q.h).look f.name hxl
        have hfp : findP f.name acc = (findF f.name d.ns).map Fd.fl := by rw [← findP_map]; show _ = findP f.name d.pk.fs; rw [HPK.out]
        have HFP := Lib.hid hfp
        clear hW hbox hbw c0 c1 c2 hfp
        cases hff : findF f.name d.ns with
        | some g =>
          rw [hff] at F2 HFP
          unfold ptrF at F2
          have hE : ofE fs = 31 := by
            unfold ofE
            rw [if_neg (by rw [HNM.out]; simp), HGO.out, drop_cons HF.out, ofGo, if_pos (by rw [HFP.out]; rfl)]
          obtain rfl : 31 = q0 := hE.symm.trans HQ.out
          clear hE hff
          (refine wp_region_quiet_ext (by kernel_rfl) (by kernel_rfl) ?_; (repeat (go_big_quiet_step (fail))); refine wpQuiet_nil ?_; intro wq hw'; obtain ⟨⟨_, hq⟩, hw''⟩ := hw'; subst hw'')
          go_wp2
          refine bodyPost_ret (v := .tuple #[.pointer none, .int .i64 31]) (by simp [results, Try.results9, go_sem]) rfl ?_
          exact ⟨_, rfl, fun _ => rfl, fun e => absurd e (by decide), HBW.out.trans (Below.mono hq HBW.out.size)⟩
        | none =>
          rw [hff] at F2 HFP
          unfold ptrF at F2
          have HFF := Lib.hid hff
          clear hff
          (refine wp_region_quiet_ext (by kernel_rfl) (by kernel_rfl) ?_; (repeat (go_big_quiet_step (fail))); refine wpQuiet_nil ?_; intro wq hw'; obtain ⟨⟨_, hq⟩, hw''⟩ := hw'; subst hw'')
          have hvq := HDW.out.below hq
          have HVQ := Lib.hid hvq
          obtain ⟨x0q, _⟩ := hvq.cell
          have hbq : wq.heap[wr.heap.size]? = some (.cells #[.string ⟨f.name.toArray⟩, .slice A' f.data.length c', .int .i64 f.synced] 37 (0, 0)) := (Below.block hq _ (Array.getElem?_eq_some_iff.1 HBOX.out).1).trans HBOX.out
          have HBQ := Lib.hid hbq
          have z0 : wq.cell? ⟨wr.heap.size, 0, none⟩ = some (.string ⟨f.name.toArray⟩) := cell_of_row wq wr.heap.size 0 _ _ _ hbq
          have z1 : wq.cell? ⟨wr.heap.size, 1, none⟩ = some (.slice A' f.data.length c') := cell_of_row wq wr.heap.size 1 _ _ _ hbq
          have z2 : wq.cell? ⟨wr.heap.size, 2, none⟩ = some (.int .i64 f.synced) := cell_of_row wq wr.heap.size 2 _ _ _ hbq
          obtain ⟨D, hm, hD, hT⟩ := hvq.tidy
          have HBB := Lib.hid (HBW.out.trans (Below.mono hq HBW.out.size))
          have HVX := Lib.hid (fr.byt hq HVW.out)
          have HML := Lib.hid hm.lt
          have HM := Lib.hid hm
          have HDT := Lib.hid (And.intro hD hT)
          have hpm : p ≠ mb := fun e => map_ne HVQ.out.head HM.out e
          have hxm : wr.heap.size ≠ mb := fun e => map_ne HBQ.out HM.out e
          have hdl : d.ns.length < maxLen := by have e1 := congrArg (fun k : Pk => k.fs.length) HPK.out; have e2 : d.pk.fs.length = d.ns.length := map_len d; simp only at e1; unfold maxLen; omega
          clear hvq hbq hm hD hT F0 F1 F2 x0 y0 hq
          go_upto_region 9 with (fail)
          have hf0 : fr wq wq.drew := fr.refl.drew
          go_region_held3 (fun w' => w'.cell? ⟨p, 0, none⟩ = some (.map (some mb)) ∧ w'.cell? ⟨wr.heap.size, 0, none⟩ = some (.string ⟨f.name.toArray⟩) ∧ w'.cell? ⟨wr.heap.size, 1, none⟩ = some (.slice A' f.data.length c') ∧ w'.cell? ⟨wr.heap.size, 2, none⟩ = some (.int .i64 f.synced))
            (first
              | with_reducible exact fr.four hf0 x0q z0 z1 z2
              | with_reducible exact hs3
              | with_reducible exact fr.four hf1 x0q z0 z1 z2
              | with_reducible exact fr.four (fr.alloc hf1 _) x0q z0 z1 z2)
            (first
              | (go_split_ands; go_at_call 30; with_reducible (refine (bcloneO_any _ (.slice A' f.data.length c') f.data _ (fr.byt hf0 HVX.out)).mono ?_); rintro r w2 ⟨v1, rfl, hk', hb2⟩; obtain ⟨Ak', ck', rfl⟩ := hk'.form; have hf1 := fr.step hf0 hb2; have hf2 := fr.alloc hf1 (.cells #[.slice Ak' f.data.length ck', .int .i64 f.synced] 75); have hbk := fr.blk hf2 HML.out; have hmm := ownsMap_block HM.out hbk; obtain ⟨w3, hrun3, hown3, hgrow3⟩ := put_file hmm hdl f.name hxl w2.heap.size; have hs3 := fr.fourG hf2 x0q z0 z1 z2 hgrow3 hpm hxm))
          have hzq := HBB.out.size
          have hz2 : w.heap.size ≤ w2.heap.size := Nat.le_trans hzq (Below.size hf1)
          have hva := HVQ.out.below hf2
          have hfv : FileV (w2.alloc (.cells #[.slice Ak' f.data.length ck', .int .i64 f.synced] 75)) (fun i => w.heap.size ≤ i) ⟨f.name, f.data, f.synced, w2.heap.size, .slice Ak' f.data.length ck'⟩ :=
            ⟨heap_alloc_new w2 _, (hk'.mono fun i hi => Nat.le_trans hzq hi).below ((Below.refl _ _).alloc (Nat.le_refl _) _), hz2⟩
          have hins := hva.ins (F' := fun i => w.heap.size ≤ i) (fun _ hi => hi) (f := ⟨f.name, f.data, f.synced, w2.heap.size, .slice Ak' f.data.length ck'⟩) HDT.out.1 HDT.out.2 hgrow3 hown3 hfv HNMF.out
            (fun g hg _ e => by have h1 := (Array.getElem?_eq_some_iff.1 (HVQ.out.files g hg).cells).1; have h2 := Below.size hf1; simp only at e; omega)
            (fun g hg _ j hj e => by have h1 := ((HVQ.out.files g hg).own.blk e).2.2; have h2 := (hk'.blk hj).1; simp only [World.drew] at h2; omega)
          obtain ⟨_, _, _, _, _, x5, _⟩ := hins.cell
          have xf := hins.frozen
          obtain ⟨_, _, z13, _⟩ := hs3
          have HINS := Lib.hid hins
          have HBC := Lib.hid ((HBB.out.trans (Below.mono hf2 hzq)).grown hgrow3 (by simp; omega) (fun j e => by obtain rfl := Option.some.inj e; exact HVQ.out.loM))
          clear hva hfv hins hk' hb2 hf1 hf2 hbk hmm hrun3 hown3 hgrow3 hf0 z0 z1 z2 x0q
          go_wp2
          go_region
          have hst := (HINS.out.store 5 (.int .i64 (wrap64 (d.bytes + f.data.length))) { d with ns := insF ⟨f.name, f.data, f.synced, w2.heap.size, .slice Ak' f.data.length ck'⟩ d.ns, bytes := wrap64 (d.bytes + f.data.length) } kv rfl HINS.out.keep rfl).below (Below.refl _ _).drew
          have hpk' : Dk.pk { d with ns := insF ⟨f.name, f.data, f.synced, w2.heap.size, .slice Ak' f.data.length ck'⟩ d.ns, bytes := wrap64 (d.bytes + f.data.length) } = ⟨insP f acc, ops, room, zs, 0, sumB (fs.take (i + 1)), false⟩ := by
            have o1 : d.ns.map Fd.fl = acc := congrArg Pk.fs HPK.out
            have o2 : d.ops = ops := congrArg Pk.ops HPK.out
            have o3 : d.room = room := congrArg Pk.room HPK.out
            have o4 : d.keep = zs := congrArg Pk.keep HPK.out
            have o5 : d.done = 0 := congrArg Pk.done HPK.out
            have o6 : d.bytes = sumB (fs.take i) := congrArg Pk.bytes HPK.out
            have o7 : d.down = false := congrArg Pk.down HPK.out
            unfold Dk.pk
            simp only
            rw [← insP_map, o1, o2, o3, o4, o5, o6, o7, sumB_snoc HF.out]
            rfl
          have HST := Lib.hid hst
          have HPK' := Lib.hid hpk'
          have HBE := Lib.hid (HBC.out.trans ((((Only.refl _ w3).setCell (p := ⟨p, 5, none⟩) (S := fun j => w.heap.size ≤ j) HINS.out.loP (.int .i64 (wrap64 (d.bytes + f.data.length)))).drew).below HBC.out.size fun j hj => hj))
          have hgo' : ofGo [] fs = ofGo (insP f acc) (fs.drop (i + 1)) := by rw [HGO.out, drop_cons HF.out, ofGo, if_neg (by rw [HFP.out]; simp)]
          have hlen' := len_insP f acc
          clear hst hpk' xf x5 z13
          go_wp2
          refine ⟨⟨i + 1, insP f acc, mb, kv, _, by omega, by go_num, HST.out, HPK'.out, hgo', by omega, HBE.out⟩, by simp [intOf]; omega⟩
      · obtain rfl : i = n := by omega
        have hd0 : fs.drop i = [] := List.drop_of_length_le (by rw [HN.out]; exact Nat.le_refl _)
        have hgo0 : ofGo [] fs = some acc := by rw [HGO.out, hd0]; rfl
        have hE : ofE fs = if fs.any rgB = true then 2 else 0 := by
          unfold ofE
          rw [if_neg (by rw [HNM.out]; simp), hgo0]
        have hK : d.pk = ofK fs ops room zs := by
          rw [HPK.out]
          unfold ofK
          rw [hgo0, List.take_of_length_le (by rw [HN.out]; exact Nat.le_refl _)]
          rfl
        have HAN2 := Lib.hid (any2 S _ fs wr (HV.out.below flFine HB.out))
        have HE := Lib.hid hE
        have HK := Lib.hid hK
        clear hd0 hgo0 hE hK
        cases hrg : fs.any rgB with
        | true =>
          rw [hrg] at HAN2 HE
          obtain rfl : 2 = q0 := by rw [← HQ.out, HE.out, if_pos rfl]
          clear hrg
          go_wp2_with (go_at_call 27; refine HAN2.out.mono ?_; rintro r w4 ⟨rfl, hb4⟩)
          refine bodyPost_ret (v := .tuple #[.pointer none, .int .i64 2]) (by simp [results, Try.results9, go_sem]) rfl ?_
          exact ⟨_, rfl, fun _ => rfl, fun e => absurd e (by decide), HB.out.trans (hb4.mono HB.out.size)⟩
        | false =>
          rw [hrg] at HAN2 HE
          obtain rfl : 0 = q0 := by rw [← HQ.out, HE.out, if_neg (by simp)]
          clear hrg
          go_wp2_with (go_at_call 27; refine HAN2.out.mono ?_; rintro r w4 ⟨rfl, hb4⟩)
          refine bodyPost_ret (v := .tuple #[.pointer (some ⟨p, 0, none⟩), .int .i64 0]) (by simp [results, Try.results9, go_sem]) rfl ?_
          exact ⟨_, rfl, ⟨p, rfl, mb, kv, d, HD.out.below hb4, HK.out⟩, HB.out.trans (hb4.mono HB.out.size)⟩
end Go.Proofs.Ytcmjoaepihbodaa
end
section
namespace Go.Proofs.Ytcmjoaepihbodaa
open Go.RowKit Go.BigFrame Go.Sort Go.Shelf Go.Lib Go.Maps
attribute [local go_sem ↓] Go.wp_at_zero Go.wp_at_succ
theorem KeepV.ints {w : World} {F : Nat → Prop} {v : Value} {zs : List Int} (h : KeepV w F v zs) : IntsIn w F v zs := by
  obtain ⟨A, c, e, h1, h2, h3⟩ := h
  refine ⟨A, c, e, h1, h2, by simp, fun hn => ?_⟩
  obtain ⟨g, o, cs, e1, e2, e3, e4⟩ := h3 hn
  refine ⟨g, o, e1, e2, (Array.getElem?_eq_some_iff.1 e3).1, fun j u hu => ?_⟩
  rw [cell_of_row w g _ cs _ _ e3]
  rw [List.getElem?_map] at hu
  cases hz : zs[j]? with
  | none => rw [hz] at hu; cases hu
  | some z =>
    rw [hz] at hu
    obtain rfl := Option.some.inj hu
    exact e4 j z hz
theorem grown_box {w w' : World} {g b i : Nat} {v : Value} (hg : w.grownBy w' (some g)) (hne : b ≠ g) (h : w.cell? ⟨b, i, none⟩ = some v) : w'.cell? ⟨b, i, none⟩ = some v :=
  (World.cell?_of_block (a := ⟨b, i, none⟩) (hg.block b (World.block_lt_of_cell? w _ h) fun e => hne (Option.some.inj e))).trans h
theorem grown_heap {w w' : World} {g b : Nat} {o : Obj} (hg : w.grownBy w' (some g)) (hne : b ≠ g) (h : w.heap[b]? = some o) : w'.heap[b]? = some o :=
  (hg.block b (Array.getElem?_eq_some_iff.1 h).1 fun e => hne (Option.some.inj e)).trans h
set_option maxRecDepth 100000 in
set_option maxHeartbeats 4000000 in
theorem plan_any (S : Nat → Prop) (ops room : Int) (v : Value) (zs : List Int) (w : World) (hz : IntsIn w S v zs) (hl : zs.length * 8 ≤ 140737488355328) :
    Calls Try.prog 11 #[.agg #[.int .i64 ops, .int .i64 room, v]] w fun r w' => ∃ kv, r = .returned (.agg #[.int .i64 ops, .int .i64 room, kv]) ∧ KeepV w' (fun i => w.heap.size ≤ i) kv zs ∧ Below w.heap.size w w' := by
  obtain ⟨W0, hW0⟩ : ∃ W0, W0 = ((w.alloc (.cells #[.int .i64 ops, .int .i64 room, v] 25)).alloc (.cells #[.int .i64 0, .int .i64 0, .slice none 0 0] 25)).alloc (.cells #[] 3) := ⟨_, rfl⟩
  have hA : Below w.heap.size w W0 := by rw [hW0]; exact (((Below.refl _ _).alloc (Nat.le_refl _) _).alloc (by simp) _).alloc (by simp; omega) _
  have hlit := lit0i ((w.alloc (.cells #[.int .i64 ops, .int .i64 room, v] 25)).alloc (.cells #[.int .i64 0, .int .i64 0, .slice none 0 0] 25))
  simp only [World.size_alloc] at hlit
  have hx1 : W0.heap[w.heap.size]? = some (.cells #[.int .i64 ops, .int .i64 room, v] 25 (0, 0)) := by
    rw [hW0]
    exact (Below.heap_alloc _ _ _ (by simp; omega)).trans ((Below.heap_alloc _ _ _ (by simp)).trans (heap_alloc_new w _))
  have hx2 : W0.heap[w.heap.size + 1]? = some (.cells #[.int .i64 0, .int .i64 0, .slice none 0 0] 25 (0, 0)) := by
    rw [hW0]
    have := heap_alloc_new (w.alloc (.cells #[.int .i64 ops, .int .i64 room, v] 25)) (.cells #[.int .i64 0, .int .i64 0, .slice none 0 0] 25)
    simp only [World.size_alloc] at this
    exact (Below.heap_alloc _ _ _ (by simp)).trans this
  rw [← hW0] at hlit
  have HA := Lib.hid hA
  have HL := Lib.hid hlit
  have HX1 := Lib.hid hx1
  have HX2 := Lib.hid hx2
  have HZ := Lib.hid (hz.below hA)
  have hsz : W0.heap.size = w.heap.size + 3 := by rw [hW0]; simp
  obtain ⟨A, c, rfl, _⟩ := hz
  clear hA hlit hx1 hx2
  go_enter Try.func11, Try.ntmps11
  go_wp2_with (at_builtin; rw [← hW0]; refine wpList_append_ints rfl _ _ rfl (w.heap.size + 1 + 1) _ _ rfl rfl S zs HL.out HZ.out hl (by omega) ?_; intro v' w4 hown hgrow; obtain ⟨A4, c4, rfl⟩ := own_form hown; have h1 := grown_heap (g := w.heap.size + 1 + 1) hgrow (b := w.heap.size) (by omega) HX1.out; have h2 := grown_heap (g := w.heap.size + 1 + 1) hgrow (b := w.heap.size + 1) (by omega) HX2.out; have y0 := cell_of_row w4 w.heap.size 0 _ _ _ h1; have y1 := cell_of_row w4 w.heap.size 1 _ _ _ h1; have y2 := cell_of_row w4 w.heap.size 2 _ _ _ h1; have yf : ∀ i, w4.frozen? ⟨w.heap.size, i, none⟩ = false := fun i => frozen_of_row w4 _ i _ _ h1; have HG := Lib.hid hgrow; have HO := Lib.hid hown; have H1 := Lib.hid h1; have H2 := Lib.hid h2; have x0 := cell_of_row w4 (w.heap.size + 1) 0 _ _ _ h2; have x1 := cell_of_row w4 (w.heap.size + 1) 1 _ _ _ h2; have x2 := cell_of_row w4 (w.heap.size + 1) 2 _ _ _ h2; have xf : ∀ i, w4.frozen? ⟨w.heap.size + 1, i, none⟩ = false := fun i => frozen_of_row w4 _ i _ _ h2; clear h1 h2 hown hgrow)
  have hk4 : KeepV w4 (fun i => w.heap.size + 2 ≤ i) (.slice A4 zs.length c4) zs := KeepV.of_own HO.out (by omega) (fun _ hi => hi)
  have hb4 : Below w.heap.size w w4 := HA.out.grown HG.out HA.out.size (fun j e => by obtain rfl := Option.some.inj e; simp only; omega)
  have ho : Only (fun i => i = w.heap.size ∨ i = w.heap.size + 1) w4 ((((w4.setCell ⟨w.heap.size, 2, none⟩ (.slice A4 zs.length c4)).setCell ⟨w.heap.size + 1, 0, none⟩ (.int .i64 ops)).setCell ⟨w.heap.size + 1, 1, none⟩ (.int .i64 room)).setCell ⟨w.heap.size + 1, 2, none⟩ (.slice A4 zs.length c4)) :=
    ((((Only.refl _ w4).setCell (p := ⟨w.heap.size, 2, none⟩) (.inl rfl) _).setCell (p := ⟨w.heap.size + 1, 0, none⟩) (.inr rfl) _).setCell (p := ⟨w.heap.size + 1, 1, none⟩) (.inr rfl) _).setCell (p := ⟨w.heap.size + 1, 2, none⟩) (.inr rfl) _
  refine bodyPost_ret (v := .agg #[.int .i64 ops, .int .i64 room, .slice A4 zs.length c4]) (by simp [results, Try.results11, go_sem, x0, x1, x2]) rfl ?_
  refine ⟨_, rfl, ?_, hb4.trans (ho.below hb4.size fun i hi => by omega)⟩
  refine (hk4.kept fun g cs hg hc => ho.block g (Array.getElem?_eq_some_iff.1 hc).1 fun hi => by omega).mono fun i hi _ => by omega
set_option maxRecDepth 100000 in
theorem vsame_any (S S' : Nat → Prop) (v v' : Value) (bs : List UInt8) (w : World) (h : Byt w S v bs) (h' : Byt w S' v' bs) :
    Calls Try.prog 14 #[v, v'] w fun r w' => r = .returned (.bool true) ∧ w = w' := by
  have c1 := h.convert
  have c2 := h'.convert
  obtain ⟨A, c, rfl, _⟩ := h
  obtain ⟨A', c', rfl, _⟩ := h'
  go_enter Try.func14, Try.ntmps14
  go_wp2
  go_ret
  exact ⟨rfl, rfl⟩
set_option maxRecDepth 100000 in
set_option maxHeartbeats 4000000 in
theorem fsame_any (S S' : Nat → Prop) (v v' : Value) (fs : List Fl) (w : World) (h : FilesV w S v fs) (h' : FilesV w S' v' fs) :
    Calls Try.prog 16 #[v, v'] w fun r w' => r = .returned (.bool true) ∧ Below w.heap.size w w' := by
  obtain ⟨A, c, rfl⟩ := h.form
  obtain ⟨A', c', rfl⟩ := h'.form
  obtain ⟨n, hn⟩ : ∃ n, fs.length = n := ⟨_, rfl⟩
  have hmax : n * 48 ≤ 140737488355328 := by obtain ⟨_, _, _, _, _, _, h3, _⟩ := h; rw [← hn]; exact h3
  rw [hn] at h h' ⊢
  have HN := Lib.hid hn
  have H := Lib.hid h
  have H' := Lib.hid h'
  clear hn h h'
  go_enter Try.func16, Try.ntmps16
  go_wp2
  go_loopw [13] (fun t wr => ∃ k : Nat, k ≤ n ∧ t = .int .i64 k ∧ Below w.heap.size w wr) (fun t _ => n - (intOf t).toNat)
  case atStart => exact ⟨0, Nat.zero_le _, rfl, Below.refl _ _⟩
  case round =>
    obtain ⟨k, hk, rfl, hbel⟩ := hrel
    have HB := Lib.hid hbel
    clear hbel
    by_cases hkn : k < n
    · obtain ⟨f, hf⟩ : ∃ f, fs[k]? = some f := ⟨_, List.getElem?_eq_getElem (by rw [HN.out]; exact hkn)⟩
      obtain ⟨b, o, cs, rfl, _, _, ⟨vd, rfl, hvd, _⟩, hc⟩ := Rows.at_ flFine (H.out.below flFine HB.out) hf
      obtain ⟨b', o', cs', rfl, _, _, ⟨vd', rfl, hvd', _⟩, hc'⟩ := Rows.at_ flFine (H'.out.below flFine HB.out) hf
      obtain ⟨Ad, cd, rfl⟩ := slice_form hvd
      obtain ⟨Ad', cd', rfl⟩ := slice_form hvd'
      have c0 : wr.cell? ⟨b, o + k * 3, none⟩ = _ := hc 0 _ rfl
      have c1 : wr.cell? ⟨b, o + k * 3 + 1, none⟩ = _ := hc 1 _ rfl
      have c2 : wr.cell? ⟨b, o + k * 3 + 2, none⟩ = _ := hc 2 _ rfl
      have d0 : wr.cell? ⟨b', o' + k * 3, none⟩ = _ := hc' 0 _ rfl
      have d1 : wr.cell? ⟨b', o' + k * 3 + 1, none⟩ = _ := hc' 1 _ rfl
      have d2 : wr.cell? ⟨b', o' + k * 3 + 2, none⟩ = _ := hc' 2 _ rfl
      have C0 : ∀ q : Ext wr, q.w.cell? ⟨b, o + k * 3, none⟩ = _ := fun q => q.h.cell c0
      have C1 : ∀ q : Ext wr, q.w.cell? ⟨b, o + k * 3 + 1, none⟩ = _ := fun q => q.h.cell c1
      have C2 : ∀ q : Ext wr, q.w.cell? ⟨b, o + k * 3 + 2, none⟩ = _ := fun q => q.h.cell c2
      have D0 : ∀ q : Ext wr, q.w.cell? ⟨b', o' + k * 3, none⟩ = _ := fun q => q.h.cell d0
      have D1 : ∀ q : Ext wr, q.w.cell? ⟨b', o' + k * 3 + 1, none⟩ = _ := fun q => q.h.cell d1
      have D2 : ∀ q : Ext wr, q.w.cell? ⟨b', o' + k * 3 + 2, none⟩ = _ := fun q => q.h.cell d2
      have E1 : ∀ q : Ext wr, (convert 35 9 (.slice Ad f.data.length cd)).run Try.prog q.w = .ok (.string ⟨f.data.toArray⟩) q.w := fun q => (fr.byt q.h hvd).convert
      have E2 : ∀ q : Ext wr, (convert 35 9 (.slice Ad' f.data.length cd')).run Try.prog q.w = .ok (.string ⟨f.data.toArray⟩) q.w := fun q => (fr.byt q.h hvd').convert
      clear hf hc hc' hvd hvd' c0 c1 c2 d0 d1 d2
      go_wp2
      (refine wp_region_quiet_ext (by kernel_rfl) (by kernel_rfl) ?_; (repeat (go_big_quiet_step (fail))); refine wpQuiet_nil ?_; intro wq hw'; obtain ⟨⟨_, hq⟩, hw''⟩ := hw'; subst hw'')
      go_wp2
      exact ⟨⟨k + 1, by omega, by go_num, HB.out.trans (Below.mono hq HB.out.size)⟩, by simp [intOf]; omega⟩
    · obtain rfl : k = n := by omega
      go_wp2
      go_ret
      exact ⟨rfl, HB.out⟩
end Go.Proofs.Ytcmjoaepihbodaa
end
section
namespace Go.Proofs.Ytcmjoaepihbodaa
open Go.RowKit Go.BigFrame Go.Sort Go.Shelf Go.Lib Go.Maps
attribute [local go_sem ↓] Go.wp_at_zero Go.wp_at_succ
section
variable {W w' w2 : World} {b i j k : Nat} {x y z : Value}
theorem fr.three (h : fr W w') (c0 : W.cell? ⟨b, i, none⟩ = some x) (c1 : W.cell? ⟨b, j, none⟩ = some y) (c2 : W.cell? ⟨b, k, none⟩ = some z) :
    w'.cell? ⟨b, i, none⟩ = some x ∧ w'.cell? ⟨b, j, none⟩ = some y ∧ w'.cell? ⟨b, k, none⟩ = some z := ⟨h.cell c0, h.cell c1, h.cell c2⟩
theorem fr.threeG {g : Option Nat} (h : fr W w') (c0 : W.cell? ⟨b, i, none⟩ = some x) (c1 : W.cell? ⟨b, j, none⟩ = some y) (c2 : W.cell? ⟨b, k, none⟩ = some z) (hg : w'.grownBy w2 g) (hne : ¬ g = some b) :
    w2.cell? ⟨b, i, none⟩ = some x ∧ w2.cell? ⟨b, j, none⟩ = some y ∧ w2.cell? ⟨b, k, none⟩ = some z := by
  have l1 := World.block_lt_of_cell? W _ c0
  have hs := Below.size h
  have b1 := hg.block b (by simp at l1; omega) (fun e => hne e.symm)
  exact ⟨(World.cell?_of_block (w' := w2) (w := w') (a := ⟨b, i, none⟩) b1).trans (h.cell c0), (World.cell?_of_block (w' := w2) (w := w') (a := ⟨b, j, none⟩) b1).trans (h.cell c1), (World.cell?_of_block (w' := w2) (w := w') (a := ⟨b, k, none⟩) b1).trans (h.cell c2)⟩
end
set_option maxRecDepth 100000 in
set_option maxHeartbeats 4000000 in
theorem fcopy_any (S : Nat → Prop) (v : Value) (fs : List Fl) (w : World) (h : FilesV w S v fs) :
    Calls Try.prog 10 #[v] w fun r w' => ∃ v', r = .returned v' ∧ OwnFiles w' w.heap.size v' fs ∧ Below w.heap.size w w' := by
  obtain ⟨i0, hi, hz0, hz1, hz2⟩ := info_parts infoF
  have hby := Lib.hid hz2
  have hz1' := Lib.hid hz1
  clear hz2 hz1
  obtain ⟨A, c, rfl⟩ := h.form
  obtain ⟨n, hn⟩ : ∃ n, fs.length = n := ⟨_, rfl⟩
  have hmany : n * 48 ≤ 140737488355328 := by obtain ⟨_, _, _, _, _, _, h3, _⟩ := h; rw [← hn]; exact h3
  rw [hn] at h ⊢
  have HLN := Lib.hid hn
  have H := Lib.hid h
  clear h hn
  go_enter Try.func10, Try.ntmps10
  go_wp2
  go_loopw [3, 7] (fun v3 t wr => ∃ i : Nat, i ≤ n ∧ t = .int .i64 i ∧ OwnFiles wr w.heap.size v3 (fs.take i) ∧ Below w.heap.size w wr) (fun _ t _ => n - (intOf t).toNat)
  case atStart => exact ⟨0, Nat.zero_le _, rfl, OwnRows.nil _ _ _, Below.refl _ _⟩
  case round =>
    obtain ⟨i, hi', rfl, hown, hbel⟩ := hrel
    obtain ⟨css, hown, hys⟩ := hown
    have HO := Lib.hid hown
    have HYS := Lib.hid hys
    have HB := Lib.hid hbel
    obtain ⟨m, hm⟩ : ∃ m, (fs.take i).length = m := ⟨_, rfl⟩
    have hmi : m = i := by rw [← hm, List.length_take, HLN.out]; omega
    subst hmi
    rw [hm] at HO
    have HMM := Lib.hid hm
    clear hown hys hbel hm
    by_cases hin : m < n
    · obtain ⟨f, hf⟩ : ∃ f, fs[m]? = some f := ⟨_, List.getElem?_eq_getElem (by rw [HLN.out]; exact hin)⟩
      obtain ⟨b, o, cs, rfl, hblt, _, ⟨vd, rfl, hvd, hnl⟩, hc⟩ := Rows.at_ flFine H.out hf
      obtain ⟨Ad, cd, rfl⟩ := slice_form hvd
      have HVD := Lib.hid (hvd.below HB.out)
      have x0 : w.cell? ⟨b, o + m * 3, none⟩ = _ := hc 0 _ rfl
      have x1 : w.cell? ⟨b, o + m * 3 + 1, none⟩ = _ := hc 1 _ rfl
      have x2 : w.cell? ⟨b, o + m * 3 + 2, none⟩ = _ := hc 2 _ rfl
      have c0 := fr.cell HB.out x0
      have c1 := fr.cell HB.out x1
      have c2 := fr.cell HB.out x2
      have HF0 := Lib.hid hf
      have HNE : Hid (¬ u3.ownBlock = some b) := Lib.hid fun e => by have := (HO.out.lt b e).1; omega
      have hm2 : m + 1 ≤ maxLen := by unfold maxLen; omega
      have hm3 : (m + 1) * 48 ≤ 140737488355328 := by omega
      have hbz := HB.out.size
      clear hf hvd hc x0 x1 x2
      go_wp2
      have hf0 : fr wr wr.drew := fr.refl.drew
      have hfa : fr wr (wr.drew.alloc (.cells #[] 5)) := hf0.alloc _
      go_region_held3 (fun w' => w'.cell? ⟨b, o + m * 3, none⟩ = some (.string ⟨f.name.toArray⟩) ∧ w'.cell? ⟨b, o + m * 3 + 1, none⟩ = some (.slice Ad f.data.length cd) ∧ w'.cell? ⟨b, o + m * 3 + 2, none⟩ = some (.int .i64 f.synced))
        (first
          | with_reducible exact fr.three hf0 c0 c1 c2
          | with_reducible exact fr.three hfa c0 c1 c2
          | with_reducible exact hs3
          | with_reducible exact fr.three hf1 c0 c1 c2
          | with_reducible exact fr.three (fr.alloc hf1 _) c0 c1 c2)
        (first
          | (go_split_ands; refine step_append_byt0L (by rfl) _ _ (by rfl) _ (.slice Ad f.data.length cd) (by rfl) (by rfl) S f.data (fr.byt hfa HVD.out) ?_; intro v5 w2 hv5 hb2; obtain ⟨Ak', ck', rfl⟩ := slice_form hv5.byt; have hf1 := fr.step hfa hb2)
          | (go_split_ands; refine step_append_own_at (by rfl) _ _ 22 (by rfl) w.heap.size 37 i0 _ 3 48 Try.underlying22 hi hz0 hz1'.out hby.out rfl (by decide) _ _ _ (by rfl) ((own_below HO.out hf1).alloc _) ⟨w2.heap.size, 0, none⟩ 1 1 [.string ⟨f.name.toArray⟩, .slice Ak' f.data.length ck', .int .i64 f.synced] (by rfl) rfl (cells_new _ _ _) (by simp [Value.oneCell']) hm2 hm3 (by have := Below.size hf1; simp; omega) ?_; intro v' w3 hown' hgrow hat; have hs3 := fr.threeG (fr.alloc hf1 _) c0 c1 c2 hgrow HNE.out))
      have hx : flR w2 (fun i => wr.heap.size ≤ i ∧ Loose w2 i) f [.string ⟨f.name.toArray⟩, .slice Ak' f.data.length ck', .int .i64 f.synced] := ⟨_, rfl, Byt.mono (S := fun i => (wr.drew.alloc (.cells #[] 5)).heap.size ≤ i ∧ Loose w2 i) hv5 fun i hi => ⟨Nat.le_trans (Below.size hfa) hi.1, hi.2⟩, hnl⟩
      have hpush := OwnRows.push flFine (by rw [HMM.out]; exact HO.out) HYS.out hf1 hx HB.out.size hgrow hat (by rw [HMM.out]; exact hown')
      rw [← take_snoc HF0.out] at hpush
      have HPUSH := Lib.hid hpush
      have hbw : Below w.heap.size w w3 := ((HB.out.trans (Below.mono hf1 HB.out.size)).alloc (by have := Below.size hf1; omega) _).grown hgrow (by have := Below.size hf1; simp; omega) (fun j e => (HO.out.lt j e).1)
      have HBW := Lib.hid hbw
      clear hpush hbw hown' hgrow hat hs3 hx hv5 hf1 hb2
      go_wp2
      exact ⟨⟨m + 1, by omega, by go_num, HPUSH.out, HBW.out⟩, by simp [intOf]; omega⟩
    · obtain rfl : m = n := by omega
      go_wp2
      refine bodyPost_ret (v := u3) (by simp [results, Try.results10, go_sem]) rfl ?_
      have e1 : fs.take m = fs := List.take_of_length_le (by rw [HLN.out]; exact Nat.le_refl _)
      have hys := HYS.out
      rw [e1] at hys
      exact ⟨u3, rfl, ⟨css, by rw [HLN.out]; exact HO.out, hys⟩, HB.out⟩
end Go.Proofs.Ytcmjoaepihbodaa
end
section
namespace Go.Proofs.Ytcmjoaepihbodaa
open Go.RowKit
theorem rev_done (fs : List Fl) (keep : List Int) (b : Int) (i j : Nat) (h : i < j) : (revSt fs keep b j).1[i]? = (revSt fs keep b (i + 1)).1[i]? := by
  induction j with
  | zero => omega
  | succ j ih =>
    by_cases hij : i = j
    · rw [hij]
    · rw [← ih (by omega)]
      cases hf : fs[j]? with
      | none =>
        have h1 := rev_later fs keep b j j (Nat.le_refl _)
        rw [hf] at h1
        have e : revSt fs keep b (j + 1) = revSt fs keep b j := by
          show (match (revSt fs keep b j).1[j]? with | none => _ | some f => _) = _
          rw [h1]
        rw [e]
      | some f =>
        rw [rev_step hf]
        split
        · rfl
        · exact List.getElem?_set_ne (by omega)
/-- what a file is behind a crash. -/
def survives (a b : Fl) : Prop := a.name = b.name ∧ b.synced = b.data.length ∧ a.synced ≤ b.data.length ∧ b.data.length ≤ a.data.length ∧ b.data = a.data.take b.data.length
theorem rev_at {fs : List Fl} {keep : List Int} {bt : Int} (hok : okFs fs) {i : Nat} {a : Fl} (h : fs[i]? = some a) : ∃ b, (revSt fs keep bt fs.length).1[i]? = some b ∧ survives a b := by
  rw [rev_done fs keep bt i fs.length (List.getElem?_eq_some_iff.1 h).1, rev_step h]
  have ho := hok a (List.mem_of_getElem? h)
  have hl := rev_later fs keep bt i i (Nat.le_refl _)
  rw [h] at hl
  by_cases h0 : a.loose = 0
  · rw [if_pos h0, hl]
    unfold Fl.loose at h0
    exact ⟨a, rfl, rfl, by omega, by omega, by omega, by rw [List.take_length]⟩
  · rw [if_neg h0]
    have hk := kept_range ho.2 (revSt fs keep bt i).2.1
    generalize keptN a (revSt fs keep bt i).2.1 = n at hk ⊢
    have e1 : (((revSt fs keep bt i).1.set i (cutP a n)))[i]? = some (cutP a n) := by
      rw [List.getElem?_set_self (List.getElem?_eq_some_iff.1 hl).1]
    refine ⟨_, e1, ?_⟩
    unfold Fl.loose at hk
    have h2 : (cutP a n).data.length = (a.synced + n).toNat := by
      show (a.data.take (a.synced + n).toNat).length = _
      rw [List.length_take]
      omega
    refine ⟨rfl, ?_, ?_, ?_, ?_⟩
    · rw [h2]; show a.synced + n = _; omega
    · rw [h2]; omega
    · rw [h2]; omega
    · rw [h2]; rfl
theorem rev_still {fs : List Fl} {keep : List Int} {bt : Int} (h : ∀ f ∈ fs, f.loose = 0) (i : Nat) : revSt fs keep bt i = (fs, keep, bt) := by
  induction i with
  | zero => rfl
  | succ i ih =>
    cases hf : fs[i]? with
    | none =>
      show (match (revSt fs keep bt i).1[i]? with | none => _ | some f => _) = _
      rw [ih, hf]
    | some f => rw [rev_step hf, if_pos (h f (List.mem_of_getElem? hf)), ih]
theorem rev_ok {fs : List Fl} {keep : List Int} {bt : Int} (hok : okFs fs) : ∀ f ∈ (revSt fs keep bt fs.length).1, f.loose = 0 ∧ 0 ≤ f.synced ∧ f.synced ≤ f.data.length := by
  intro f hf
  obtain ⟨i, hi⟩ := List.getElem?_of_mem hf
  have hl : i < fs.length := by rw [← rev_len fs keep bt fs.length]; exact (List.getElem?_eq_some_iff.1 hi).1
  obtain ⟨b, hb, hs⟩ := rev_at (keep := keep) (bt := bt) hok (List.getElem?_eq_getElem hl)
  rw [hi] at hb
  obtain rfl := Option.some.inj hb
  have := hs.2.1
  unfold Fl.loose
  omega
theorem ofGo_mem {acc l r : List Fl} (h : ofGo acc l = some r) {f : Fl} (hf : f ∈ r) : f ∈ acc ∨ f ∈ l := by
  induction l generalizing acc with
  | nil => obtain rfl := Option.some.inj h; exact .inl hf
  | cons g l ih =>
    unfold ofGo at h
    split at h
    · cases h
    · rcases ih h with h1 | h1
      · rcases mem_insP h1 with rfl | h2
        · exact .inr List.mem_cons_self
        · exact .inl h2
      · exact .inr (List.mem_cons_of_mem _ h1)
theorem len_ins_new {f : Fl} {fs : List Fl} (h : findP f.name fs = none) : (insP f fs).length = fs.length + 1 := by
  induction fs with
  | nil => rfl
  | cons g l ih =>
    unfold findP at h
    split at h
    · cases h
    · rename_i h1
      unfold insP
      split
      · rfl
      · rw [if_neg fun e => h1 e.symm]
        simp [ih h]
theorem ofGo_len {acc l r : List Fl} (h : ofGo acc l = some r) : r.length = acc.length + l.length := by
  induction l generalizing acc with
  | nil => obtain rfl := Option.some.inj h; rfl
  | cons g l ih =>
    unfold ofGo at h
    split at h
    · cases h
    · rename_i h1
      rw [ih h, len_ins_new (by simpa using h1), List.length_cons]
      omega
/-- a disk that was made of files. -/
theorem of_ok {fs : List Fl} (h : ofE fs = 0) : ∃ r, ofGo [] fs = some r ∧ okFs r ∧ r.length = fs.length ∧ (∀ f ∈ r, nameB f.name = true) := by
  unfold ofE at h
  split at h
  · cases h
  · rename_i hn
    split at h
    · cases h
    · rename_i r hr
      split at h
      · cases h
      · rename_i hg
        refine ⟨r, hr, fun f hf => ?_, by rw [ofGo_len hr]; simp, fun f hf => ?_⟩
        · rcases ofGo_mem hr hf with h1 | h1
          · cases h1
          · have h2 := List.any_eq_false.1 (by simpa using hg : fs.any rgB = false) f h1
            unfold rgB at h2
            simp only [Bool.or_eq_true, decide_eq_true_eq, not_or] at h2
            omega
        · rcases ofGo_mem hr hf with h1 | h1
          · cases h1
          · have h2 := List.any_eq_false.1 (by simpa using hn : fs.any nmB = false) f h1
            unfold nmB at h2
            simpa using h2
theorem ofK_fs {fs r : List Fl} (h : ofGo [] fs = some r) (ops room : Int) (keep : List Int) : (ofK fs ops room keep).fs = r := by
  unfold ofK
  rw [h]
  rfl
/-- the end of VdiskSurvives: an Append that crashes. -/
theorem crash_append {k : Pk} (hd : k.down = false) (ho : k.ops = 0) (hr : k.room < 0) (h0 : k.done = 0) : appendE k [97] [] = 20 ∧ appendK k [97] [] = { k with down := true } := by
  have hc : crashes k = true := by unfold crashes; rw [ho, h0]; decide
  have hf : fullP k ([] : List UInt8).length = false := by unfold fullP; simp; omega
  have hre : readyE k [[97]] = 0 ∨ readyE k [[97]] = 22 := by
    unfold readyE
    rw [if_neg (by rw [hd]; simp), if_neg (by decide)]
    dsimp only
    split
    · exact .inr rfl
    · exact .inl rfl
  have e1 : appendE k [97] [] = 20 := by
    unfold appendE changeE
    rw [if_pos hre, if_neg (by rw [hf]; simp), if_pos hc]
  have e2 : appendK k [97] [] = { k with down := true } := by
    unfold appendK changeK
    rw [if_pos hre, if_neg (by rw [hf]; simp), if_pos hc, if_pos hc]
  exact ⟨e1, e2⟩
end Go.Proofs.Ytcmjoaepihbodaa
end
