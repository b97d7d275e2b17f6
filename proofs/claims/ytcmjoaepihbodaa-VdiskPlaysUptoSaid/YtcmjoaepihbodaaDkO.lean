/-
vdisk's Of.
-/
import Derived.Test.YtcmjoaepihbodaaDkK
import Derived.Test.YtcmjoaepihbodaaDkCp
namespace Go.Proofs.Ytcmjoaepihbodaa
open Go.RowKit Go.BigFrame Go.Sort Go.Shelf Go.Lib Go.Maps
attribute [local go_sem ↓] Go.wp_at_zero Go.wp_at_succ

def ofGo (acc : List Fl) : List Fl → Option (List Fl)
  | [] => some acc
  | f :: l => if (findP f.name acc).isSome = true then none else ofGo (insP f acc) l
def sumB (l : List Fl) : Int := l.foldl (fun b f => wrap64 (b + f.data.length)) 0
def ofE (fs : List Fl) : Int := if fs.any nmB = true then 23 else match ofGo [] fs with
  | none => 31
  | some _ => if fs.any rgB = true then 2 else 0
def ofK (fs : List Fl) (ops room : Int) (keep : List Int) : Pk := ⟨(ofGo [] fs).getD [], ops, room, keep, 0, sumB fs, false⟩
theorem drop_cons {α : Type} {l : List α} {i : Nat} {a : α} (h : l[i]? = some a) : l.drop i = a :: l.drop (i + 1) := by
  obtain ⟨h1, h2⟩ := List.getElem?_eq_some_iff.1 h
  rw [List.drop_eq_getElem_cons h1, h2]
theorem sumB_snoc {l : List Fl} {i : Nat} {f : Fl} (h : l[i]? = some f) : sumB (l.take (i + 1)) = wrap64 (sumB (l.take i) + f.data.length) := by
  unfold sumB
  rw [take_snoc h, List.foldl_append]
  rfl
theorem put_file {w : World} {mb n : Nat} {D : DataW Unit} (h : w.ownsMap Try.prog 9 ptrR mb n D) (hn : n < maxLen) (x : Nm) (hx : x.length ≤ 140737488355328) (g : Nat) :
    ∃ w', (Instr.mapUpdate 70 (.map (some mb)) (.string ⟨x.toArray⟩) (.pointer (some ⟨g, 0, none⟩))).run Try.prog w = .ok () w' ∧ w'.ownsMap Try.prog 9 ptrR mb (n + 1) (D.put (.string x) (.lit (.int .i64 g))) ∧ w.grownBy w' (some mb) :=
  h.update law_str Try.underlying70 hn (key_str x hx) (ps := []) rfl
theorem bcloneO_any (S : Nat → Prop) (v : Value) (bs : List UInt8) (w : World) (h : Byt w S v bs) :
    Calls Try.prog 30 #[v] w fun r w' => ∃ v', r = .returned v' ∧ OwnB w' (fun i => w.heap.size ≤ i) v' bs ∧ Below w.heap.size w w' := by
  have hl := h.len
  have h' := Lib.hid h
  obtain ⟨A, c, rfl, _⟩ := h
  have q22 : ∀ (w : World) (a : Option Addr) (n c n' c' : Nat), (binOp .eql 35 (.slice a n c) (.slice none n' c')).run Try.prog w = .ok (.bool a.isNone) w := fun w a n c n' c' => Lib.run_eql_slice_nil w _ _ a n c n' c' Try.underlying35
  rcases A with _ | ad
  · have h0 : bs = [] := by
      obtain ⟨A, c', e, _, _, _, hr⟩ := h'.out
      rcases Nat.eq_zero_or_pos bs.length with h0 | h0
      · exact List.eq_nil_of_length_eq_zero h0
      · injection e with e1 _ _
        subst e1
        obtain ⟨b, o, h, _⟩ := hr.2 h0
        cases h
    subst h0
    go_enter Try.func30, Try.ntmps30
    go_wp2
    go_ret
    exact ⟨_, rfl, OwnB.nil _ _, Below.refl _ _⟩
  · have hb1 := (Below.refl w.heap.size w).alloc (Nat.le_refl _) (.cells #[] 5)
    have HB := Lib.hid hb1
    clear hb1
    go_enter Try.func30, Try.ntmps30
    go_wp2_with (at_builtin; refine wpList_append_byt rfl _ _ rfl w.heap.size _ _ rfl rfl S bs (lit0 w) (h'.out.below HB.out) HB.out.size ?_; intro v' w1 hown hgrow)
    go_ret
    exact ⟨_, rfl, OwnB.of_own hown hl (fun _ hi => hi), HB.out.grown hgrow HB.out.size (fun j e => by cases e; exact Nat.le_refl _)⟩
section
variable {W w' w2 : World} {p X i : Nat} {a b c d : Value}
theorem fr.blk (h : fr W w') {j : Nat} (hj : j < W.heap.size) : w'.heap[j]? = W.heap[j]? := Below.block h j hj
theorem fr.four (h : fr W w') (c0 : W.cell? ⟨p, i, none⟩ = some a) (x0 : W.cell? ⟨X, 0, none⟩ = some b) (x1 : W.cell? ⟨X, 1, none⟩ = some c) (x2 : W.cell? ⟨X, 2, none⟩ = some d) :
    w'.cell? ⟨p, i, none⟩ = some a ∧ w'.cell? ⟨X, 0, none⟩ = some b ∧ w'.cell? ⟨X, 1, none⟩ = some c ∧ w'.cell? ⟨X, 2, none⟩ = some d := ⟨h.cell c0, h.cell x0, h.cell x1, h.cell x2⟩
theorem fr.fourG {g : Nat} (h : fr W w') (c0 : W.cell? ⟨p, i, none⟩ = some a) (x0 : W.cell? ⟨X, 0, none⟩ = some b) (x1 : W.cell? ⟨X, 1, none⟩ = some c) (x2 : W.cell? ⟨X, 2, none⟩ = some d) (hg : w'.grownBy w2 (some g)) (hp : p ≠ g) (hX : X ≠ g) :
    w2.cell? ⟨p, i, none⟩ = some a ∧ w2.cell? ⟨X, 0, none⟩ = some b ∧ w2.cell? ⟨X, 1, none⟩ = some c ∧ w2.cell? ⟨X, 2, none⟩ = some d := by
  have l1 := World.block_lt_of_cell? W _ c0
  have l2 := World.block_lt_of_cell? W _ x0
  have hs := Below.size h
  have b1 := hg.block p (by simp at l1; omega) (fun e => hp (Option.some.inj e))
  have b2 := hg.block X (by simp at l2; omega) (fun e => hX (Option.some.inj e))
  exact ⟨(World.cell?_of_block (w' := w2) (w := w') (a := ⟨p, i, none⟩) b1).trans (h.cell c0), (World.cell?_of_block (w' := w2) (w := w') (a := ⟨X, 0, none⟩) b2).trans (h.cell x0),
    (World.cell?_of_block (w' := w2) (w := w') (a := ⟨X, 1, none⟩) b2).trans (h.cell x1), (World.cell?_of_block (w' := w2) (w := w') (a := ⟨X, 2, none⟩) b2).trans (h.cell x2)⟩
end

set_option maxRecDepth 100000 in
set_option maxHeartbeats 4000000 in
theorem of_any (S S' : Nat → Prop) (v : Value) (fs : List Fl) (ops room : Int) (kv : Value) (zs : List Int) (w : World) (hv : FilesV w S v fs) (hz : IntsIn w S' kv zs) (hl : zs.length * 8 ≤ 140737488355328) :
    Calls Try.prog 9 #[v, .agg #[.int .i64 ops, .int .i64 room, kv]] w fun r w' => ∃ q, r = .returned (.tuple #[q, .int .i64 (ofE fs)]) ∧ (ofE fs ≠ 0 → q = .pointer none) ∧ (ofE fs = 0 → ∃ p, q = .pointer (some ⟨p, 0, none⟩) ∧ DiskP w' (fun i => w.heap.size ≤ i) p (ofK fs ops room zs)) ∧ Below w.heap.size w w' := by
  obtain ⟨A, c, rfl⟩ := hv.form
  obtain ⟨n, hn⟩ : ∃ n, fs.length = n := ⟨_, rfl⟩
  have hmax : n * 48 ≤ 140737488355328 := by obtain ⟨_, _, _, _, _, _, h3, _⟩ := hv; rw [← hn]; exact h3
  rw [hn] at hv ⊢
  have HN := Lib.hid hn
  obtain ⟨Ak, ck, rfl, _⟩ := id hz
  have hA : Below w.heap.size w (w.alloc (.cells #[.int .i64 ops, .int .i64 room, .slice Ak zs.length ck] 25)) := (Below.refl _ _).alloc (Nat.le_refl _) _
  have HNEW := Lib.hid (new_any S' ops room _ zs _ (hz.below hA) hl)
  have HA := Lib.hid hA
  have HV := Lib.hid hv
  clear hn hv hz hA
  obtain ⟨q0, hq0⟩ : ∃ e, ofE fs = e := ⟨_, rfl⟩
  rw [hq0]
  have HQ := Lib.hid hq0
  clear hq0
  go_enter Try.func9, Try.ntmps9
  go_wp2_with (go_at_call 21; refine HNEW.out.mono ?_; rintro r w1 ⟨p, rfl, h1, hb1⟩; have H1 := Lib.hid (h1.mono (F' := fun i => w.heap.size ≤ i) fun i hi _ => Nat.le_trans HA.out.size hi); have HB1 := Lib.hid (HA.out.trans (hb1.mono HA.out.size)); clear h1 hb1)
  have HAN := Lib.hid (any1 S _ fs w1 (HV.out.below flFine HB1.out))
  cases hnm : fs.any nmB with
  | true =>
    rw [hnm] at HAN
    obtain rfl : 23 = q0 := by rw [← HQ.out]; unfold ofE; rw [if_pos hnm]
    clear hnm
    go_wp2_with (go_at_call 27; refine HAN.out.mono ?_; rintro r w2 ⟨rfl, hb2⟩)
    refine bodyPost_ret (v := .tuple #[.pointer none, .int .i64 23]) (by simp [results, Try.results9, go_sem]) rfl ?_
    exact ⟨_, rfl, fun _ => rfl, fun e => absurd e (by decide), HB1.out.trans (hb2.mono HB1.out.size)⟩
  | false =>
    rw [hnm] at HAN
    have HNM := Lib.hid hnm
    clear hnm
    go_upto_region 4 with (go_at_call 27; refine HAN.out.mono ?_; rintro r w2 ⟨rfl, hb2⟩; have H2 := Lib.hid (H1.out.below hb2); have HB2 := Lib.hid (HB1.out.trans (hb2.mono HB1.out.size)); clear hb2 H1 HAN HB1)
    go_wp2
    go_loopw [15] (fun t wr => ∃ (i : Nat) (acc : List Fl) (mb : Nat) (kv : Value) (d : Dk), i ≤ n ∧ t = .int .i64 i ∧ DiskV wr (fun i => w.heap.size ≤ i) p mb kv d ∧ d.pk = ⟨acc, ops, room, zs, 0, sumB (fs.take i), false⟩ ∧ ofGo [] fs = ofGo acc (fs.drop i) ∧ acc.length ≤ i ∧ Below w.heap.size w wr) (fun t _ => n - (intOf t).toNat)
    case atStart =>
      obtain ⟨mb, kv, d, h, e⟩ := H2.out
      exact ⟨0, [], mb, kv, d, Nat.zero_le _, rfl, h, e, rfl, Nat.le_refl _, HB2.out⟩
    case round =>
      obtain ⟨i, acc, mb, kv, d, hi, rfl, hd, hpk, hgo, hal, hbel⟩ := hrel
      have HD := Lib.hid hd
      have HPK := Lib.hid hpk
      have HGO := Lib.hid hgo
      have HB := Lib.hid hbel
      clear hd hpk hgo hbel H2 HB2
      by_cases hin : i < n
      · obtain ⟨f, hf⟩ : ∃ f, fs[i]? = some f := ⟨_, List.getElem?_eq_getElem (by rw [HN.out]; exact hin)⟩
        obtain ⟨b, o, cs, rfl, _, _, ⟨vd, rfl, hvd, hxl⟩, hc⟩ := Rows.at_ flFine (HV.out.below flFine HB.out) hf
        obtain ⟨A', c', rfl⟩ := slice_form hvd
        have c0 : wr.cell? ⟨b, o + i * 3, none⟩ = _ := hc 0 _ rfl
        have c1 : wr.cell? ⟨b, o + i * 3 + 1, none⟩ = _ := hc 1 _ rfl
        have c2 : wr.cell? ⟨b, o + i * 3 + 2, none⟩ = _ := hc 2 _ rfl
        have hnmf : nameB f.name = true := by
          have h1 := List.any_eq_false.1 HNM.out f (List.mem_of_getElem? hf)
          unfold nmB at h1
          simpa using h1
        have HNMF := Lib.hid hnmf
        have HF := Lib.hid hf
        have HVD := Lib.hid hvd
        clear hf hvd hc hnmf
        go_upto_region 7 with (fail)
        obtain ⟨W, hW⟩ : ∃ W, W = wr.alloc (.cells #[.string ⟨f.name.toArray⟩, .slice A' f.data.length c', .int .i64 f.synced] 37) := ⟨_, rfl⟩
        have hbox : W.heap[wr.heap.size]? = some (.cells #[.string ⟨f.name.toArray⟩, .slice A' f.data.length c', .int .i64 f.synced] 37 (0, 0)) := by rw [hW]; exact heap_alloc_new wr _
        have hbw : Below wr.heap.size wr W := by rw [hW]; exact (Below.refl _ _).alloc (Nat.le_refl _) _
        rw [← hW]
        have HDW := Lib.hid (HD.out.below hbw)
        have HBW := Lib.hid (HB.out.trans (hbw.mono HB.out.size))
        have HVW := Lib.hid (HVD.out.below hbw)
        have HBOX := Lib.hid hbox
        have y0 : W.cell? ⟨wr.heap.size, 0, none⟩ = some (.string ⟨f.name.toArray⟩) := cell_of_row W wr.heap.size 0 _ _ _ hbox
        obtain ⟨x0, _⟩ := HDW.out.cell
        have F0 : ∀ q : Ext W, q.w.cell? { block := p, off := 0 } = _ := fun q => q.h.cell x0
        have F1 : ∀ q : Ext W, q.w.cell? { block := wr.heap.size, off := 0 } = _ := fun q => q.h.cell y0
        have F2 : ∀ q : Ext W, (Instr.lookup 70 (.map (some mb)) (.string ⟨f.name.toArray⟩) false).run Try.prog q.w = .ok (ptrF (findF f.name d.ns)) q.w := fun q => (HDW.out.below q.h).look f.name hxl
        have hfp : findP f.name acc = (findF f.name d.ns).map Fd.fl := by rw [← findP_map]; show _ = findP f.name d.pk.fs; rw [HPK.out]
        have HFP := Lib.hid hfp
        clear hW hbox hbw c0 c1 c2 hfp
        cases hff : findF f.name d.ns with
        | some g =>
          rw [hff] at F2 HFP
          unfold ptrF at F2
          have hE : ofE fs = 31 := by
            unfold ofE
            rw [if_neg (by rw [HNM.out]; simp), HGO.out, drop_cons HF.out, ofGo, if_pos (by rw [HFP.out]; rfl)]
          obtain rfl : 31 = q0 := hE.symm.trans HQ.out
          clear hE hff
          (refine wp_region_quiet_ext (by kernel_rfl) (by kernel_rfl) ?_; (repeat (go_big_quiet_step (fail))); refine wpQuiet_nil ?_; intro wq hw'; obtain ⟨⟨_, hq⟩, hw''⟩ := hw'; subst hw'')
          go_wp2
          refine bodyPost_ret (v := .tuple #[.pointer none, .int .i64 31]) (by simp [results, Try.results9, go_sem]) rfl ?_
          exact ⟨_, rfl, fun _ => rfl, fun e => absurd e (by decide), HBW.out.trans (Below.mono hq HBW.out.size)⟩
        | none =>
          rw [hff] at F2 HFP
          unfold ptrF at F2
          have HFF := Lib.hid hff
          clear hff
          (refine wp_region_quiet_ext (by kernel_rfl) (by kernel_rfl) ?_; (repeat (go_big_quiet_step (fail))); refine wpQuiet_nil ?_; intro wq hw'; obtain ⟨⟨_, hq⟩, hw''⟩ := hw'; subst hw'')
          have hvq := HDW.out.below hq
          have HVQ := Lib.hid hvq
          obtain ⟨x0q, _⟩ := hvq.cell
          have hbq : wq.heap[wr.heap.size]? = some (.cells #[.string ⟨f.name.toArray⟩, .slice A' f.data.length c', .int .i64 f.synced] 37 (0, 0)) := (Below.block hq _ (Array.getElem?_eq_some_iff.1 HBOX.out).1).trans HBOX.out
          have HBQ := Lib.hid hbq
          have z0 : wq.cell? ⟨wr.heap.size, 0, none⟩ = some (.string ⟨f.name.toArray⟩) := cell_of_row wq wr.heap.size 0 _ _ _ hbq
          have z1 : wq.cell? ⟨wr.heap.size, 1, none⟩ = some (.slice A' f.data.length c') := cell_of_row wq wr.heap.size 1 _ _ _ hbq
          have z2 : wq.cell? ⟨wr.heap.size, 2, none⟩ = some (.int .i64 f.synced) := cell_of_row wq wr.heap.size 2 _ _ _ hbq
          obtain ⟨D, hm, hD, hT⟩ := hvq.tidy
          have HBB := Lib.hid (HBW.out.trans (Below.mono hq HBW.out.size))
          have HVX := Lib.hid (fr.byt hq HVW.out)
          have HML := Lib.hid hm.lt
          have HM := Lib.hid hm
          have HDT := Lib.hid (And.intro hD hT)
          have hpm : p ≠ mb := fun e => map_ne HVQ.out.head HM.out e
          have hxm : wr.heap.size ≠ mb := fun e => map_ne HBQ.out HM.out e
          have hdl : d.ns.length < maxLen := by have e1 := congrArg (fun k : Pk => k.fs.length) HPK.out; have e2 : d.pk.fs.length = d.ns.length := map_len d; simp only at e1; unfold maxLen; omega
          clear hvq hbq hm hD hT F0 F1 F2 x0 y0 hq
          go_upto_region 9 with (fail)
          have hf0 : fr wq wq.drew := fr.refl.drew
          go_region_held3 (fun w' => w'.cell? ⟨p, 0, none⟩ = some (.map (some mb)) ∧ w'.cell? ⟨wr.heap.size, 0, none⟩ = some (.string ⟨f.name.toArray⟩) ∧ w'.cell? ⟨wr.heap.size, 1, none⟩ = some (.slice A' f.data.length c') ∧ w'.cell? ⟨wr.heap.size, 2, none⟩ = some (.int .i64 f.synced))
            (first
              | with_reducible exact fr.four hf0 x0q z0 z1 z2
              | with_reducible exact hs3
              | with_reducible exact fr.four hf1 x0q z0 z1 z2
              | with_reducible exact fr.four (fr.alloc hf1 _) x0q z0 z1 z2)
            (first
              | (go_split_ands; go_at_call 30; with_reducible (refine (bcloneO_any _ (.slice A' f.data.length c') f.data _ (fr.byt hf0 HVX.out)).mono ?_); rintro r w2 ⟨v1, rfl, hk', hb2⟩; obtain ⟨Ak', ck', rfl⟩ := hk'.form; have hf1 := fr.step hf0 hb2; have hf2 := fr.alloc hf1 (.cells #[.slice Ak' f.data.length ck', .int .i64 f.synced] 75); have hbk := fr.blk hf2 HML.out; have hmm := ownsMap_block HM.out hbk; obtain ⟨w3, hrun3, hown3, hgrow3⟩ := put_file hmm hdl f.name hxl w2.heap.size; have hs3 := fr.fourG hf2 x0q z0 z1 z2 hgrow3 hpm hxm))
          have hzq := HBB.out.size
          have hz2 : w.heap.size ≤ w2.heap.size := Nat.le_trans hzq (Below.size hf1)
          have hva := HVQ.out.below hf2
          have hfv : FileV (w2.alloc (.cells #[.slice Ak' f.data.length ck', .int .i64 f.synced] 75)) (fun i => w.heap.size ≤ i) ⟨f.name, f.data, f.synced, w2.heap.size, .slice Ak' f.data.length ck'⟩ :=
            ⟨heap_alloc_new w2 _, (hk'.mono fun i hi => Nat.le_trans hzq hi).below ((Below.refl _ _).alloc (Nat.le_refl _) _), hz2⟩
          have hins := hva.ins (F' := fun i => w.heap.size ≤ i) (fun _ hi => hi) (f := ⟨f.name, f.data, f.synced, w2.heap.size, .slice Ak' f.data.length ck'⟩) HDT.out.1 HDT.out.2 hgrow3 hown3 hfv HNMF.out
            (fun g hg _ e => by have h1 := (Array.getElem?_eq_some_iff.1 (HVQ.out.files g hg).cells).1; have h2 := Below.size hf1; simp only at e; omega)
            (fun g hg _ j hj e => by have h1 := ((HVQ.out.files g hg).own.blk e).2.2; have h2 := (hk'.blk hj).1; simp only [World.drew] at h2; omega)
          obtain ⟨_, _, _, _, _, x5, _⟩ := hins.cell
          have xf := hins.frozen
          obtain ⟨_, _, z13, _⟩ := hs3
          have HINS := Lib.hid hins
          have HBC := Lib.hid ((HBB.out.trans (Below.mono hf2 hzq)).grown hgrow3 (by simp; omega) (fun j e => by obtain rfl := Option.some.inj e; exact HVQ.out.loM))
          clear hva hfv hins hk' hb2 hf1 hf2 hbk hmm hrun3 hown3 hgrow3 hf0 z0 z1 z2 x0q
          go_wp2
          go_region
          have hst := (HINS.out.store 5 (.int .i64 (wrap64 (d.bytes + f.data.length))) { d with ns := insF ⟨f.name, f.data, f.synced, w2.heap.size, .slice Ak' f.data.length ck'⟩ d.ns, bytes := wrap64 (d.bytes + f.data.length) } kv rfl HINS.out.keep rfl).below (Below.refl _ _).drew
          have hpk' : Dk.pk { d with ns := insF ⟨f.name, f.data, f.synced, w2.heap.size, .slice Ak' f.data.length ck'⟩ d.ns, bytes := wrap64 (d.bytes + f.data.length) } = ⟨insP f acc, ops, room, zs, 0, sumB (fs.take (i + 1)), false⟩ := by
            have o1 : d.ns.map Fd.fl = acc := congrArg Pk.fs HPK.out
            have o2 : d.ops = ops := congrArg Pk.ops HPK.out
            have o3 : d.room = room := congrArg Pk.room HPK.out
            have o4 : d.keep = zs := congrArg Pk.keep HPK.out
            have o5 : d.done = 0 := congrArg Pk.done HPK.out
            have o6 : d.bytes = sumB (fs.take i) := congrArg Pk.bytes HPK.out
            have o7 : d.down = false := congrArg Pk.down HPK.out
            unfold Dk.pk
            simp only
            rw [← insP_map, o1, o2, o3, o4, o5, o6, o7, sumB_snoc HF.out]
            rfl
          have HST := Lib.hid hst
          have HPK' := Lib.hid hpk'
          have HBE := Lib.hid (HBC.out.trans ((((Only.refl _ w3).setCell (p := ⟨p, 5, none⟩) (S := fun j => w.heap.size ≤ j) HINS.out.loP (.int .i64 (wrap64 (d.bytes + f.data.length)))).drew).below HBC.out.size fun j hj => hj))
          have hgo' : ofGo [] fs = ofGo (insP f acc) (fs.drop (i + 1)) := by rw [HGO.out, drop_cons HF.out, ofGo, if_neg (by rw [HFP.out]; simp)]
          have hlen' := len_insP f acc
          clear hst hpk' xf x5 z13
          go_wp2
          refine ⟨⟨i + 1, insP f acc, mb, kv, _, by omega, by go_num, HST.out, HPK'.out, hgo', by omega, HBE.out⟩, by simp [intOf]; omega⟩
      · obtain rfl : i = n := by omega
        have hd0 : fs.drop i = [] := List.drop_of_length_le (by rw [HN.out]; exact Nat.le_refl _)
        have hgo0 : ofGo [] fs = some acc := by rw [HGO.out, hd0]; rfl
        have hE : ofE fs = if fs.any rgB = true then 2 else 0 := by
          unfold ofE
          rw [if_neg (by rw [HNM.out]; simp), hgo0]
        have hK : d.pk = ofK fs ops room zs := by
          rw [HPK.out]
          unfold ofK
          rw [hgo0, List.take_of_length_le (by rw [HN.out]; exact Nat.le_refl _)]
          rfl
        have HAN2 := Lib.hid (any2 S _ fs wr (HV.out.below flFine HB.out))
        have HE := Lib.hid hE
        have HK := Lib.hid hK
        clear hd0 hgo0 hE hK
        cases hrg : fs.any rgB with
        | true =>
          rw [hrg] at HAN2 HE
          obtain rfl : 2 = q0 := by rw [← HQ.out, HE.out, if_pos rfl]
          clear hrg
          go_wp2_with (go_at_call 27; refine HAN2.out.mono ?_; rintro r w4 ⟨rfl, hb4⟩)
          refine bodyPost_ret (v := .tuple #[.pointer none, .int .i64 2]) (by simp [results, Try.results9, go_sem]) rfl ?_
          exact ⟨_, rfl, fun _ => rfl, fun e => absurd e (by decide), HB.out.trans (hb4.mono HB.out.size)⟩
        | false =>
          rw [hrg] at HAN2 HE
          obtain rfl : 0 = q0 := by rw [← HQ.out, HE.out, if_neg (by simp)]
          clear hrg
          go_wp2_with (go_at_call 27; refine HAN2.out.mono ?_; rintro r w4 ⟨rfl, hb4⟩)
          refine bodyPost_ret (v := .tuple #[.pointer (some ⟨p, 0, none⟩), .int .i64 0]) (by simp [results, Try.results9, go_sem]) rfl ?_
          exact ⟨_, rfl, ⟨p, rfl, mb, kv, d, HD.out.below hb4, HK.out⟩, HB.out.trans (hb4.mono HB.out.size)⟩
end Go.Proofs.Ytcmjoaepihbodaa
