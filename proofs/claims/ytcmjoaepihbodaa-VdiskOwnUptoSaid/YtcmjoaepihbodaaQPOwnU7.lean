/-
The plain law of VdiskCounts: what a call does to the counter; how large the files become.
-/
import Derived.Test.YtcmjoaepihbodaaQPOwnU6
import Derived.Test.YtcmjoaepihbodaaQPOwnU5
section
namespace Go.Proofs.Ytcmjoaepihbodaa
open Go.RowKit Go.BigFrame Go.Sort Go.Shelf Go.Lib Go.Maps
attribute [local go_sem ↓] Go.wp_at_zero Go.wp_at_succ
theorem own_blk {w : World} {base size n g : Nat} {e : TypeId} {v : Value} {xs : List Value} (h : w.ownsRow base e size v n xs) (hv : v.ownBlock = some g) : ∃ cs : Array Value, w.heap[g]? = some (.cells cs e (0, 0)) := by
  rcases h.2 with ⟨rfl, _⟩ | ⟨g', cap, cur, rfl, _, hh, _⟩
  · cases hv
  · obtain rfl : g' = g := Option.some.inj hv
    exact ⟨_, hh⟩
theorem dump_nil (w : World) : Calls Try.prog 12 #[.pointer none] w fun r w' => r = .returned (.slice none 0 0) ∧ w = w' := by
  go_enter Try.func12, Try.ntmps12
  go_wp2
  go_ret
  exact ⟨rfl, rfl⟩
set_option maxRecDepth 100000 in
set_option maxHeartbeats 4000000 in
theorem dump_any (F : Nat → Prop) (p : Nat) (k : Pk) (w : World) (h : DiskP w F p k) (hmany : k.fs.length * 48 ≤ 140737488355328) :
    Calls Try.prog 12 #[.pointer (some ⟨p, 0, none⟩)] w fun r w' => ∃ v, r = .returned v ∧ OwnFiles w' w.heap.size v k.fs ∧ Below w.heap.size w w' := by
  obtain ⟨i0, hi, hz0, hz1, hz2⟩ := info_parts infoF
  have hby := Lib.hid hz2
  have hz1' := Lib.hid hz1
  clear hz2 hz1
  obtain ⟨mb, kv, d, h, rfl⟩ := h
  have H := Lib.hid h
  have HN := Lib.hid (names_any F p mb _ d _ h (by rw [← map_len]; omega))
  rw [← map_len] at HN
  obtain ⟨n, hn⟩ : ∃ n, d.pk.fs.length = n := ⟨_, rfl⟩
  have HLN := Lib.hid hn
  rw [hn] at hmany HN
  clear h hn
  go_enter Try.func12, Try.ntmps12
  go_wp2_with (go_at_call 32; refine HN.out.mono ?_; rintro r w1 ⟨vn, rfl, hrow, hb1⟩; obtain ⟨An, cn, rfl⟩ := own_form hrow)
  have HROW := Lib.hid hrow
  have HB1 := Lib.hid hb1
  clear hrow hb1 HN
  go_loopw [3, 12] (fun v3 t wr => ∃ i : Nat, i ≤ n ∧ t = .int .i64 i ∧ OwnFiles wr w1.heap.size v3 (d.pk.fs.take i) ∧ Below w1.heap.size w1 wr) (fun _ t _ => n - (intOf t).toNat)
  case atStart => exact ⟨0, Nat.zero_le _, rfl, OwnRows.nil _ _ _, Below.refl _ _⟩
  case round =>
    obtain ⟨i, hi', rfl, hown, hbel⟩ := hrel
    obtain ⟨css, hown, hys⟩ := hown
    have HO := Lib.hid hown
    have HYS := Lib.hid hys
    have HB := Lib.hid hbel
    obtain ⟨m, hm⟩ : ∃ m, (d.pk.fs.take i).length = m := ⟨_, rfl⟩
    have hmi : m = i := by rw [← hm, List.length_take, HLN.out]; omega
    subst hmi
    rw [hm] at HO
    have HMM := Lib.hid hm
    clear hown hys hbel hm
    by_cases hin : m < n
    · obtain ⟨f0, hf0⟩ : ∃ f0, d.pk.fs[m]? = some f0 := ⟨_, List.getElem?_eq_getElem (by rw [HLN.out]; exact hin)⟩
      have hf0' : (d.ns.map Fd.fl)[m]? = some f0 := hf0
      rw [List.getElem?_map] at hf0'
      obtain ⟨f, hfn, hfl⟩ : ∃ f, d.ns[m]? = some f ∧ f.fl = f0 := by
        cases hx : d.ns[m]? with
        | none => rw [hx] at hf0'; cases hf0'
        | some f => rw [hx] at hf0'; exact ⟨f, rfl, by simpa using hf0'⟩
      subst hfl
      have hv := (H.out.below HB1.out).below HB.out
      have hf := find_mem hv.sorted (List.mem_of_getElem? hfn)
      have hrow' := own_below HROW.out HB.out
      obtain ⟨gn, cn', hE, _⟩ := own_pos hrow' (by omega)
      injection hE with e1 e2 e3
      subst e1 e3
      have hcn : wr.cell? ⟨gn, m, none⟩ = some (.string ⟨f.name.toArray⟩) := by
        rw [hrow'.cellAt m (by omega), List.getElem?_map, List.getElem?_map, hfn]
        rfl
      have hnl : f.name.length ≤ 140737488355328 := by have := nameB_len (hv.names f (find_name hf).2); omega
      obtain ⟨x0, _⟩ := hv.cell
      have hlk := hv.look f.name hnl
      rw [hf] at hlk
      unfold ptrF at hlk
      obtain ⟨y0, y1, yf, hfv⟩ := hv.file hf
      obtain ⟨Af, cf, hfs⟩ := hfv.own.form
      rw [hfs] at y0
      have HFD := Lib.hid hfv.own.byt
      rw [hfs] at HFD
      have HF0 := Lib.hid hf0
      have K0h := Lib.hid y0
      have K1h := Lib.hid y1
      have hflt : f.blk < wr.heap.size := (Array.getElem?_eq_some_iff.1 hfv.cells).1
      have HNE : Hid (¬ u3.ownBlock = some f.blk) := Lib.hid fun e => by
        obtain ⟨cs, hh⟩ := own_blk HO.out e
        exact cells_ne hfv.cells hh (by decide) rfl
      clear hv hf hfn hf0 hf0' hrow' e2 hfv hfs y0 y1
      go_wp2
      have hf0 : fr wr wr.drew := fr.refl.drew
      go_region_held3 (fun w' => w'.cell? ⟨f.blk, 0, none⟩ = some (.slice Af f.data.length cf) ∧ w'.cell? ⟨f.blk, 1, none⟩ = some (.int .i64 f.synced))
        (first
          | with_reducible exact fr.two hf0 K0h.out K1h.out
          | with_reducible exact hs3
          | with_reducible exact fr.two hf1 K0h.out K1h.out
          | with_reducible exact fr.two (fr.alloc hf1 _) K0h.out K1h.out)
        (first
          | (go_split_ands; go_at_call 30; with_reducible (refine (bcloneL_any _ (.slice Af f.data.length cf) f.data _ (fr.byt hf0 HFD.out)).mono ?_); rintro r w2 ⟨v1, rfl, hk', hb2⟩; obtain ⟨Ak', ck', rfl⟩ := slice_form hk'.byt; have hf1 := fr.step hf0 hb2)
          | (go_split_ands; refine step_append_own_at (by rfl) _ _ 22 (by rfl) w1.heap.size 37 i0 _ 3 48 Try.underlying22 hi hz0 hz1'.out hby.out rfl (by decide) _ _ _ (by rfl) ((own_below HO.out hf1).alloc _) ⟨w2.heap.size, 0, none⟩ 1 1 [.string ⟨f.name.toArray⟩, .slice Ak' f.data.length ck', .int .i64 f.synced] (by rfl) rfl (cells_new _ _ _) (by simp [Value.oneCell']) (by unfold maxLen; omega) (by omega) (by have := HB.out.size; have := Below.size hf1; simp; omega) ?_; intro v' w3 hown' hgrow hat; have hs3 := fr.grown (fr.alloc hf1 _) K0h.out K1h.out hgrow HNE.out))
      have hx : flR w2 (fun i => wr.heap.size ≤ i ∧ Loose w2 i) f.fl [.string ⟨f.name.toArray⟩, .slice Ak' f.data.length ck', .int .i64 f.synced] := ⟨_, rfl, hk', hnl⟩
      have hpush := OwnRows.push flFine (by rw [HMM.out]; exact HO.out) HYS.out hf1 hx HB.out.size hgrow hat (by rw [HMM.out]; exact hown')
      rw [← take_snoc HF0.out] at hpush
      have HPUSH := Lib.hid hpush
      have hbw : Below w1.heap.size w1 w3 := ((HB.out.trans (Below.mono hf1 HB.out.size)).alloc (by have := HB.out.size; have := Below.size hf1; omega) _).grown hgrow (by have := HB.out.size; have := Below.size hf1; simp; omega) (fun j e => (HO.out.lt j e).1)
      have HBW := Lib.hid hbw
      clear hpush hbw hown' hgrow hat hs3 hx hk' hf1 hb2
      go_wp2
      exact ⟨⟨m + 1, by omega, by go_num, HPUSH.out, HBW.out⟩, by simp [intOf]; omega⟩
    · obtain rfl : m = n := by omega
      go_wp2
      refine bodyPost_ret (v := u3) (by simp [results, Try.results12, go_sem]) rfl ?_
      have e1 : d.pk.fs.take m = d.pk.fs := List.take_of_length_le (by rw [HLN.out]; exact Nat.le_refl _)
      have hys := HYS.out
      rw [e1] at hys
      have hle := HB1.out.size
      refine ⟨u3, rfl, ⟨css, by rw [HLN.out]; exact ownsRow_base_a HO.out hle, hys.imp fun _ _ hx => flFine.keep hx fun _ _ _ _ hr => hr.mono fun i hi => ⟨Nat.le_trans hle hi.1, hi.2⟩⟩, HB1.out.trans (HB.out.mono hle)⟩
end Go.Proofs.Ytcmjoaepihbodaa
end
section
namespace Go.Proofs.Ytcmjoaepihbodaa
open Go.RowKit Go.BigFrame Go.Sort Go.Shelf Go.Lib Go.Maps
attribute [local go_sem ↓] Go.wp_at_zero Go.wp_at_succ
/-- strings in new memory. -/
def OwnS (w : World) (base : Nat) (v : Value) (ss : List Nm) : Prop := w.ownsRow base 9 1 v ss.length (ss.map encStr)
theorem OwnS.nil (w : World) (base : Nat) : OwnS w base (.slice none 0 0) [] := World.ownsRow_nil _ _ _ _
theorem strs0 (w : World) : Strs w (fun _ => True) (.slice none 0 0) [] := ⟨_, _, rfl, Nat.le_refl _, by omega, by simp, fun h => by simp at h⟩
def listP (k : Pk) : List Nm := if k.down = true then [] else k.fs.map Fl.name
set_option maxRecDepth 100000 in
set_option maxHeartbeats 2000000 in
theorem list_nil (w : World) : Calls Try.prog 25 #[.pointer none] w fun r w' => r = .returned (.tuple #[.slice none 0 0, .int .i64 1]) ∧ Below w.heap.size w w' := by
  go_enter Try.func25, Try.ntmps25
  go_wp2_with (go_at_call 34; refine (ready_nil _ _).mono ?_; rintro r w1 ⟨rfl, rfl⟩)
  refine bodyPost_ret (v := .tuple #[.slice none 0 0, .int .i64 1]) (by simp [results, Try.results25, go_sem]) rfl ?_
  exact ⟨rfl, Below.refl _ _⟩
set_option maxRecDepth 100000 in
set_option maxHeartbeats 2000000 in
theorem list_any (F : Nat → Prop) (p : Nat) (k : Pk) (w : World) (h : DiskP w F p k) (hl : k.fs.length * 16 ≤ 140737488355328) :
    Calls Try.prog 25 #[.pointer (some ⟨p, 0, none⟩)] w fun r w' => ∃ v, r = .returned (.tuple #[v, .int .i64 (readyE k [])]) ∧ OwnS w' w.heap.size v (listP k) ∧ Below w.heap.size w w' := by
  have HR := Lib.hid (ready_any F p k (fun _ => True) _ [] w h (strs0 w) (fun y hy => by cases hy))
  obtain ⟨mb, kv, d, h, rfl⟩ := h
  have H := Lib.hid h
  clear h
  have hlen : d.ns.length * 16 ≤ 140737488355328 := by rw [← map_len]; exact hl
  cases hd : d.pk.down with
  | true =>
    have e1 : readyE d.pk [] = 20 := by unfold readyE; rw [if_pos hd]
    have e2 : listP d.pk = [] := by unfold listP; rw [if_pos hd]
    rw [e1] at HR ⊢
    rw [e2]
    clear hd e1 e2
    go_enter Try.func25, Try.ntmps25
    go_wp2_with (go_at_call 34; refine HR.out.mono ?_; rintro r w1 ⟨rfl, hb1⟩)
    refine bodyPost_ret (v := .tuple #[.slice none 0 0, .int .i64 20]) (by simp [results, Try.results25, go_sem]) rfl ?_
    exact ⟨_, rfl, OwnS.nil _ _, hb1⟩
  | false =>
    have e1 : readyE d.pk [] = 0 := by unfold readyE; rw [if_neg (by rw [hd]; simp)]; rfl
    have e2 : listP d.pk = d.ns.map Fd.name := by unfold listP; rw [if_neg (by rw [hd]; simp)]; show (d.ns.map Fd.fl).map Fl.name = _; rw [List.map_map]; rfl
    rw [e1] at HR ⊢
    rw [e2]
    clear hd e1 e2
    go_enter Try.func25, Try.ntmps25
    go_wp2_with (first
      | (go_at_call 34; refine HR.out.mono ?_; rintro r w1 ⟨rfl, hb1⟩)
      | (go_at_call 32; refine (names_any F p mb _ d _ (H.out.below hb1) hlen).mono ?_; rintro r w2 ⟨vn, rfl, hrow, hb2⟩))
    refine bodyPost_ret (v := .tuple #[vn, .int .i64 0]) (by simp [results, Try.results25, go_sem]) rfl ?_
    refine ⟨_, rfl, ?_, hb1.trans (hb2.mono hb1.size)⟩
    unfold OwnS
    rw [List.length_map]
    exact ownsRow_base_a hrow hb1.size
end Go.Proofs.Ytcmjoaepihbodaa
end
section
namespace Go.Proofs.Ytcmjoaepihbodaa
open Go.RowKit Go.BigFrame Go.Sort Go.Shelf Go.Lib Go.Maps
theorem Byt.lit (w : World) (S : Nat → Prop) (hS : S w.heap.size) (e : TypeId) (bs : List UInt8) (hl : bs.length ≤ 140737488355328) (o : Obj) (ho : o = .cells (bs.map bcell).toArray e (0, 0)) :
    Byt (w.alloc o) S (.slice (some ⟨w.heap.size, 0, none⟩) bs.length bs.length) bs := by
  subst ho
  refine ⟨_, _, rfl, Nat.le_refl _, by omega, hl, by simp, fun _ => ⟨w.heap.size, 0, rfl, hS, by simp, fun j u hu => ?_⟩⟩
  rw [World.cell?_alloc_at _ _ _ _ rfl]
  simpa using hu
/-- a disk at p that is k, in blocks from base on. -/
def DkP (w : World) (base p : Nat) (k : Pk) : Prop := ∃ F, DiskP w F p k ∧ ∀ i, F i → base ≤ i ∧ i < w.heap.size
theorem DkP.below {w w' : World} {base p : Nat} {k : Pk} (h : DkP w base p k) (hb : Below w.heap.size w w') : DkP w' base p k := by
  obtain ⟨F, h, hF⟩ := h
  exact ⟨F, h.below hb, fun i hi => ⟨(hF i hi).1, by have := (hF i hi).2; have := hb.size; omega⟩⟩
theorem DkP.made {w : World} {F : Nat → Prop} {base p : Nat} {k : Pk} (h : DiskP w F p k) (hF : ∀ i, F i → i < w.heap.size → base ≤ i) : DkP w base p k :=
  ⟨fun i => base ≤ i ∧ i < w.heap.size, h.mono fun i hi hl => ⟨hF i hi hl, hl⟩, fun _ hi => hi⟩
theorem DkP.base {w : World} {base b' p : Nat} {k : Pk} (h : DkP w base p k) (hb : b' ≤ base) : DkP w b' p k := by
  obtain ⟨F, h, hF⟩ := h
  exact ⟨F, h, fun i hi => ⟨Nat.le_trans hb (hF i hi).1, (hF i hi).2⟩⟩
section
variable {w w2 : World} {base p : Nat} {k : Pk}
theorem new_dk (S : Nat → Prop) (ops room : Int) (v : Value) (zs : List Int) (w : World) (hz : IntsIn w S v zs) (hl : zs.length * 8 ≤ 140737488355328) (base : Nat) (hbase : base ≤ w.heap.size) :
    Calls Try.prog 21 #[.agg #[.int .i64 ops, .int .i64 room, v]] w fun r w' => ∃ p, r = .returned (.pointer (some ⟨p, 0, none⟩)) ∧ DkP w' base p ⟨[], ops, room, zs, 0, 0, false⟩ ∧ Below w.heap.size w w' := by
  refine (new_any S ops room v zs w hz hl).mono ?_
  rintro r w' ⟨p, rfl, h, hb⟩
  exact ⟨p, rfl, .made h fun i hi _ => Nat.le_trans hbase hi, hb⟩
theorem append_dk (x : Nm) (v : Value) (b : List UInt8) (h : DkP w base p k) (hb : Below w.heap.size w w2) (hbase : base ≤ w.heap.size) (hv : Byt w2 (fun i => w.heap.size ≤ i) v b) (hx : x.length ≤ 140737488355328) (hd : 0 ≤ k.done) (hd' : k.done < 4611686018427387904)
    (hlen : ∀ f, findP x k.fs = some f → f.data.length + b.length ≤ 140737488355328) (hmany : k.fs.length < 9223372036854775807) :
    Calls Try.prog 15 #[.pointer (some ⟨p, 0, none⟩), .string ⟨x.toArray⟩, v] w2 fun r w' => r = .returned (.int .i64 (appendE k x b)) ∧ DkP w' base p (appendK k x b) ∧ Below base w2 w' ∧ ∀ X, w.heap.size ≤ X → X < w2.heap.size → w'.heap[X]? = w2.heap[X]? := by
  obtain ⟨F, h, hF⟩ := h
  refine (append_any F p k x _ v b w2 (h.below hb) hv (fun i hi hf => by have := (hF i hf).2; omega) hx hd hd' hlen hmany).mono ?_
  rintro r w' ⟨rfl, h', ho⟩
  have hs := hb.size
  exact ⟨rfl, .made h' fun i hi _ => hi.elim (fun hi => (hF i hi).1) (fun hi => by omega), ho.below (by omega) fun i hi => (hF i hi).1, fun X h1 h2 => ho.block X h2 fun hf => by have := (hF X hf).2; omega⟩
theorem sync_dk (x : Nm) (h : DkP w base p k) (hbase : base ≤ w.heap.size) (hx : x.length ≤ 140737488355328) (hd : 0 ≤ k.done) (hd' : k.done < 4611686018427387904) :
    Calls Try.prog 22 #[.pointer (some ⟨p, 0, none⟩), .string ⟨x.toArray⟩] w fun r w' => r = .returned (.int .i64 (syncE k x)) ∧ DkP w' base p (syncK k x) ∧ Below base w w' := by
  obtain ⟨F, h, hF⟩ := h
  refine (sync_any F p k x w h hx hd hd').mono ?_
  rintro r w' ⟨rfl, h', ho⟩
  exact ⟨rfl, .made h' fun i hi _ => (hF i hi).1, ho.below hbase fun i hi => (hF i hi).1⟩
theorem delete_dk (x : Nm) (h : DkP w base p k) (hbase : base ≤ w.heap.size) (hx : x.length ≤ 140737488355328) (hd : 0 ≤ k.done) (hd' : k.done < 4611686018427387904) :
    Calls Try.prog 24 #[.pointer (some ⟨p, 0, none⟩), .string ⟨x.toArray⟩] w fun r w' => r = .returned (.int .i64 (syncE k x)) ∧ DkP w' base p (deleteK k x) ∧ Below base w w' := by
  obtain ⟨F, h, hF⟩ := h
  refine (delete_any F p k x w h hx hd hd').mono ?_
  rintro r w' ⟨rfl, h', ho⟩
  exact ⟨rfl, .made h' fun i hi _ => (hF i hi).1, ho.below hbase fun i hi => (hF i hi).1⟩
theorem rename_dk (x y : Nm) (h : DkP w base p k) (hbase : base ≤ w.heap.size) (hx : x.length ≤ 140737488355328) (hy : y.length ≤ 140737488355328) (hd : 0 ≤ k.done) (hd' : k.done < 4611686018427387904) (hmany : k.fs.length < 9223372036854775807) :
    Calls Try.prog 23 #[.pointer (some ⟨p, 0, none⟩), .string ⟨x.toArray⟩, .string ⟨y.toArray⟩] w fun r w' => r = .returned (.int .i64 (renameE k x y)) ∧ DkP w' base p (renameK k x y) ∧ Below base w w' := by
  obtain ⟨F, h, hF⟩ := h
  refine (rename_any F p k x y w h hx hy hd hd' hmany).mono ?_
  rintro r w' ⟨rfl, h', ho⟩
  exact ⟨rfl, .made h' fun i hi _ => (hF i hi).1, ho.below hbase fun i hi => (hF i hi).1⟩
theorem revive_dk (S : Nat → Prop) (ops room : Int) (v : Value) (zs : List Int) (h : DkP w base p k) (hb : Below w.heap.size w w2) (hbase : base ≤ w.heap.size) (hok : okFs k.fs) (hmany : k.fs.length * 16 ≤ 140737488355328) (hz : IntsIn w2 S v zs) (hS : ∀ i, S i → i < base ∨ w.heap.size ≤ i) (hl : zs.length * 8 ≤ 140737488355328) :
    Calls Try.prog 13 #[.pointer (some ⟨p, 0, none⟩), .agg #[.int .i64 ops, .int .i64 room, v]] w2 fun r w' => r = .returned (.int .i64 0) ∧ DkP w' base p (reviveK k ops room zs) ∧ Below base w2 w' ∧ ∀ X, w.heap.size ≤ X → X < w2.heap.size → w'.heap[X]? = w2.heap[X]? := by
  obtain ⟨F, h, hF⟩ := h
  refine (revive_any F p k S ops room v zs w2 (h.below hb) hok hmany hz (fun i hi hf => by have := (hF i hf); have := hS i hi; omega) hl).mono ?_
  rintro r w' ⟨rfl, h', ho⟩
  have hs := hb.size
  exact ⟨rfl, .made h' fun i hi _ => hi.elim (fun hi => (hF i hi).1) (fun hi => by omega), ho.below (by omega) fun i hi => (hF i hi).1, fun X h1 h2 => ho.block X h2 fun hf => by have := (hF X hf).2; omega⟩
theorem read_dk (x : Nm) (h : DkP w base p k) (hx : x.length ≤ 140737488355328) :
    Calls Try.prog 19 #[.pointer (some ⟨p, 0, none⟩), .string ⟨x.toArray⟩] w fun r w' => ∃ v, r = .returned (.tuple #[v, .int .i64 (readyE k [x])]) ∧ BytL w' w.heap.size v (if readyE k [x] = 0 then readD k x else []) ∧ DkP w' base p k ∧ Below w.heap.size w w' := by
  have h0 := h
  obtain ⟨F, h, hF⟩ := h
  refine (read_any F p k x w h hx).mono ?_
  rintro r w' ⟨v, rfl, hv, hb⟩
  exact ⟨v, rfl, hv, h0.below hb, hb⟩
theorem list_dk (h : DkP w base p k) (hl : k.fs.length * 16 ≤ 140737488355328) :
    Calls Try.prog 25 #[.pointer (some ⟨p, 0, none⟩)] w fun r w' => ∃ v, r = .returned (.tuple #[v, .int .i64 (readyE k [])]) ∧ OwnS w' w.heap.size v (listP k) ∧ DkP w' base p k ∧ Below w.heap.size w w' := by
  have h0 := h
  obtain ⟨F, h, hF⟩ := h
  refine (list_any F p k w h hl).mono ?_
  rintro r w' ⟨v, rfl, hv, hb⟩
  exact ⟨v, rfl, hv, h0.below hb, hb⟩
theorem dump_dk (h : DkP w base p k) (hl : k.fs.length * 48 ≤ 140737488355328) :
    Calls Try.prog 12 #[.pointer (some ⟨p, 0, none⟩)] w fun r w' => ∃ v, r = .returned v ∧ OwnFiles w' w.heap.size v k.fs ∧ DkP w' base p k ∧ Below w.heap.size w w' := by
  have h0 := h
  obtain ⟨F, h, hF⟩ := h
  refine (dump_any F p k w h hl).mono ?_
  rintro r w' ⟨v, rfl, hv, hb⟩
  exact ⟨v, rfl, hv, h0.below hb, hb⟩
end
end Go.Proofs.Ytcmjoaepihbodaa
end
section
namespace Go.Proofs.Ytcmjoaepihbodaa
open Go.RowKit Go.BigFrame Go.Sort Go.Shelf Go.Lib Go.Maps
attribute [local go_sem ↓] Go.wp_at_zero Go.wp_at_succ
def nmB (f : Fl) : Bool := !nameB f.name
def rgB (f : Fl) : Bool := decide (f.synced < 0) || decide ((f.data.length : Int) < f.synced)
theorem flR.cells {w : World} {S : Nat → Prop} {f : Fl} {cs : List Value} (h : flR w S f cs) : ∃ A c, cs = [.string ⟨f.name.toArray⟩, .slice A f.data.length c, .int .i64 f.synced] := by
  obtain ⟨v, rfl, hv, _⟩ := h
  obtain ⟨A, c, rfl⟩ := slice_form hv
  exact ⟨A, c, rfl⟩
set_option maxRecDepth 100000 in
set_option maxHeartbeats 2000000 in
theorem cl1_any (f : Fl) (A : Option Addr) (c : Nat) (w : World) (hl : f.name.length ≤ 140737488355328) :
    Calls Try.prog 28 #[.agg #[.string ⟨f.name.toArray⟩, .slice A f.data.length c, .int .i64 f.synced]] w fun r w' => r = .returned (.bool (nmB f)) ∧ Below w.heap.size w w' := by
  have hA : Below w.heap.size w (w.alloc (.cells #[.string ⟨f.name.toArray⟩, .slice A f.data.length c, .int .i64 f.synced] 37)) := (Below.refl _ _).alloc (Nat.le_refl _) _
  have HA := Lib.hid hA
  clear hA
  go_enter Try.func28, Try.ntmps28
  go_wp2_with (go_at_call 29; refine (named_any f.name _ hl).mono ?_; rintro r w1 ⟨rfl, hb1⟩)
  go_ret
  exact ⟨rfl, HA.out.trans (hb1.mono HA.out.size)⟩
set_option maxRecDepth 100000 in
set_option maxHeartbeats 2000000 in
theorem cl2_any (f : Fl) (A : Option Addr) (c : Nat) (w : World) (_ : f.name.length ≤ 140737488355328) :
    Calls Try.prog 31 #[.agg #[.string ⟨f.name.toArray⟩, .slice A f.data.length c, .int .i64 f.synced]] w fun r w' => r = .returned (.bool (rgB f)) ∧ Below w.heap.size w w' := by
  have hA : Below w.heap.size w (w.alloc (.cells #[.string ⟨f.name.toArray⟩, .slice A f.data.length c, .int .i64 f.synced] 37)) := (Below.refl _ _).alloc (Nat.le_refl _) _
  have HA := Lib.hid hA
  clear hA
  cases h : decide (f.synced < 0) with
  | true =>
    go_enter Try.func31, Try.ntmps31
    go_wp2
    go_ret
    exact ⟨ret_bool (by unfold rgB; rw [h]; rfl), HA.out⟩
  | false =>
    go_enter Try.func31, Try.ntmps31
    go_wp2
    go_ret
    exact ⟨ret_bool (by unfold rgB; rw [h]; rfl), HA.out⟩
set_option maxRecDepth 100000 in
set_option maxHeartbeats 2000000 in
theorem idx1 (S : Nat → Prop) (v : Value) (fs : List Fl) (w : World) (hv : FilesV w S v fs) :
    Calls Try.prog 46 #[v, .func (.func 28) #[] #[]] w fun r w' => ∃ i : Int, r = .returned (.int .i64 i) ∧ (0 ≤ i ↔ fs.any nmB = true) ∧ Below w.heap.size w w' := by
  obtain ⟨A, c, rfl⟩ := hv.form
  obtain ⟨n, hn⟩ : ∃ n, fs.length = n := ⟨_, rfl⟩
  have hmax : n * 48 ≤ 140737488355328 := by obtain ⟨_, _, _, _, _, _, h3, _⟩ := hv; rw [← hn]; exact h3
  rw [hn] at hv ⊢
  have HN := Lib.hid hn
  have HV := Lib.hid hv
  clear hn hv
  go_enter Try.func46, Try.ntmps46
  go_wp2
  go_loopw [8] (fun t wr => ∃ k : Nat, k ≤ n ∧ t = .int .i64 k ∧ (fs.take k).any nmB = false ∧ Below w.heap.size w wr) (fun t _ => n - (intOf t).toNat)
  case atStart => exact ⟨0, Nat.zero_le _, rfl, rfl, Below.refl _ _⟩
  case round =>
    obtain ⟨k, hk, rfl, hall, hbel⟩ := hrel
    have HA := Lib.hid hall
    have HB := Lib.hid hbel
    clear hall hbel
    by_cases hkn : k < n
    · obtain ⟨f, hf⟩ : ∃ f, fs[k]? = some f := ⟨_, List.getElem?_eq_getElem (by rw [HN.out]; exact hkn)⟩
      obtain ⟨b, o, cs, rfl, _, _, hR, hc⟩ := Rows.at_ flFine (HV.out.below flFine HB.out) hf
      obtain ⟨A', c', rfl⟩ := hR.cells
      have hxl : f.name.length ≤ 140737488355328 := by obtain ⟨_, _, _, h⟩ := hR; exact h
      have c0 : wr.cell? ⟨b, o + k * 3, none⟩ = _ := hc 0 _ rfl
      have c1 : wr.cell? ⟨b, o + k * 3 + 1, none⟩ = _ := hc 1 _ rfl
      have c2 : wr.cell? ⟨b, o + k * 3 + 2, none⟩ = _ := hc 2 _ rfl
      have HX := Lib.hid hf
      clear hf hR hc
      cases hb : nmB f with
      | false =>
        have HNB := Lib.hid hb
        clear hb
        go_wp2_with (go_at_call 28; refine (cl1_any f _ _ _ hxl).mono ?_; rintro r w1 ⟨rfl, hb1⟩; rw [HNB.out])
        refine ⟨⟨k + 1, by omega, by go_num, ?_, HB.out.trans (hb1.mono HB.out.size)⟩, by simp [intOf]; omega⟩
        rw [take_snoc HX.out, List.any_append, HA.out]
        simp [HNB.out]
      | true =>
        have HNB := Lib.hid hb
        clear hb
        go_wp2_with (go_at_call 28; refine (cl1_any f _ _ _ hxl).mono ?_; rintro r w1 ⟨rfl, hb1⟩; rw [HNB.out])
        go_ret
        refine ⟨_, rfl, ⟨fun _ => ?_, fun _ => by omega⟩, HB.out.trans (hb1.mono HB.out.size)⟩
        exact List.any_eq_true.2 ⟨f, List.mem_of_getElem? HX.out, HNB.out⟩
    · obtain rfl : k = n := by omega
      go_wp2
      go_ret
      refine ⟨-1, rfl, ⟨fun h => by omega, fun h => ?_⟩, HB.out⟩
      have := HA.out
      rw [List.take_of_length_le (by rw [HN.out]; exact Nat.le_refl _), h] at this
      cases this
set_option maxHeartbeats 2000000 in
theorem any1 (S : Nat → Prop) (v : Value) (fs : List Fl) (w : World) (hv : FilesV w S v fs) :
    Calls Try.prog 27 #[v, .func (.func 28) #[] #[]] w fun r w' => r = .returned (.bool (fs.any nmB)) ∧ Below w.heap.size w w' := by
  have HC := Lib.hid (idx1 S v fs w hv)
  obtain ⟨A, c, rfl⟩ := hv.form
  clear hv
  go_enter Try.func27, Try.ntmps27
  go_wp2_with (go_at_call 46; refine HC.out.mono ?_; rintro r w1 ⟨i, rfl, hi, hb⟩; have HI := Lib.hid hi; clear hi)
  go_ret
  refine ⟨ret_bool ?_, hb⟩
  rw [Bool.eq_iff_iff, decide_eq_true_iff]
  exact HI.out
set_option maxRecDepth 100000 in
set_option maxHeartbeats 2000000 in
theorem idx2 (S : Nat → Prop) (v : Value) (fs : List Fl) (w : World) (hv : FilesV w S v fs) :
    Calls Try.prog 46 #[v, .func (.func 31) #[] #[]] w fun r w' => ∃ i : Int, r = .returned (.int .i64 i) ∧ (0 ≤ i ↔ fs.any rgB = true) ∧ Below w.heap.size w w' := by
  obtain ⟨A, c, rfl⟩ := hv.form
  obtain ⟨n, hn⟩ : ∃ n, fs.length = n := ⟨_, rfl⟩
  have hmax : n * 48 ≤ 140737488355328 := by obtain ⟨_, _, _, _, _, _, h3, _⟩ := hv; rw [← hn]; exact h3
  rw [hn] at hv ⊢
  have HN := Lib.hid hn
  have HV := Lib.hid hv
  clear hn hv
  go_enter Try.func46, Try.ntmps46
  go_wp2
  go_loopw [8] (fun t wr => ∃ k : Nat, k ≤ n ∧ t = .int .i64 k ∧ (fs.take k).any rgB = false ∧ Below w.heap.size w wr) (fun t _ => n - (intOf t).toNat)
  case atStart => exact ⟨0, Nat.zero_le _, rfl, rfl, Below.refl _ _⟩
  case round =>
    obtain ⟨k, hk, rfl, hall, hbel⟩ := hrel
    have HA := Lib.hid hall
    have HB := Lib.hid hbel
    clear hall hbel
    by_cases hkn : k < n
    · obtain ⟨f, hf⟩ : ∃ f, fs[k]? = some f := ⟨_, List.getElem?_eq_getElem (by rw [HN.out]; exact hkn)⟩
      obtain ⟨b, o, cs, rfl, _, _, hR, hc⟩ := Rows.at_ flFine (HV.out.below flFine HB.out) hf
      obtain ⟨A', c', rfl⟩ := hR.cells
      have hxl : f.name.length ≤ 140737488355328 := by obtain ⟨_, _, _, h⟩ := hR; exact h
      have c0 : wr.cell? ⟨b, o + k * 3, none⟩ = _ := hc 0 _ rfl
      have c1 : wr.cell? ⟨b, o + k * 3 + 1, none⟩ = _ := hc 1 _ rfl
      have c2 : wr.cell? ⟨b, o + k * 3 + 2, none⟩ = _ := hc 2 _ rfl
      have HX := Lib.hid hf
      clear hf hR hc
      cases hb : rgB f with
      | false =>
        have HNB := Lib.hid hb
        clear hb
        go_wp2_with (go_at_call 31; refine (cl2_any f _ _ _ hxl).mono ?_; rintro r w1 ⟨rfl, hb1⟩; rw [HNB.out])
        refine ⟨⟨k + 1, by omega, by go_num, ?_, HB.out.trans (hb1.mono HB.out.size)⟩, by simp [intOf]; omega⟩
        rw [take_snoc HX.out, List.any_append, HA.out]
        simp [HNB.out]
      | true =>
        have HNB := Lib.hid hb
        clear hb
        go_wp2_with (go_at_call 31; refine (cl2_any f _ _ _ hxl).mono ?_; rintro r w1 ⟨rfl, hb1⟩; rw [HNB.out])
        go_ret
        refine ⟨_, rfl, ⟨fun _ => ?_, fun _ => by omega⟩, HB.out.trans (hb1.mono HB.out.size)⟩
        exact List.any_eq_true.2 ⟨f, List.mem_of_getElem? HX.out, HNB.out⟩
    · obtain rfl : k = n := by omega
      go_wp2
      go_ret
      refine ⟨-1, rfl, ⟨fun h => by omega, fun h => ?_⟩, HB.out⟩
      have := HA.out
      rw [List.take_of_length_le (by rw [HN.out]; exact Nat.le_refl _), h] at this
      cases this
set_option maxHeartbeats 2000000 in
theorem any2 (S : Nat → Prop) (v : Value) (fs : List Fl) (w : World) (hv : FilesV w S v fs) :
    Calls Try.prog 27 #[v, .func (.func 31) #[] #[]] w fun r w' => r = .returned (.bool (fs.any rgB)) ∧ Below w.heap.size w w' := by
  have HC := Lib.hid (idx2 S v fs w hv)
  obtain ⟨A, c, rfl⟩ := hv.form
  clear hv
  go_enter Try.func27, Try.ntmps27
  go_wp2_with (go_at_call 46; refine HC.out.mono ?_; rintro r w1 ⟨i, rfl, hi, hb⟩; have HI := Lib.hid hi; clear hi)
  go_ret
  refine ⟨ret_bool ?_, hb⟩
  rw [Bool.eq_iff_iff, decide_eq_true_iff]
  exact HI.out
end Go.Proofs.Ytcmjoaepihbodaa
end
section
namespace Go.Proofs.Ytcmjoaepihbodaa
open Go.RowKit
theorem findP_mem {x : Nm} {fs : List Fl} {f : Fl} (h : findP x fs = some f) : f ∈ fs ∧ f.name = x := by
  induction fs with
  | nil => cases h
  | cons g l ih =>
    unfold findP at h
    split at h
    · rename_i e
      obtain rfl := Option.some.inj h
      exact ⟨List.mem_cons_self, e⟩
    · exact ⟨List.mem_cons_of_mem _ (ih h).1, (ih h).2⟩
theorem mem_insP {f g : Fl} {fs : List Fl} (h : g ∈ insP f fs) : g = f ∨ g ∈ fs := by
  induction fs with
  | nil => simpa [insP] using h
  | cons a l ih =>
    unfold insP at h
    split at h
    · rcases List.mem_cons.1 h with e | e
      · exact .inl e
      · exact .inr e
    · split at h
      · rcases List.mem_cons.1 h with e | e
        · exact .inl e
        · exact .inr (List.mem_cons_of_mem _ e)
      · rcases List.mem_cons.1 h with e | e
        · exact .inr (e ▸ List.mem_cons_self)
        · exact (ih e).imp id (List.mem_cons_of_mem _)
theorem len_insP (f : Fl) (fs : List Fl) : (insP f fs).length ≤ fs.length + 1 := by
  induction fs with
  | nil => simp [insP]
  | cons a l ih =>
    unfold insP
    split
    · simp
    · split
      · simp
      · simp only [List.length_cons]; omega
theorem mem_delP {x : Nm} {g : Fl} {fs : List Fl} (h : g ∈ delP x fs) : g ∈ fs := by
  induction fs with
  | nil => cases h
  | cons a l ih =>
    unfold delP at h
    split at h
    · exact List.mem_cons_of_mem _ (ih h)
    · rcases List.mem_cons.1 h with e | e
      · exact e ▸ List.mem_cons_self
      · exact List.mem_cons_of_mem _ (ih e)
theorem len_delP (x : Nm) (fs : List Fl) : (delP x fs).length ≤ fs.length := by
  induction fs with
  | nil => simp [delP]
  | cons a l ih =>
    unfold delP
    split
    · simp only [List.length_cons]; omega
    · simp only [List.length_cons]; omega
def fitP (fs : List Fl) (N B : Nat) : Prop := fs.length ≤ N ∧ ∀ f ∈ fs, f.data.length ≤ B
theorem fitP.mono {fs : List Fl} {N B N' B' : Nat} (h : fitP fs N B) (hN : N ≤ N') (hB : B ≤ B') : fitP fs N' B' := ⟨Nat.le_trans h.1 hN, fun f hf => Nat.le_trans (h.2 f hf) hB⟩
theorem fit_upd {x : Nm} {g : Fl → Fl} {fs : List Fl} {N B n : Nat} (h : fitP fs N B) (hg : ∀ f, (g f).data.length ≤ f.data.length + n) : fitP (updP x g fs) N (B + n) := by
  refine ⟨by unfold updP; rw [List.length_map]; exact h.1, fun f hf => ?_⟩
  unfold updP at hf
  obtain ⟨a, ha, rfl⟩ := List.mem_map.1 hf
  have := h.2 a ha
  split
  · have := hg a; omega
  · omega
theorem fit_app {x : Nm} {b : List UInt8} {fs : List Fl} {N B : Nat} (h : fitP fs N B) : fitP (appFs x b fs) (N + 1) (B + b.length) := by
  unfold appFs
  refine fit_upd ?_ (fun f => by simp)
  split
  · exact h.mono (by omega) (Nat.le_refl _)
  · refine ⟨Nat.le_trans (len_insP _ _) (by have := h.1; omega), fun f hf => ?_⟩
    rcases mem_insP hf with rfl | hf
    · simp
    · exact h.2 f hf
theorem fit_del {x : Nm} {fs : List Fl} {N B : Nat} (h : fitP fs N B) : fitP (delP x fs) N B :=
  ⟨Nat.le_trans (len_delP _ _) h.1, fun f hf => h.2 f (mem_delP hf)⟩
theorem fit_ren {x y : Nm} {fs : List Fl} {N B : Nat} (h : fitP fs N B) : fitP (renFs x y fs) (N + 1) B := by
  unfold renFs
  split
  · rename_i f hf
    refine ⟨Nat.le_trans (len_insP _ _) (by have := (fit_del (x := x) h).1; omega), fun g hg => ?_⟩
    rcases mem_insP hg with rfl | hg
    · exact h.2 f (findP_mem hf).1
    · exact (fit_del h).2 g hg
  · exact h.mono (by omega) (Nat.le_refl _)
theorem fit_change {k : Pk} {N B : Nat} (h : fitP k.fs N B) : fitP (changeK k).fs N B := by
  unfold changeK
  split <;> exact h
theorem fit_appendK {k : Pk} {x : Nm} {b : List UInt8} {N B : Nat} (h : fitP k.fs N B) : fitP (appendK k x b).fs (N + 1) (B + b.length) := by
  have h1 : fitP k.fs (N + 1) (B + b.length) := h.mono (by omega) (by omega)
  unfold appendK
  split
  · split
    · exact h1
    · split
      · exact fit_change h1
      · exact fit_app h
  · exact h1
theorem fit_syncK {k : Pk} {x : Nm} {N B : Nat} (h : fitP k.fs N B) : fitP (syncK k x).fs N B := by
  unfold syncK
  split
  · split
    · exact fit_change h
    · exact fit_upd (n := 0) (fit_change h) (fun f => Nat.le_refl _)
  · exact h
theorem fit_deleteK {k : Pk} {x : Nm} {N B : Nat} (h : fitP k.fs N B) : fitP (deleteK k x).fs N B := by
  unfold deleteK
  split
  · split
    · exact fit_change h
    · exact fit_del h
  · exact h
theorem fit_renameK {k : Pk} {x y : Nm} {N B : Nat} (h : fitP k.fs N B) : fitP (renameK k x y).fs (N + 1) B := by
  have h1 : fitP k.fs (N + 1) B := h.mono (by omega) (Nat.le_refl _)
  unfold renameK
  split
  · split
    · exact fit_change h1
    · split
      · exact fit_change h1
      · exact fit_ren h
  · exact h1
/-- what a call does to the counter. -/
def stepC (k : Pk) (e : Int) (k' : Pk) : Prop :=
  (e = 20 ∧ k.ops ≤ k.done ∧ k'.down = true ∧ k'.done = k.done) ∨ (e = 0 ∧ k.done < k.ops ∧ k'.done = k.done + 1 ∧ k'.down = false ∧ k'.ops = k.ops ∧ k'.room = k.room) ∨ (e ≠ 0 ∧ e ≠ 20 ∧ k' = k)
theorem ready_codes {k : Pk} {ss : List Nm} (hd : k.down = false) : readyE k ss = 0 ∨ readyE k ss = 22 ∨ readyE k ss = 23 := by
  unfold readyE
  rw [if_neg (by rw [hd]; simp)]
  split
  · exact .inr (.inr rfl)
  · split
    · exact .inl rfl
    · split
      · exact .inr (.inl rfl)
      · exact .inl rfl
theorem step_change {k k' : Pk} (hd : k.down = false) (ho : 0 ≤ k.ops) (h : crashes k = true → k' = changeK k) (h' : crashes k = false → k'.done = (changeK k).done ∧ k'.down = k.down ∧ k'.ops = k.ops ∧ k'.room = k.room) : stepC k (changeE k) k' := by
  unfold changeE
  cases hc : crashes k with
  | true =>
    rw [if_pos rfl]
    have e := h hc
    unfold changeK at e
    rw [if_pos hc] at e
    have hc' : (decide (0 ≤ k.ops) && decide (k.ops ≤ k.done)) = true := hc
    simp at hc'
    exact .inl ⟨rfl, hc'.2, by rw [e], by rw [e]⟩
  | false =>
    rw [if_neg (by simp)]
    obtain ⟨h1, h2, h3, h4⟩ := h' hc
    have hc' : (decide (0 ≤ k.ops) && decide (k.ops ≤ k.done)) = false := hc
    have hlt : k.done < k.ops := by
      simp only [Bool.and_eq_false_iff, decide_eq_false_iff_not] at hc'
      omega
    unfold changeK at h1
    rw [if_neg (by rw [hc]; simp)] at h1
    exact .inr (.inl ⟨rfl, hlt, h1, by rw [h2, hd], h3, h4⟩)
theorem keep_change (k : Pk) : (changeK k).ops = k.ops ∧ (changeK k).room = k.room ∧ (changeK k).keep = k.keep ∧ (changeK k).fs = k.fs ∧ (crashes k = false → (changeK k).down = k.down) := by
  unfold changeK
  split
  · rename_i h
    exact ⟨rfl, rfl, rfl, rfl, fun e => by rw [h] at e; cases e⟩
  · exact ⟨rfl, rfl, rfl, rfl, fun _ => rfl⟩
theorem step_none {k : Pk} {ss : List Nm} (hd : k.down = false) (h : ¬ readyE k ss = 0) : stepC k (readyE k ss) k := by
  rcases ready_codes (ss := ss) hd with e | e | e
  · exact absurd e h
  · rw [e]; exact .inr (.inr ⟨by omega, by omega, rfl⟩)
  · rw [e]; exact .inr (.inr ⟨by omega, by omega, rfl⟩)
theorem step_sync {k : Pk} {x : Nm} (hd : k.down = false) (ho : 0 ≤ k.ops) : stepC k (syncE k x) (syncK k x) := by
  unfold syncE syncK
  have hk := keep_change k
  by_cases h : readyE k [x] = 0
  · rw [if_pos h, if_pos h]
    refine step_change hd ho (fun hc => by rw [if_pos hc]) (fun hc => ?_)
    rw [if_neg (by rw [hc]; simp)]
    exact ⟨rfl, hk.2.2.2.2 hc, hk.1, hk.2.1⟩
  · rw [if_neg h, if_neg h]
    exact step_none hd h
theorem step_delete {k : Pk} {x : Nm} (hd : k.down = false) (ho : 0 ≤ k.ops) : stepC k (syncE k x) (deleteK k x) := by
  unfold syncE deleteK
  have hk := keep_change k
  by_cases h : readyE k [x] = 0
  · rw [if_pos h, if_pos h]
    refine step_change hd ho (fun hc => by rw [if_pos hc]) (fun hc => ?_)
    rw [if_neg (by rw [hc]; simp)]
    exact ⟨rfl, hk.2.2.2.2 hc, hk.1, hk.2.1⟩
  · rw [if_neg h, if_neg h]
    exact step_none hd h
theorem step_rename {k : Pk} {x y : Nm} (hd : k.down = false) (ho : 0 ≤ k.ops) : stepC k (renameE k x y) (renameK k x y) := by
  unfold renameE renameK
  have hk := keep_change k
  by_cases h : readyE k [x, y] = 0
  · rw [if_pos h, if_pos h]
    refine step_change hd ho (fun hc => by rw [if_pos hc]) (fun hc => ?_)
    rw [if_neg (by rw [hc]; simp)]
    split
    · exact ⟨rfl, hk.2.2.2.2 hc, hk.1, hk.2.1⟩
    · exact ⟨rfl, hk.2.2.2.2 hc, hk.1, hk.2.1⟩
  · rw [if_neg h, if_neg h]
    exact step_none hd h
theorem step_append {k : Pk} {x : Nm} {b : List UInt8} (hd : k.down = false) (ho : 0 ≤ k.ops) (hr : k.room < 0) : stepC k (appendE k x b) (appendK k x b) := by
  unfold appendE appendK
  have hk := keep_change k
  have hf : fullP k b.length = false := by unfold fullP; simp; omega
  by_cases h : readyE k [x] = 0 ∨ readyE k [x] = 22
  · rw [if_pos h, if_pos h, if_neg (by rw [hf]; simp), if_neg (by rw [hf]; simp)]
    refine step_change hd ho (fun hc => by rw [if_pos hc]) (fun hc => ?_)
    rw [if_neg (by rw [hc]; simp)]
    exact ⟨rfl, hk.2.2.2.2 hc, hk.1, hk.2.1⟩
  · rw [if_neg h, if_neg h]
    exact step_none hd fun e => h (.inl e)
theorem append_down {k : Pk} {x : Nm} {b : List UInt8} (h : k.down = true) : appendE k x b = 20 ∧ appendK k x b = k := by
  have hr : readyE k [x] = 20 := by unfold readyE; rw [if_pos h]
  have hn : ¬ (readyE k [x] = 0 ∨ readyE k [x] = 22) := by rw [hr]; omega
  unfold appendE appendK
  rw [if_neg hn, if_neg hn]
  exact ⟨hr, rfl⟩
end Go.Proofs.Ytcmjoaepihbodaa
end
