/-
vdisk's Dump.
-/
import Derived.Test.YtcmjoaepihbodaaDkF
namespace Go.Proofs.Ytcmjoaepihbodaa
open Go.RowKit Go.BigFrame Go.Sort Go.Shelf Go.Lib Go.Maps
attribute [local go_sem ↓] Go.wp_at_zero Go.wp_at_succ

theorem own_blk {w : World} {base size n g : Nat} {e : TypeId} {v : Value} {xs : List Value} (h : w.ownsRow base e size v n xs) (hv : v.ownBlock = some g) : ∃ cs : Array Value, w.heap[g]? = some (.cells cs e (0, 0)) := by
  rcases h.2 with ⟨rfl, _⟩ | ⟨g', cap, cur, rfl, _, hh, _⟩
  · cases hv
  · obtain rfl : g' = g := Option.some.inj hv
    exact ⟨_, hh⟩
theorem dump_nil (w : World) : Calls Try.prog 12 #[.pointer none] w fun r w' => r = .returned (.slice none 0 0) ∧ w = w' := by
  go_enter Try.func12, Try.ntmps12
  go_wp2
  go_ret
  exact ⟨rfl, rfl⟩

set_option maxRecDepth 100000 in
set_option maxHeartbeats 4000000 in
theorem dump_any (F : Nat → Prop) (p : Nat) (k : Pk) (w : World) (h : DiskP w F p k) (hmany : k.fs.length * 48 ≤ 140737488355328) :
    Calls Try.prog 12 #[.pointer (some ⟨p, 0, none⟩)] w fun r w' => ∃ v, r = .returned v ∧ OwnFiles w' w.heap.size v k.fs ∧ Below w.heap.size w w' := by
  obtain ⟨i0, hi, hz0, hz1, hz2⟩ := info_parts infoF
  have hby := Lib.hid hz2
  have hz1' := Lib.hid hz1
  clear hz2 hz1
  obtain ⟨mb, kv, d, h, rfl⟩ := h
  have H := Lib.hid h
  have HN := Lib.hid (names_any F p mb _ d _ h (by rw [← map_len]; omega))
  rw [← map_len] at HN
  obtain ⟨n, hn⟩ : ∃ n, d.pk.fs.length = n := ⟨_, rfl⟩
  have HLN := Lib.hid hn
  rw [hn] at hmany HN
  clear h hn
  go_enter Try.func12, Try.ntmps12
  go_wp2_with (go_at_call 32; refine HN.out.mono ?_; rintro r w1 ⟨vn, rfl, hrow, hb1⟩; obtain ⟨An, cn, rfl⟩ := own_form hrow)
  have HROW := Lib.hid hrow
  have HB1 := Lib.hid hb1
  clear hrow hb1 HN
  go_loopw [3, 12] (fun v3 t wr => ∃ i : Nat, i ≤ n ∧ t = .int .i64 i ∧ OwnFiles wr w1.heap.size v3 (d.pk.fs.take i) ∧ Below w1.heap.size w1 wr) (fun _ t _ => n - (intOf t).toNat)
  case atStart => exact ⟨0, Nat.zero_le _, rfl, OwnRows.nil _ _ _, Below.refl _ _⟩
  case round =>
    obtain ⟨i, hi', rfl, hown, hbel⟩ := hrel
    obtain ⟨css, hown, hys⟩ := hown
    have HO := Lib.hid hown
    have HYS := Lib.hid hys
    have HB := Lib.hid hbel
    obtain ⟨m, hm⟩ : ∃ m, (d.pk.fs.take i).length = m := ⟨_, rfl⟩
    have hmi : m = i := by rw [← hm, List.length_take, HLN.out]; omega
    subst hmi
    rw [hm] at HO
    have HMM := Lib.hid hm
    clear hown hys hbel hm
    by_cases hin : m < n
    · obtain ⟨f0, hf0⟩ : ∃ f0, d.pk.fs[m]? = some f0 := ⟨_, List.getElem?_eq_getElem (by rw [HLN.out]; exact hin)⟩
      have hf0' : (d.ns.map Fd.fl)[m]? = some f0 := hf0
      rw [List.getElem?_map] at hf0'
      obtain ⟨f, hfn, hfl⟩ : ∃ f, d.ns[m]? = some f ∧ f.fl = f0 := by
        cases hx : d.ns[m]? with
        | none => rw [hx] at hf0'; cases hf0'
        | some f => rw [hx] at hf0'; exact ⟨f, rfl, by simpa using hf0'⟩
      subst hfl
      have hv := (H.out.below HB1.out).below HB.out
      have hf := find_mem hv.sorted (List.mem_of_getElem? hfn)
      have hrow' := own_below HROW.out HB.out
      obtain ⟨gn, cn', hE, _⟩ := own_pos hrow' (by omega)
      injection hE with e1 e2 e3
      subst e1 e3
      have hcn : wr.cell? ⟨gn, m, none⟩ = some (.string ⟨f.name.toArray⟩) := by
        rw [hrow'.cellAt m (by omega), List.getElem?_map, List.getElem?_map, hfn]
        rfl
      have hnl : f.name.length ≤ 140737488355328 := by have := nameB_len (hv.names f (find_name hf).2); omega
      obtain ⟨x0, _⟩ := hv.cell
      have hlk := hv.look f.name hnl
      rw [hf] at hlk
      unfold ptrF at hlk
      obtain ⟨y0, y1, yf, hfv⟩ := hv.file hf
      obtain ⟨Af, cf, hfs⟩ := hfv.own.form
      rw [hfs] at y0
      have HFD := Lib.hid hfv.own.byt
      rw [hfs] at HFD
      have HF0 := Lib.hid hf0
      have K0h := Lib.hid y0
      have K1h := Lib.hid y1
      have hflt : f.blk < wr.heap.size := (Array.getElem?_eq_some_iff.1 hfv.cells).1
      have HNE : Hid (¬ u3.ownBlock = some f.blk) := Lib.hid fun e => by
        obtain ⟨cs, hh⟩ := own_blk HO.out e
        exact cells_ne hfv.cells hh (by decide) rfl
      clear hv hf hfn hf0 hf0' hrow' e2 hfv hfs y0 y1
      go_wp2
      have hf0 : fr wr wr.drew := fr.refl.drew
      go_region_held3 (fun w' => w'.cell? ⟨f.blk, 0, none⟩ = some (.slice Af f.data.length cf) ∧ w'.cell? ⟨f.blk, 1, none⟩ = some (.int .i64 f.synced))
        (first
          | with_reducible exact fr.two hf0 K0h.out K1h.out
          | with_reducible exact hs3
          | with_reducible exact fr.two hf1 K0h.out K1h.out
          | with_reducible exact fr.two (fr.alloc hf1 _) K0h.out K1h.out)
        (first
          | (go_split_ands; go_at_call 30; with_reducible (refine (bcloneL_any _ (.slice Af f.data.length cf) f.data _ (fr.byt hf0 HFD.out)).mono ?_); rintro r w2 ⟨v1, rfl, hk', hb2⟩; obtain ⟨Ak', ck', rfl⟩ := slice_form hk'.byt; have hf1 := fr.step hf0 hb2)
          | (go_split_ands; refine step_append_own_at (by rfl) _ _ 22 (by rfl) w1.heap.size 37 i0 _ 3 48 Try.underlying22 hi hz0 hz1'.out hby.out rfl (by decide) _ _ _ (by rfl) ((own_below HO.out hf1).alloc _) ⟨w2.heap.size, 0, none⟩ 1 1 [.string ⟨f.name.toArray⟩, .slice Ak' f.data.length ck', .int .i64 f.synced] (by rfl) rfl (cells_new _ _ _) (by simp [Value.oneCell']) (by unfold maxLen; omega) (by omega) (by have := HB.out.size; have := Below.size hf1; simp; omega) ?_; intro v' w3 hown' hgrow hat; have hs3 := fr.grown (fr.alloc hf1 _) K0h.out K1h.out hgrow HNE.out))
      have hx : flR w2 (fun i => wr.heap.size ≤ i ∧ Loose w2 i) f.fl [.string ⟨f.name.toArray⟩, .slice Ak' f.data.length ck', .int .i64 f.synced] := ⟨_, rfl, hk', hnl⟩
      have hpush := OwnRows.push flFine (by rw [HMM.out]; exact HO.out) HYS.out hf1 hx HB.out.size hgrow hat (by rw [HMM.out]; exact hown')
      rw [← take_snoc HF0.out] at hpush
      have HPUSH := Lib.hid hpush
      have hbw : Below w1.heap.size w1 w3 := ((HB.out.trans (Below.mono hf1 HB.out.size)).alloc (by have := HB.out.size; have := Below.size hf1; omega) _).grown hgrow (by have := HB.out.size; have := Below.size hf1; simp; omega) (fun j e => (HO.out.lt j e).1)
      have HBW := Lib.hid hbw
      clear hpush hbw hown' hgrow hat hs3 hx hk' hf1 hb2
      go_wp2
      exact ⟨⟨m + 1, by omega, by go_num, HPUSH.out, HBW.out⟩, by simp [intOf]; omega⟩
    · obtain rfl : m = n := by omega
      go_wp2
      refine bodyPost_ret (v := u3) (by simp [results, Try.results12, go_sem]) rfl ?_
      have e1 : d.pk.fs.take m = d.pk.fs := List.take_of_length_le (by rw [HLN.out]; exact Nat.le_refl _)
      have hys := HYS.out
      rw [e1] at hys
      have hle := HB1.out.size
      refine ⟨u3, rfl, ⟨css, by rw [HLN.out]; exact ownsRow_base_a HO.out hle, hys.imp fun _ _ hx => flFine.keep hx fun _ _ _ _ hr => hr.mono fun i hi => ⟨Nat.le_trans hle hi.1, hi.2⟩⟩, HB1.out.trans (HB.out.mono hle)⟩
end Go.Proofs.Ytcmjoaepihbodaa
