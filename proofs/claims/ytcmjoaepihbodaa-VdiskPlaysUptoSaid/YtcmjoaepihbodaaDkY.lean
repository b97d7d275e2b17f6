/-
ref07's Copy.
-/
import Derived.Test.YtcmjoaepihbodaaDkQ
namespace Go.Proofs.Ytcmjoaepihbodaa
open Go.RowKit Go.BigFrame Go.Sort Go.Shelf Go.Lib Go.Maps
attribute [local go_sem ↓] Go.wp_at_zero Go.wp_at_succ

section
variable {W w' w2 : World} {b i j k : Nat} {x y z : Value}
theorem fr.three (h : fr W w') (c0 : W.cell? ⟨b, i, none⟩ = some x) (c1 : W.cell? ⟨b, j, none⟩ = some y) (c2 : W.cell? ⟨b, k, none⟩ = some z) :
    w'.cell? ⟨b, i, none⟩ = some x ∧ w'.cell? ⟨b, j, none⟩ = some y ∧ w'.cell? ⟨b, k, none⟩ = some z := ⟨h.cell c0, h.cell c1, h.cell c2⟩
theorem fr.threeG {g : Option Nat} (h : fr W w') (c0 : W.cell? ⟨b, i, none⟩ = some x) (c1 : W.cell? ⟨b, j, none⟩ = some y) (c2 : W.cell? ⟨b, k, none⟩ = some z) (hg : w'.grownBy w2 g) (hne : ¬ g = some b) :
    w2.cell? ⟨b, i, none⟩ = some x ∧ w2.cell? ⟨b, j, none⟩ = some y ∧ w2.cell? ⟨b, k, none⟩ = some z := by
  have l1 := World.block_lt_of_cell? W _ c0
  have hs := Below.size h
  have b1 := hg.block b (by simp at l1; omega) (fun e => hne e.symm)
  exact ⟨(World.cell?_of_block (w' := w2) (w := w') (a := ⟨b, i, none⟩) b1).trans (h.cell c0), (World.cell?_of_block (w' := w2) (w := w') (a := ⟨b, j, none⟩) b1).trans (h.cell c1), (World.cell?_of_block (w' := w2) (w := w') (a := ⟨b, k, none⟩) b1).trans (h.cell c2)⟩
end

set_option maxRecDepth 100000 in
set_option maxHeartbeats 4000000 in
theorem fcopy_any (S : Nat → Prop) (v : Value) (fs : List Fl) (w : World) (h : FilesV w S v fs) :
    Calls Try.prog 10 #[v] w fun r w' => ∃ v', r = .returned v' ∧ OwnFiles w' w.heap.size v' fs ∧ Below w.heap.size w w' := by
  obtain ⟨i0, hi, hz0, hz1, hz2⟩ := info_parts infoF
  have hby := Lib.hid hz2
  have hz1' := Lib.hid hz1
  clear hz2 hz1
  obtain ⟨A, c, rfl⟩ := h.form
  obtain ⟨n, hn⟩ : ∃ n, fs.length = n := ⟨_, rfl⟩
  have hmany : n * 48 ≤ 140737488355328 := by obtain ⟨_, _, _, _, _, _, h3, _⟩ := h; rw [← hn]; exact h3
  rw [hn] at h ⊢
  have HLN := Lib.hid hn
  have H := Lib.hid h
  clear h hn
  go_enter Try.func10, Try.ntmps10
  go_wp2
  go_loopw [3, 7] (fun v3 t wr => ∃ i : Nat, i ≤ n ∧ t = .int .i64 i ∧ OwnFiles wr w.heap.size v3 (fs.take i) ∧ Below w.heap.size w wr) (fun _ t _ => n - (intOf t).toNat)
  case atStart => exact ⟨0, Nat.zero_le _, rfl, OwnRows.nil _ _ _, Below.refl _ _⟩
  case round =>
    obtain ⟨i, hi', rfl, hown, hbel⟩ := hrel
    obtain ⟨css, hown, hys⟩ := hown
    have HO := Lib.hid hown
    have HYS := Lib.hid hys
    have HB := Lib.hid hbel
    obtain ⟨m, hm⟩ : ∃ m, (fs.take i).length = m := ⟨_, rfl⟩
    have hmi : m = i := by rw [← hm, List.length_take, HLN.out]; omega
    subst hmi
    rw [hm] at HO
    have HMM := Lib.hid hm
    clear hown hys hbel hm
    by_cases hin : m < n
    · obtain ⟨f, hf⟩ : ∃ f, fs[m]? = some f := ⟨_, List.getElem?_eq_getElem (by rw [HLN.out]; exact hin)⟩
      obtain ⟨b, o, cs, rfl, hblt, _, ⟨vd, rfl, hvd, hnl⟩, hc⟩ := Rows.at_ flFine H.out hf
      obtain ⟨Ad, cd, rfl⟩ := slice_form hvd
      have HVD := Lib.hid (hvd.below HB.out)
      have x0 : w.cell? ⟨b, o + m * 3, none⟩ = _ := hc 0 _ rfl
      have x1 : w.cell? ⟨b, o + m * 3 + 1, none⟩ = _ := hc 1 _ rfl
      have x2 : w.cell? ⟨b, o + m * 3 + 2, none⟩ = _ := hc 2 _ rfl
      have c0 := fr.cell HB.out x0
      have c1 := fr.cell HB.out x1
      have c2 := fr.cell HB.out x2
      have HF0 := Lib.hid hf
      have HNE : Hid (¬ u3.ownBlock = some b) := Lib.hid fun e => by have := (HO.out.lt b e).1; omega
      have hm2 : m + 1 ≤ maxLen := by unfold maxLen; omega
      have hm3 : (m + 1) * 48 ≤ 140737488355328 := by omega
      have hbz := HB.out.size
      clear hf hvd hc x0 x1 x2
      go_wp2
      have hf0 : fr wr wr.drew := fr.refl.drew
      have hfa : fr wr (wr.drew.alloc (.cells #[] 5)) := hf0.alloc _
      go_region_held3 (fun w' => w'.cell? ⟨b, o + m * 3, none⟩ = some (.string ⟨f.name.toArray⟩) ∧ w'.cell? ⟨b, o + m * 3 + 1, none⟩ = some (.slice Ad f.data.length cd) ∧ w'.cell? ⟨b, o + m * 3 + 2, none⟩ = some (.int .i64 f.synced))
        (first
          | with_reducible exact fr.three hf0 c0 c1 c2
          | with_reducible exact fr.three hfa c0 c1 c2
          | with_reducible exact hs3
          | with_reducible exact fr.three hf1 c0 c1 c2
          | with_reducible exact fr.three (fr.alloc hf1 _) c0 c1 c2)
        (first
          | (go_split_ands; refine step_append_byt0L (by rfl) _ _ (by rfl) _ (.slice Ad f.data.length cd) (by rfl) (by rfl) S f.data (fr.byt hfa HVD.out) ?_; intro v5 w2 hv5 hb2; obtain ⟨Ak', ck', rfl⟩ := slice_form hv5.byt; have hf1 := fr.step hfa hb2)
          | (go_split_ands; refine step_append_own_at (by rfl) _ _ 22 (by rfl) w.heap.size 37 i0 _ 3 48 Try.underlying22 hi hz0 hz1'.out hby.out rfl (by decide) _ _ _ (by rfl) ((own_below HO.out hf1).alloc _) ⟨w2.heap.size, 0, none⟩ 1 1 [.string ⟨f.name.toArray⟩, .slice Ak' f.data.length ck', .int .i64 f.synced] (by rfl) rfl (cells_new _ _ _) (by simp [Value.oneCell']) hm2 hm3 (by have := Below.size hf1; simp; omega) ?_; intro v' w3 hown' hgrow hat; have hs3 := fr.threeG (fr.alloc hf1 _) c0 c1 c2 hgrow HNE.out))
      have hx : flR w2 (fun i => wr.heap.size ≤ i ∧ Loose w2 i) f [.string ⟨f.name.toArray⟩, .slice Ak' f.data.length ck', .int .i64 f.synced] := ⟨_, rfl, Byt.mono (S := fun i => (wr.drew.alloc (.cells #[] 5)).heap.size ≤ i ∧ Loose w2 i) hv5 fun i hi => ⟨Nat.le_trans (Below.size hfa) hi.1, hi.2⟩, hnl⟩
      have hpush := OwnRows.push flFine (by rw [HMM.out]; exact HO.out) HYS.out hf1 hx HB.out.size hgrow hat (by rw [HMM.out]; exact hown')
      rw [← take_snoc HF0.out] at hpush
      have HPUSH := Lib.hid hpush
      have hbw : Below w.heap.size w w3 := ((HB.out.trans (Below.mono hf1 HB.out.size)).alloc (by have := Below.size hf1; omega) _).grown hgrow (by have := Below.size hf1; simp; omega) (fun j e => (HO.out.lt j e).1)
      have HBW := Lib.hid hbw
      clear hpush hbw hown' hgrow hat hs3 hx hv5 hf1 hb2
      go_wp2
      exact ⟨⟨m + 1, by omega, by go_num, HPUSH.out, HBW.out⟩, by simp [intOf]; omega⟩
    · obtain rfl : m = n := by omega
      go_wp2
      refine bodyPost_ret (v := u3) (by simp [results, Try.results10, go_sem]) rfl ?_
      have e1 : fs.take m = fs := List.take_of_length_le (by rw [HLN.out]; exact Nat.le_refl _)
      have hys := HYS.out
      rw [e1] at hys
      exact ⟨u3, rfl, ⟨css, by rw [HLN.out]; exact HO.out, hys⟩, HB.out⟩
end Go.Proofs.Ytcmjoaepihbodaa
