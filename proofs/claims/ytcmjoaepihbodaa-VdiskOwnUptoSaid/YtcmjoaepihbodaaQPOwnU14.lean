/-
vdisk's disk and ref07's, side by side in memory.
-/
import Derived.Test.YtcmjoaepihbodaaQPOwnU13
import Derived.Test.YtcmjoaepihbodaaQPOwnU12
section
namespace Go.Proofs.Ytcmjoaepihbodaa
open Go.RowKit Go.BigFrame
attribute [local go_sem ↓] Go.wp_at_zero Go.wp_at_succ
theorem delP_none {x : Nm} {fs : List Fl} (h : findP x fs = none) : delP x fs = fs := by
  have h' := findP_none h
  clear h
  induction fs with
  | nil => rfl
  | cons a l ih => rw [delP, if_neg (h' a List.mem_cons_self), ih fun g hg => h' g (List.mem_cons_of_mem _ hg)]
/-- the file that is renamed lies in a variable at P. -/
structure RenV (w : World) (base : Nat) (D : Nat → Prop) (r : Nat) (kv : Value) (k : Pk) (n P : Nat) (f : Fl) (Af : Option Addr) (df : Nat) (fs : List Fl) (W : World) : Prop where
  ref : ∃ v, RefV W base (orNew D n) r v kv { k with fs := fs }
  var : W.heap[P]? = some (.cells #[.string ⟨f.name.toArray⟩, .slice Af f.data.length df, .int .i64 f.synced] 37 (0, 0))
  byt : Byt W (fun i => orNew D n i ∧ i ≠ r) (.slice Af f.data.length df) f.data
  only : Only (orNew (Own D base) n) w W
  size : n ≤ W.heap.size
  new : n ≤ P
section
variable {w W w3 : World} {base r n P df : Nat} {D : Nat → Prop} {kv v3 : Value} {k : Pk} {f : Fl} {Af : Option Addr} {fs fs2 : List Fl}
theorem RenV.step (h : RenV w base D r kv k n P f Af df fs W) (hr : r < n) (hb : Below W.heap.size W w3) (hrow : RowF w3 W.heap.size (fun i => (orNew D n i ∧ i ≠ r) ∧ i < W.heap.size) v3 fs2) :
    RenV w base D r kv k n P f Af df fs2 (w3.setCell ⟨r, 0, none⟩ v3) := by
  obtain ⟨v, hv⟩ := h.ref
  obtain ⟨h1, h2⟩ := hv.reset hb h.size hrow
  have hP := (Array.getElem?_eq_some_iff.1 h.var).1
  have hnew := h.new
  have hs : Only (fun i => i = r) W (w3.setCell ⟨r, 0, none⟩ v3) := (Only.of_below (S := fun i => i = r) hb).setCell (p := ⟨r, 0, none⟩) rfl _
  refine ⟨⟨v3, h1.mono fun i _ hi => ?_⟩, (hs.block P hP (by omega)).trans h.var, h.byt.only hs fun i _ hi e => hi.2 e, h.only.trans (h2.mono fun i hi => ?_), Nat.le_trans h.size hs.size, h.new⟩
  · rcases hi with hi | hi
    · exact hi
    · exact .inr hi
  · rcases hi with ⟨hi, hb⟩ | hi
    · exact hi.imp (fun h => ⟨h, hb⟩) id
    · exact .inr hi
end
set_option maxRecDepth 100000 in
set_option maxHeartbeats 8000000 in
theorem rrename_any (base : Nat) (D : Nat → Prop) (r : Nat) (k : Pk) (x y : Nm) (w : World) (h : RefP w base D r k) (hx : x.length ≤ 140737488355328) (hy : y.length ≤ 140737488355328) (hs : sortedP k.fs) (hm : k.fs.length * 48 ≤ 140737488355328) (hd0 : 0 ≤ k.done) (hd1 : k.done < 4611686018427387904) :
    Calls Try.prog 41 #[.pointer (some ⟨r, 0, none⟩), .string ⟨x.toArray⟩, .string ⟨y.toArray⟩] w fun e w' => e = .returned (.int .i64 (renameE k x y)) ∧ RefP w' base (orNew D w.heap.size) r (renameK k x y) ∧ Only (Own D base) w w' := by
  obtain ⟨v, kv, h⟩ := h
  have HNM := Lib.hid (rnamed_any base D r v kv k x y w h hm hx hy)
  have HC := Lib.hid (rchange_any base D r v kv k w h hd0 hd1)
  have H := Lib.hid h
  have hrD : Own D base r := ⟨h.inD, h.lo⟩
  have HRD := Lib.hid hrD
  have hrn := h.ltR
  obtain ⟨e0, he⟩ : ∃ e, renameE k x y = e := ⟨_, rfl⟩
  obtain ⟨k', hk'⟩ : ∃ k', renameK k x y = k' := ⟨_, rfl⟩
  rw [he, hk']
  unfold renameE at he
  unfold renameK at hk'
  obtain ⟨e, hre⟩ : ∃ e, readyE k [x, y] = e := ⟨_, rfl⟩
  rw [hre] at HNM he hk'
  clear h hrD
  by_cases h0 : e = 0
  · subst h0
    rw [if_pos rfl] at he hk'
    cases hcr : crashes k with
    | true =>
      have hce : changeE k = 20 := by rw [changeE, hcr]; rfl
      rw [hce] at HC he
      rw [hcr, if_pos rfl] at hk'
      subst he hk'
      clear hcr hce hre
      go_enter Try.func41, Try.ntmps41
      go_wp2_with (first
        | (go_at_call 54; refine HNM.out.mono ?_; rintro r1 w1 ⟨rfl, rfl⟩)
        | (go_at_call 39; refine HC.out.mono ?_; rintro r1 w1 ⟨rfl, hv1, ho1⟩))
      refine bodyPost_ret (v := .int .i64 20) (by simp [results, Try.results41, go_sem]) rfl ?_
      exact ⟨rfl, ⟨_, _, hv1.mono fun i _ hi => .inl hi⟩, ho1.mono fun i hi => by rw [hi]; exact HRD.out⟩
    | false =>
      have hce : changeE k = 0 := by rw [changeE, hcr]; rfl
      rw [hce] at HC he
      rw [hcr, if_neg (by simp)] at hk'
      subst he
      cases hxy : x == y with
      | true =>
        have hxe : x = y := by simpa using hxy
        rw [if_pos hxe] at hk'
        subst hk'
        have g1 : (x != y) = false := by simpa using hxe
        clear hcr hce hre hxe
        go_enter Try.func41, Try.ntmps41
        go_wp2_with (first
          | (go_at_call 54; refine HNM.out.mono ?_; rintro r1 w1 ⟨rfl, rfl⟩)
          | (go_at_call 39; refine HC.out.mono ?_; rintro r1 w1 ⟨rfl, hv1, ho1⟩))
        refine bodyPost_ret (v := .int .i64 0) (by simp [results, Try.results41, go_sem]) rfl ?_
        exact ⟨rfl, ⟨_, _, hv1.mono fun i _ hi => .inl hi⟩, ho1.mono fun i hi => by rw [hi]; exact HRD.out⟩
      | false =>
        have hxe : ¬ x = y := by simpa using hxy
        rw [if_neg hxe] at hk'
        have g1 : (x != y) = true := by simpa using hxe
        have hcf : (changeK k).fs = k.fs := (change_same k).1
        obtain ⟨j, f, hj1, hj2, hj3, hj4, hj5⟩ := ready_at hre
        have hde : delP x k.fs = k.fs.eraseIdx j := erase_delP hs hj1
        have hsd : sortedP (k.fs.eraseIdx j) := by rw [← hde]; exact srt_del hs
        obtain ⟨k1, hk1⟩ : ∃ k1, changeK k = k1 := ⟨_, rfl⟩
        rw [hk1] at HC hcf hk'
        obtain ⟨f', hf'⟩ : ∃ f' : Fl, f' = { f with name := y } := ⟨_, rfl⟩
        have hren : renFs x y k.fs = insI f' (delP y (k.fs.eraseIdx j)) := by
          unfold renFs
          rw [hj3, hde, hf']
          exact insP_del (f := { f with name := y }) hsd
        have hk2 : k'.fs = insI f' (delP y (k1.fs.eraseIdx j)) ∧ k'.ops = k1.ops ∧ k'.room = k1.room ∧ k'.keep = k1.keep ∧ k'.done = k1.done ∧ k'.down = k1.down := by
          rw [← hk']
          exact ⟨by rw [hcf]; exact hren, rfl, rfl, rfl, rfl, rfl⟩
        rw [← hcf] at hj2 hj4 hm hsd
        have HI1 := Lib.hid hj2
        have HJ := Lib.hid hj4
        have HK := Lib.hid hk2
        have HF' := Lib.hid hf'
        have HSD := Lib.hid hsd
        clear hcr hce hre hk1 hj1 hj2 hj3 hj4 hj5 hcf hk' hk2 hde hren hsd hxe
        go_enter Try.func41, Try.ntmps41
        go_upto_region 5 with (first
          | (go_at_call 54; refine HNM.out.mono ?_; rintro r1 w1 ⟨rfl, rfl⟩)
          | (go_at_call 39; refine HC.out.mono ?_; rintro r1 w1 ⟨rfl, hv1, ho1⟩; have HV1 := Lib.hid hv1; have HO1 := Lib.hid ho1; clear hv1 ho1))
        obtain ⟨g, cg, Af, df, hVe, hgl, hgb, hgD, hgr, hbyt, hfnl, x0, x1, x2, xf⟩ := RefV.file HV1.out hm HJ.out
        subst hVe
        obtain ⟨y0, _⟩ := HV1.out.cell
        have jn : j < k1.fs.length := (List.getElem?_eq_some_iff.1 HJ.out).1
        have HBY := Lib.hid hbyt
        have HFI := Lib.hid (HV1.out.files hm)
        have hz1 : w.heap.size ≤ w1.heap.size := HO1.out.size
        clear hbyt xf
        have hf0 : fr w1 w1.drew := fr.refl.drew
        have hfa : fr w1 (w1.alloc (.cells #[.string ⟨#[]⟩, .slice none 0 0, .int .i64 0] 37)).drew := (fr.refl.alloc _).drew
        have HF1 := Lib.hid (find_any (fun i => D i ∧ i ≠ r) r _ k1.fs x w1.drew (hf0.cell y0) (HFI.out.below flFine hf0))
        have HF2 := Lib.hid (find_any (fun i => D i ∧ i ≠ r) r _ k1.fs x (w1.alloc (.cells #[.string ⟨#[]⟩, .slice none 0 0, .int .i64 0] 37)).drew (hfa.cell y0) (HFI.out.below flFine hfa))
        rw [HI1.out] at HF1 HF2
        have n1 := World.new_ne w1 _ y0
        have n2 := World.new_ne w1 _ x1
        simp only at n1 n2
        have m1 : r < w1.heap.size := World.block_lt_of_cell? w1 _ y0
        go_cut [8] (fun t wc => ∃ P, t = .pointer (some ⟨P, 0, none⟩) ∧ w1.heap.size ≤ P ∧ wc.heap[P]? = some (.cells #[.string ⟨f.name.toArray⟩, .slice Af f.data.length df, .int .i64 f.synced] 37 (0, 0)) ∧ Below w1.heap.size w1 wc)
        case first =>
          go_region_law (first
            | (go_simp; go_at_call 37; (with_reducible (refine HF1.out.mono ?_)); rintro e w'' ⟨rfl, rfl⟩)
            | (go_simp; go_at_call 37; (with_reducible (refine HF2.out.mono ?_)); rintro e w'' ⟨rfl, rfl⟩))
          all_goals
            go_wp2_with fail
            go_meet
            case rel => exact ⟨_, rfl, Nat.le_refl _, heap_alloc_new w1 _, ((Below.refl _ _).alloc (Nat.le_refl _) _).drew⟩
        case rest =>
          obtain ⟨P, rfl, hP, hvar, hbc⟩ := hcut
          have hPl := (Array.getElem?_eq_some_iff.1 hvar).1
          have q0 : wc.cell? ⟨P, 0, none⟩ = some (.string ⟨f.name.toArray⟩) := cell_of_row wc P 0 _ _ _ hvar
          have qf : wc.frozen? ⟨P, 0, none⟩ = false := frozen_of_row wc P 0 _ _ hvar
          have HVAR := Lib.hid hvar
          have HBC := Lib.hid hbc
          clear hvar hbc x0 x1 x2 n1 n2 HF1 HF2 hf0 hfa
          go_upto_region 7 with (fail)
          obtain ⟨W6, hW6⟩ : ∃ W6, W6 = wc.setCell ⟨P, 0, none⟩ (.string ⟨y.toArray⟩) := ⟨_, rfl⟩
          rw [← hW6]
          have hv6 : W6.heap[P]? = some (.cells #[.string ⟨y.toArray⟩, .slice Af f.data.length df, .int .i64 f.synced] 37 (0, 0)) := by rw [hW6]; exact heap_setCell_same wc P 0 _ _ (.string ⟨y.toArray⟩) HVAR.out
          have ho6 : Only (fun i => i = P) wc W6 := by rw [hW6]; exact only_set wc P 0 _
          have hb6 : Below w1.heap.size w1 W6 := HBC.out.trans (ho6.below HBC.out.size fun i hi => by omega)
          have h7 : RenV w base D r kv k1 w.heap.size P f' Af df k1.fs W6 := by
            refine ⟨⟨_, (HV1.out.below hb6).mono fun i _ hi => .inl hi⟩, ?_, ?_, (HO1.out.mono fun i hi => .inl (by rw [hi]; exact HRD.out)).trans (Only.of_below hb6), Nat.le_trans hz1 hb6.size, Nat.le_trans hz1 hP⟩
            · rw [HF'.out]; exact hv6
            · rw [HF'.out]; exact (HBY.out.below hb6).mono fun i hi => ⟨.inl hi.1, hi.2.1⟩
          have H7 := Lib.hid h7
          have hnl : f'.name.length ≤ 140737488355328 := by rw [HF'.out]; exact hy
          have hle : (k1.fs.eraseIdx j).length + 1 ≤ k1.fs.length := by rw [List.length_eraseIdx, if_pos jn]; omega
          have hm7 : (k1.fs.eraseIdx j).length * 48 ≤ 140737488355328 := by omega
          clear hW6 hv6 ho6 hb6 h7 q0 qf y0 hf'
          obtain ⟨vW6, hvW6⟩ := H7.out.ref
          have hdW6 := hvW6.below (w' := W6.drew) fr.refl.drew
          have HVDW6 := Lib.hid hdW6
          obtain ⟨yW6, _⟩ := hdW6.cell
          have zfdW6 : ∀ q, Below W6.drew.heap.size W6.drew q → q.frozen? ⟨r, 0, none⟩ = false := fun q hb => (HVDW6.out.below hb).frozen 0
          have HFDW6 := Lib.hid (find_any _ r _ _ x W6.drew yW6 (hdW6.files hm))
          simp only at HFDW6
          rw [HI1.out] at HFDW6
          have HWOW6 := Lib.hid (without_any _ _ _ j W6.drew (hdW6.files hm))
          simp only at HWOW6
          clear hdW6 hvW6
          go_cut [] (fun wc => RenV w base D r kv k1 w.heap.size P f' Af df (k1.fs.eraseIdx j) wc)
          case first =>
            go_region_with (first
              | (go_at_call 37; refine HFDW6.out.mono ?_; rintro r2 w2 ⟨rfl, rfl⟩)
              | (go_at_call 55; refine HWOW6.out.mono ?_; rintro r2 w2 ⟨v2, rfl, hrow, hb2⟩; obtain ⟨A2, c2', rfl⟩ := hrow.form; have y1 := fr.cell hb2 yW6; have HR2 := Lib.hid hrow; have HB2 := Lib.hid hb2; have z0 := zfdW6 _ hb2; clear hrow hb2))
            all_goals
              go_wp2_with fail
              go_meet
              case rel => exact H7.out.step hrn (undrew HB2.out) HR2.out
          case rest =>
            obtain ⟨W7, hW7⟩ : ∃ W7, W7 = wc := ⟨_, rfl⟩
            rw [← hW7] at hcut ⊢
            have H8 := Lib.hid hcut
            clear hW7 hcut zfdW6 yW6
            obtain ⟨fs7, hfs7⟩ : ∃ fs7, k1.fs.eraseIdx j = fs7 := ⟨_, rfl⟩
            rw [hfs7] at H8 HSD HK hm7 hle
            obtain ⟨v8, hv8⟩ := H8.out.ref
            obtain ⟨y8, _⟩ := hv8.cell
            have HFD8 := Lib.hid (find_any _ r _ _ y W7 y8 (hv8.files hm7))
            simp only at HFD8
            clear hv8 hfs7
            rcases idxP_find (x := y) (fs := fs7) with ⟨hi1, hi2⟩ | ⟨j2, f2, hi1, hi2, _, _⟩
            · have hidx : idxI y fs7 = -1 := by unfold idxI; rw [hi1]
              rw [hidx] at HFD8
              have HDE := Lib.hid (delP_none hi2)
              have hmz : fs7.length * 48 ≤ 140737488355328 ∧ (fs7.length + 1) * 48 ≤ 140737488355328 := ⟨by omega, by omega⟩
              clear hidx hi1 hi2
              go_upto_region 10 with (go_at_call 37; refine HFD8.out.mono ?_; rintro r2 w2 ⟨rfl, rfl⟩)
              obtain ⟨vz, hvz⟩ := H8.out.ref
              have hdz := hvz.below (w' := W7.drew) fr.refl.drew
              have HVDz := Lib.hid hdz
              obtain ⟨yz, _⟩ := hdz.cell
              have zfz : ∀ q, Below W7.drew.heap.size W7.drew q → q.frozen? ⟨r, 0, none⟩ = false := fun q hb => (HVDz.out.below hb).frozen 0
              have hvar := H8.out.var
              have q0 : W7.drew.cell? ⟨P, 0, none⟩ = some (.string ⟨f'.name.toArray⟩) := cell_of_row W7 P 0 _ _ _ hvar
              have q1 : W7.drew.cell? ⟨P, 1, none⟩ = some (.slice Af f'.data.length df) := cell_of_row W7 P 1 _ _ _ hvar
              have q2 : W7.drew.cell? ⟨P, 2, none⟩ = some (.int .i64 f'.synced) := cell_of_row W7 P 2 _ _ _ hvar
              have HIN := Lib.hid (insert_any _ _ _ f' Af df W7.drew (hdz.files hmz.1) (H8.out.byt.below fr.refl.drew) hnl hmz.2)
              simp only at HIN
              clear hdz hvz hvar
              go_region_with (first
                | (go_at_call 38; refine HIN.out.mono ?_; rintro r2 w2 ⟨v2, rfl, hrow, hb2⟩; obtain ⟨A2, c2', rfl⟩ := hrow.form; have y1 := fr.cell hb2 yz; have HR2 := Lib.hid hrow; have HB2 := Lib.hid hb2; have z0 := zfz _ hb2; clear hrow hb2))
              all_goals
                go_wp2
                refine bodyPost_ret (v := .int .i64 0) (by simp [results, Try.results41, go_sem]) rfl ?_
                have hfin := H8.out.step hrn (undrew HB2.out) HR2.out
                obtain ⟨vf, hvf⟩ := hfin.ref
                obtain ⟨t1, t2, t3, t4, t5, t6⟩ := HK.out
                exact ⟨rfl, ⟨_, _, RefV.same (k' := k') hvf (by rw [t1, HDE.out]) t2 t3 t4 t5 t6⟩, Only.new hfin.only⟩
            · have hidx : idxI y fs7 = (j2 : Int) := by unfold idxI; rw [hi1]
              rw [hidx] at HFD8
              have HI2 := Lib.hid hidx
              have HDE := Lib.hid (erase_delP HSD.out hi1)
              have hle2 : (fs7.eraseIdx j2).length ≤ fs7.length := by rw [List.length_eraseIdx]; split <;> omega
              have hmz : (fs7.eraseIdx j2).length * 48 ≤ 140737488355328 ∧ ((fs7.eraseIdx j2).length + 1) * 48 ≤ 140737488355328 := ⟨by omega, by omega⟩
              clear hidx hi1 hi2
              go_upto_if 49 with (go_at_call 37; refine HFD8.out.mono ?_; rintro r2 w2 ⟨rfl, rfl⟩)
              obtain ⟨vW7, hvW7⟩ := H8.out.ref
              have hdW7 := hvW7.below (w' := W7.drew) fr.refl.drew
              have HVDW7 := Lib.hid hdW7
              obtain ⟨yW7, _⟩ := hdW7.cell
              have zfdW7 : ∀ q, Below W7.drew.heap.size W7.drew q → q.frozen? ⟨r, 0, none⟩ = false := fun q hb => (HVDW7.out.below hb).frozen 0
              have HFDW7 := Lib.hid (find_any _ r _ _ y W7.drew yW7 (hdW7.files hm7))
              simp only at HFDW7
              rw [HI2.out] at HFDW7
              have HWOW7 := Lib.hid (without_any _ _ _ j2 W7.drew (hdW7.files hm7))
              simp only at HWOW7
              clear hdW7 hvW7
              go_cut [] (fun wc => RenV w base D r kv k1 w.heap.size P f' Af df (fs7.eraseIdx j2) wc)
              case first =>
                go_upto_region 9 with (fail)
                go_region_with (first
                  | (go_at_call 37; refine HFDW7.out.mono ?_; rintro r2 w2 ⟨rfl, rfl⟩)
                  | (go_at_call 55; refine HWOW7.out.mono ?_; rintro r2 w2 ⟨v2, rfl, hrow, hb2⟩; obtain ⟨A2, c2', rfl⟩ := hrow.form; have y1 := fr.cell hb2 yW7; have HR2 := Lib.hid hrow; have HB2 := Lib.hid hb2; have z0 := zfdW7 _ hb2; clear hrow hb2))
                all_goals
                  go_wp2_with fail
                  go_meet
                  case rel => exact H8.out.step hrn (undrew HB2.out) HR2.out
              case rest =>
                obtain ⟨W9, hW9⟩ : ∃ W9, W9 = wc := ⟨_, rfl⟩
                rw [← hW9] at hcut ⊢
                have H9 := Lib.hid hcut
                clear hW9 hcut zfdW7 yW7
                go_upto_region 10 with (fail)
                obtain ⟨vz, hvz⟩ := H9.out.ref
                have hdz := hvz.below (w' := W9.drew) fr.refl.drew
                have HVDz := Lib.hid hdz
                obtain ⟨yz, _⟩ := hdz.cell
                have zfz : ∀ q, Below W9.drew.heap.size W9.drew q → q.frozen? ⟨r, 0, none⟩ = false := fun q hb => (HVDz.out.below hb).frozen 0
                have hvar := H9.out.var
                have q0 : W9.drew.cell? ⟨P, 0, none⟩ = some (.string ⟨f'.name.toArray⟩) := cell_of_row W9 P 0 _ _ _ hvar
                have q1 : W9.drew.cell? ⟨P, 1, none⟩ = some (.slice Af f'.data.length df) := cell_of_row W9 P 1 _ _ _ hvar
                have q2 : W9.drew.cell? ⟨P, 2, none⟩ = some (.int .i64 f'.synced) := cell_of_row W9 P 2 _ _ _ hvar
                have HIN := Lib.hid (insert_any _ _ _ f' Af df W9.drew (hdz.files hmz.1) (H9.out.byt.below fr.refl.drew) hnl hmz.2)
                simp only at HIN
                clear hdz hvz hvar
                go_region_with (first
                  | (go_at_call 38; refine HIN.out.mono ?_; rintro r2 w2 ⟨v2, rfl, hrow, hb2⟩; obtain ⟨A2, c2', rfl⟩ := hrow.form; have y1 := fr.cell hb2 yz; have HR2 := Lib.hid hrow; have HB2 := Lib.hid hb2; have z0 := zfz _ hb2; clear hrow hb2))
                all_goals
                  go_wp2
                  refine bodyPost_ret (v := .int .i64 0) (by simp [results, Try.results41, go_sem]) rfl ?_
                  have hfin := H9.out.step hrn (undrew HB2.out) HR2.out
                  obtain ⟨vf, hvf⟩ := hfin.ref
                  obtain ⟨t1, t2, t3, t4, t5, t6⟩ := HK.out
                  exact ⟨rfl, ⟨_, _, RefV.same (k' := k') hvf (by rw [t1, HDE.out]) t2 t3 t4 t5 t6⟩, Only.new hfin.only⟩
  · rw [if_neg h0] at he hk'
    subst he hk'
    have hne : (e == 0) = false := by simpa using h0
    clear hre h0
    go_enter Try.func41, Try.ntmps41
    go_wp2_with (go_at_call 54; refine HNM.out.mono ?_; rintro r1 w1 ⟨rfl, rfl⟩)
    refine bodyPost_ret (v := .int .i64 e) (by simp [results, Try.results41, go_sem]) rfl ?_
    exact ⟨rfl, ⟨_, _, H.out.mono fun i _ hi => .inl hi⟩, Only.refl _ _⟩
end Go.Proofs.Ytcmjoaepihbodaa
end
section
namespace Go.Proofs.Ytcmjoaepihbodaa
open Go.RowKit Go.BigFrame
/-- the two disks, in blocks from 'base' on, apart, and apart from the blocks of X. -/
def J2 (w : World) (base : Nat) (X : Nat → Prop) (p r : Nat) (k1 k2 : Pk) : Prop :=
  base ≤ w.heap.size ∧ (∀ i, X i → base ≤ i ∧ i < w.heap.size) ∧ ∃ F D, DiskP w F p k1 ∧ RefP w base D r k2 ∧ (∀ i, F i → base ≤ i ∧ i < w.heap.size ∧ ¬ X i) ∧ (∀ i, D i → i < w.heap.size ∧ ¬ X i) ∧ ∀ i, F i → ¬ D i
/-- what a call at one of them may write to. -/
abbrev Wr (base : Nat) (X : Nat → Prop) (i : Nat) : Prop := base ≤ i ∧ ¬ X i
section
variable {w w' : World} {base p r : Nat} {X : Nat → Prop} {k1 k2 k' : Pk}
theorem J2.below (h : J2 w base X p r k1 k2) (hb : Below w.heap.size w w') : J2 w' base X p r k1 k2 := by
  obtain ⟨h1, h2, F, D, h3, h4, h5, h6, h7⟩ := h
  have hz := hb.size
  exact ⟨Nat.le_trans h1 hz, fun i hi => ⟨(h2 i hi).1, Nat.lt_of_lt_of_le (h2 i hi).2 hz⟩, F, D, h3.below hb, h4.below hb, fun i hi => ⟨(h5 i hi).1, Nat.lt_of_lt_of_le (h5 i hi).2.1 hz, (h5 i hi).2.2⟩, fun i hi => ⟨Nat.lt_of_lt_of_le (h6 i hi).1 hz, (h6 i hi).2⟩, h7⟩
theorem J2.guard {Y : Nat → Prop} (h : J2 w base (fun _ => False) p r k1 k2) (hb : Below w.heap.size w w') (hY : ∀ i, Y i → w.heap.size ≤ i ∧ i < w'.heap.size) : J2 w' base Y p r k1 k2 := by
  obtain ⟨h1, h2, F, D, h3, h4, h5, h6, h7⟩ := h
  have hz := hb.size
  exact ⟨Nat.le_trans h1 hz, fun i hi => ⟨Nat.le_trans h1 (hY i hi).1, (hY i hi).2⟩, F, D, h3.below hb, h4.below hb, fun i hi => ⟨(h5 i hi).1, Nat.lt_of_lt_of_le (h5 i hi).2.1 hz, fun hy => by have := (hY i hy).1; have := (h5 i hi).2.1; omega⟩, fun i hi => ⟨Nat.lt_of_lt_of_le (h6 i hi).1 hz, fun hy => by have := (hY i hy).1; have := (h6 i hi).1; omega⟩, h7⟩
theorem J2.free (h : J2 w base X p r k1 k2) : J2 w base (fun _ => False) p r k1 k2 := by
  obtain ⟨h1, h2, F, D, h3, h4, h5, h6, h7⟩ := h
  exact ⟨h1, fun _ h => h.elim, F, D, h3, h4, fun i hi => ⟨(h5 i hi).1, (h5 i hi).2.1, fun h => h⟩, fun i hi => ⟨(h6 i hi).1, fun h => h⟩, h7⟩
/-- behind a call at vdisk's disk. -/
theorem J2.dmove {F D : Nat → Prop} (h1 : base ≤ w.heap.size) (h2 : ∀ i, X i → base ≤ i ∧ i < w.heap.size) (h4 : RefP w base D r k2) (h5 : ∀ i, F i → base ≤ i ∧ i < w.heap.size ∧ ¬ X i) (h6 : ∀ i, D i → i < w.heap.size ∧ ¬ X i) (h7 : ∀ i, F i → ¬ D i)
    (hd : DiskP w' (orNew F w.heap.size) p k') (ho : Only F w w') : J2 w' base X p r k' k2 ∧ Only (Wr base X) w w' := by
  have hz := ho.size
  refine ⟨⟨Nat.le_trans h1 hz, fun i hi => ⟨(h2 i hi).1, Nat.lt_of_lt_of_le (h2 i hi).2 hz⟩, fun i => orNew F w.heap.size i ∧ i < w'.heap.size, D, hd.mono fun i hi hl => ⟨hi, hl⟩, h4.only ho fun i hi hd => h7 i hi hd, fun i hi => ?_, fun i hi => ⟨Nat.lt_of_lt_of_le (h6 i hi).1 hz, (h6 i hi).2⟩, fun i hi hd => ?_⟩, ho.mono fun i hi => ⟨(h5 i hi).1, (h5 i hi).2.2⟩⟩
  · rcases hi.1 with h | h
    · exact ⟨(h5 i h).1, hi.2, (h5 i h).2.2⟩
    · exact ⟨Nat.le_trans h1 h, hi.2, fun hx => by have := (h2 i hx).2; omega⟩
  · rcases hi.1 with h | h
    · exact h7 i h hd
    · have := (h6 i hd).1; omega
/-- behind a call at ref07's disk. -/
theorem J2.rmove {F D D' : Nat → Prop} (h1 : base ≤ w.heap.size) (h2 : ∀ i, X i → base ≤ i ∧ i < w.heap.size) (h3 : DiskP w F p k1) (h5 : ∀ i, F i → base ≤ i ∧ i < w.heap.size ∧ ¬ X i) (h6 : ∀ i, D i → i < w.heap.size ∧ ¬ X i) (h7 : ∀ i, F i → ¬ D i)
    (hD' : ∀ i, D' i → D i ∨ i < base) (hr : RefP w' base (orNew D' w.heap.size) r k') (ho : Only (Own D base) w w') : J2 w' base X p r k1 k' ∧ Only (Wr base X) w w' := by
  have hz := ho.size
  refine ⟨⟨Nat.le_trans h1 hz, fun i hi => ⟨(h2 i hi).1, Nat.lt_of_lt_of_le (h2 i hi).2 hz⟩, F, fun i => orNew D' w.heap.size i ∧ i < w'.heap.size, h3.only ho fun i hi hf => h7 i hf hi.1, hr.mono fun i hl hi => ⟨hi, hl⟩, fun i hi => ⟨(h5 i hi).1, Nat.lt_of_lt_of_le (h5 i hi).2.1 hz, (h5 i hi).2.2⟩, fun i hi => ?_, fun i hi hd => ?_⟩, ho.mono fun i hi => ⟨hi.2, (h6 i hi.1).2⟩⟩
  · rcases hi.1 with h | h
    · rcases hD' i h with h | h
      · exact ⟨hi.2, (h6 i h).2⟩
      · exact ⟨hi.2, fun hx => by have := (h2 i hx).1; omega⟩
    · exact ⟨hi.2, fun hx => by have := (h2 i hx).2; omega⟩
  · rcases hd.1 with h | h
    · rcases hD' i h with h | h
      · exact h7 i hi h
      · have := (h5 i hi).1; omega
    · have := (h5 i hi).2.1; omega
variable {w2 : World} {N B M : Nat}
theorem dappend_j (x : Nm) (v : Value) (b : List UInt8) (h : J2 w base X p r k1 k2) (hb : Below w.heap.size w w2) (hv : Byt w2 (fun i => w.heap.size ≤ i) v b) (hx : x.length ≤ 140737488355328) (hi : InvK k1 N B M) (hN : N * 48 ≤ 140737488355328) (hB : B + b.length ≤ 1099511627776) (hM : M < 4611686018427387904) :
    Calls Try.prog 15 #[.pointer (some ⟨p, 0, none⟩), .string ⟨x.toArray⟩, v] w2 fun e w' => e = .returned (.int .i64 (appendE k1 x b)) ∧ J2 w' base X p r (appendK k1 x b) k2 ∧ Only (Wr base X) w2 w' := by
  have hF : ∀ (F : Nat → Prop), (∀ i, F i → base ≤ i ∧ i < w.heap.size ∧ ¬ X i) → ∀ i, w.heap.size ≤ i → ¬ F i := fun F h i hi hf => by have := (h i hf).2.1; omega
  obtain ⟨h1, h2, F, D, h3, h4, h5, h6, h7⟩ := h
  have hz := hb.size
  have hm := hi.many
  have hd := hi.done
  refine (append_any F p k1 x _ v b w2 (h3.below hb) hv (hF F h5) hx hi.done0 (by omega) (fun f hf => by have := tot_mem (findP_mem hf).1; have := hi.much; omega) (by omega)).mono ?_
  rintro e w' ⟨rfl, hd, ho⟩
  exact ⟨rfl, J2.dmove (Nat.le_trans h1 hz) (fun i hi => ⟨(h2 i hi).1, Nat.lt_of_lt_of_le (h2 i hi).2 hz⟩) (h4.below hb) (fun i hi => ⟨(h5 i hi).1, Nat.lt_of_lt_of_le (h5 i hi).2.1 hz, (h5 i hi).2.2⟩) (fun i hi => ⟨Nat.lt_of_lt_of_le (h6 i hi).1 hz, (h6 i hi).2⟩) h7 hd ho⟩
theorem drevive_j (ops room : Int) (v : Value) (zs : List Int) (h : J2 w base X p r k1 k2) (hb : Below w.heap.size w w2) (hv : IntsIn w2 (fun i => w.heap.size ≤ i) v zs) (hl : zs.length * 8 ≤ 140737488355328) (hi : InvK k1 N B M) (hN : N * 48 ≤ 140737488355328) :
    Calls Try.prog 13 #[.pointer (some ⟨p, 0, none⟩), .agg #[.int .i64 ops, .int .i64 room, v]] w2 fun e w' => e = .returned (.int .i64 0) ∧ J2 w' base X p r (reviveK k1 ops room zs) k2 ∧ Only (Wr base X) w2 w' ∧ ∀ u, w2.cell? ⟨r, 0, none⟩ = some u → w'.cell? ⟨r, 0, none⟩ = some u := by
  obtain ⟨h1, h2, F, D, h3, h4, h5, h6, h7⟩ := h
  have hz := hb.size
  have hm := hi.many
  refine (revive_any F p k1 _ ops room v zs w2 (h3.below hb) hi.ok (by omega) hv (fun i hs hf => by have := (h5 i hf).2.1; omega) hl).mono ?_
  rintro e w' ⟨rfl, hd, ho⟩
  have hmv := J2.dmove (Nat.le_trans h1 hz) (fun i hi => ⟨(h2 i hi).1, Nat.lt_of_lt_of_le (h2 i hi).2 hz⟩) (h4.below hb) (fun i hi => ⟨(h5 i hi).1, Nat.lt_of_lt_of_le (h5 i hi).2.1 hz, (h5 i hi).2.2⟩) (fun i hi => ⟨Nat.lt_of_lt_of_le (h6 i hi).1 hz, (h6 i hi).2⟩) h7 hd ho
  refine ⟨rfl, hmv.1, hmv.2, fun u hu => ?_⟩
  obtain ⟨v', kv', h4'⟩ := h4
  exact (World.cell?_of_block (a := ⟨r, 0, none⟩) (ho.block r (World.block_lt_of_cell? w2 _ hu) fun hf => h7 r hf h4'.inD)).trans hu
theorem rappend_j (x : Nm) (v : Value) (b : List UInt8) (h : J2 w base X p r k1 k2) (hv : Byt w (fun i => i < base) v b) (hx : x.length ≤ 140737488355328) (hi : InvK k2 N B M) (hN : (N + 1) * 48 ≤ 140737488355328) (hB : B + b.length ≤ 1099511627776) (hM : M < 4611686018427387904) (hroom : k2.room ≤ 9223372036854775807) :
    Calls Try.prog 18 #[.pointer (some ⟨r, 0, none⟩), .string ⟨x.toArray⟩, v] w fun e w' => e = .returned (.int .i64 (appendE k2 x b)) ∧ J2 w' base X p r k1 (appendK k2 x b) ∧ Only (Wr base X) w w' := by
  obtain ⟨h1, h2, F, D, h3, h4, h5, h6, h7⟩ := h
  refine (rappend_any base D r k2 x _ v b w N B M h4 hv (fun i hs ho => by have := ho.2; omega) hx hi hN hB hM hroom).mono ?_
  rintro e w' ⟨rfl, hr, ho⟩
  exact ⟨rfl, J2.rmove (D' := D) h1 h2 h3 h5 h6 h7 (fun i hi => .inl hi) hr ho⟩
theorem rrevive_j (ops room : Int) (v : Value) (zs : List Int) (h : J2 w base X p r k1 k2) (hv : IntsIn w (fun i => i < base) v zs) (hi : InvK k2 N B M) (hN : N * 48 ≤ 140737488355328) (hB : B ≤ 1099511627776) :
    Calls Try.prog 20 #[.pointer (some ⟨r, 0, none⟩), .agg #[.int .i64 ops, .int .i64 room, v]] w fun e w' => e = .returned (.tuple #[]) ∧ J2 w' base X p r k1 (reviveK k2 ops room zs) ∧ Only (Wr base X) w w' := by
  obtain ⟨h1, h2, F, D, h3, h4, h5, h6, h7⟩ := h
  have hm := hi.many
  refine (rrevive_any base D r k2 _ ops room v zs w h4 hi.ok (by omega) (fun f hf => by have := tot_mem hf; have := hi.much; omega) hv (fun i hi => hi)).mono ?_
  rintro e w' ⟨rfl, hr, ho⟩
  exact ⟨rfl, J2.rmove (D' := fun i => D i ∨ i < base) h1 h2 h3 h5 h6 h7 (fun i hi => hi) hr ho⟩
theorem dsync_j (x : Nm) (h : J2 w base X p r k1 k2) (hx : x.length ≤ 140737488355328) (hi : InvK k1 N B M) (hM : M < 4611686018427387904) :
    Calls Try.prog 22 #[.pointer (some ⟨p, 0, none⟩), .string ⟨x.toArray⟩] w fun e w' => e = .returned (.int .i64 (syncE k1 x)) ∧ J2 w' base X p r (syncK k1 x) k2 ∧ Only (Wr base X) w w' := by
  obtain ⟨h1, h2, F, D, h3, h4, h5, h6, h7⟩ := h
  have hd := hi.done
  refine (sync_any F p k1 x w h3 hx hi.done0 (by omega)).mono ?_
  rintro e w' ⟨rfl, hd, ho⟩
  exact ⟨rfl, J2.dmove h1 h2 h4 h5 h6 h7 (hd.mono fun i hi _ => .inl hi) ho⟩
theorem rsync_j (x : Nm) (h : J2 w base X p r k1 k2) (hx : x.length ≤ 140737488355328) (hi : InvK k2 N B M) (hN : N * 48 ≤ 140737488355328) (hM : M < 4611686018427387904) :
    Calls Try.prog 40 #[.pointer (some ⟨r, 0, none⟩), .string ⟨x.toArray⟩] w fun e w' => e = .returned (.int .i64 (syncE k2 x)) ∧ J2 w' base X p r k1 (syncK k2 x) ∧ Only (Wr base X) w w' := by
  obtain ⟨h1, h2, F, D, h3, h4, h5, h6, h7⟩ := h
  have hd := hi.done
  have hm := hi.many
  refine (rsync_any base D r k2 x w h4 hx hi.sorted (by omega) hi.done0 (by omega)).mono ?_
  rintro e w' ⟨rfl, hr, ho⟩
  exact ⟨rfl, J2.rmove (D' := D) h1 h2 h3 h5 h6 h7 (fun i hi => .inl hi) (hr.mono fun i _ hi => .inl hi) ho⟩
theorem ddelete_j (x : Nm) (h : J2 w base X p r k1 k2) (hx : x.length ≤ 140737488355328) (hi : InvK k1 N B M) (hM : M < 4611686018427387904) :
    Calls Try.prog 24 #[.pointer (some ⟨p, 0, none⟩), .string ⟨x.toArray⟩] w fun e w' => e = .returned (.int .i64 (syncE k1 x)) ∧ J2 w' base X p r (deleteK k1 x) k2 ∧ Only (Wr base X) w w' := by
  obtain ⟨h1, h2, F, D, h3, h4, h5, h6, h7⟩ := h
  have hd := hi.done
  refine (delete_any F p k1 x w h3 hx hi.done0 (by omega)).mono ?_
  rintro e w' ⟨rfl, hd, ho⟩
  exact ⟨rfl, J2.dmove h1 h2 h4 h5 h6 h7 (hd.mono fun i hi _ => .inl hi) ho⟩
theorem rdelete_j (x : Nm) (h : J2 w base X p r k1 k2) (hx : x.length ≤ 140737488355328) (hi : InvK k2 N B M) (hN : N * 48 ≤ 140737488355328) (hM : M < 4611686018427387904) :
    Calls Try.prog 42 #[.pointer (some ⟨r, 0, none⟩), .string ⟨x.toArray⟩] w fun e w' => e = .returned (.int .i64 (syncE k2 x)) ∧ J2 w' base X p r k1 (deleteK k2 x) ∧ Only (Wr base X) w w' := by
  obtain ⟨h1, h2, F, D, h3, h4, h5, h6, h7⟩ := h
  have hd := hi.done
  have hm := hi.many
  refine (rdelete_any base D r k2 x w h4 hx hi.sorted (by omega) hi.done0 (by omega)).mono ?_
  rintro e w' ⟨rfl, hr, ho⟩
  exact ⟨rfl, J2.rmove (D' := D) h1 h2 h3 h5 h6 h7 (fun i hi => .inl hi) hr ho⟩
theorem drename_j (x y : Nm) (h : J2 w base X p r k1 k2) (hx : x.length ≤ 140737488355328) (hy : y.length ≤ 140737488355328) (hi : InvK k1 N B M) (hN : N * 48 ≤ 140737488355328) (hM : M < 4611686018427387904) :
    Calls Try.prog 23 #[.pointer (some ⟨p, 0, none⟩), .string ⟨x.toArray⟩, .string ⟨y.toArray⟩] w fun e w' => e = .returned (.int .i64 (renameE k1 x y)) ∧ J2 w' base X p r (renameK k1 x y) k2 ∧ Only (Wr base X) w w' := by
  obtain ⟨h1, h2, F, D, h3, h4, h5, h6, h7⟩ := h
  have hd := hi.done
  have hm := hi.many
  refine (rename_any F p k1 x y w h3 hx hy hi.done0 (by omega) (by omega)).mono ?_
  rintro e w' ⟨rfl, hd, ho⟩
  exact ⟨rfl, J2.dmove h1 h2 h4 h5 h6 h7 (hd.mono fun i hi _ => .inl hi) ho⟩
theorem rrename_j (x y : Nm) (h : J2 w base X p r k1 k2) (hx : x.length ≤ 140737488355328) (hy : y.length ≤ 140737488355328) (hi : InvK k2 N B M) (hN : N * 48 ≤ 140737488355328) (hM : M < 4611686018427387904) :
    Calls Try.prog 41 #[.pointer (some ⟨r, 0, none⟩), .string ⟨x.toArray⟩, .string ⟨y.toArray⟩] w fun e w' => e = .returned (.int .i64 (renameE k2 x y)) ∧ J2 w' base X p r k1 (renameK k2 x y) ∧ Only (Wr base X) w w' := by
  obtain ⟨h1, h2, F, D, h3, h4, h5, h6, h7⟩ := h
  have hd := hi.done
  have hm := hi.many
  refine (rrename_any base D r k2 x y w h4 hx hy hi.sorted (by omega) hi.done0 (by omega)).mono ?_
  rintro e w' ⟨rfl, hr, ho⟩
  exact ⟨rfl, J2.rmove (D' := D) h1 h2 h3 h5 h6 h7 (fun i hi => .inl hi) hr ho⟩
theorem dread_j (x : Nm) (h : J2 w base X p r k1 k2) (hx : x.length ≤ 140737488355328) :
    Calls Try.prog 19 #[.pointer (some ⟨p, 0, none⟩), .string ⟨x.toArray⟩] w fun e w' => ∃ v, e = .returned (.tuple #[v, .int .i64 (readyE k1 [x])]) ∧ BytL w' w.heap.size v (if readyE k1 [x] = 0 then readD k1 x else []) ∧ Below w.heap.size w w' := by
  obtain ⟨_, _, F, D, h3, _⟩ := h
  exact read_any F p k1 x w h3 hx
theorem rread_j (x : Nm) (h : J2 w base X p r k1 k2) (hx : x.length ≤ 140737488355328) (hi : InvK k2 N B M) (hN : N * 48 ≤ 140737488355328) :
    Calls Try.prog 43 #[.pointer (some ⟨r, 0, none⟩), .string ⟨x.toArray⟩] w fun e w' => ∃ v, e = .returned (.tuple #[v, .int .i64 (readyE k2 [x])]) ∧ BytL w' w.heap.size v (if readyE k2 [x] = 0 then readD k2 x else []) ∧ Below w.heap.size w w' := by
  obtain ⟨_, _, F, D, _, h4, _⟩ := h
  have hm := hi.many
  exact rread_any base D r k2 x w h4 hx (by omega)
theorem dlist_j (h : J2 w base X p r k1 k2) (hi : InvK k1 N B M) (hN : N * 48 ≤ 140737488355328) :
    Calls Try.prog 25 #[.pointer (some ⟨p, 0, none⟩)] w fun e w' => ∃ v, e = .returned (.tuple #[v, .int .i64 (readyE k1 [])]) ∧ OwnS w' w.heap.size v (listP k1) ∧ Below w.heap.size w w' := by
  obtain ⟨_, _, F, D, h3, _⟩ := h
  have hm := hi.many
  exact list_any F p k1 w h3 (by omega)
theorem rlist_j (h : J2 w base X p r k1 k2) (hi : InvK k2 N B M) (hN : N * 48 ≤ 140737488355328) :
    Calls Try.prog 44 #[.pointer (some ⟨r, 0, none⟩)] w fun e w' => ∃ v, e = .returned (.tuple #[v, .int .i64 (readyE k2 [])]) ∧ OwnS w' w.heap.size v (listP k2) ∧ Below w.heap.size w w' := by
  obtain ⟨_, _, F, D, _, h4, _⟩ := h
  have hm := hi.many
  exact rlist_any base D r k2 w h4 (by omega)
theorem ddump_j (h : J2 w base X p r k1 k2) (hi : InvK k1 N B M) (hN : N * 48 ≤ 140737488355328) :
    Calls Try.prog 12 #[.pointer (some ⟨p, 0, none⟩)] w fun e w' => ∃ v, e = .returned v ∧ OwnFiles w' w.heap.size v k1.fs ∧ Below w.heap.size w w' := by
  obtain ⟨_, _, F, D, h3, _⟩ := h
  have hm := hi.many
  exact dump_any F p k1 w h3 (by omega)
theorem J2.files (h : J2 w base X p r k1 k2) (hi : InvK k2 N B M) (hN : N * 48 ≤ 140737488355328) :
    ∃ A c, w.cell? ⟨r, 0, none⟩ = some (.slice A k2.fs.length c) ∧ FilesV w (fun _ => True) (.slice A k2.fs.length c) k2.fs := by
  obtain ⟨_, _, F, D, _, ⟨v, kv, h4⟩, _⟩ := h
  have hm := hi.many
  obtain ⟨A, c, rfl⟩ := h4.row.form
  exact ⟨A, c, h4.cell.1, (h4.files (by omega)).mono flFine fun _ _ => trivial⟩
theorem J2.files_at {v : Value} (h : J2 w base X p r k1 k2) (hi : InvK k2 N B M) (hN : N * 48 ≤ 140737488355328) (hc : w.cell? ⟨r, 0, none⟩ = some v) : FilesV w (fun _ => True) v k2.fs := by
  obtain ⟨A, c, h1, h2⟩ := h.files hi hN
  rw [h1] at hc
  cases hc
  exact h2
end
end Go.Proofs.Ytcmjoaepihbodaa
end
