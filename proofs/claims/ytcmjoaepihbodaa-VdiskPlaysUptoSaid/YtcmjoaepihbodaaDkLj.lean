/-
ref07's Rename.
-/
import Derived.Test.YtcmjoaepihbodaaDkLi
namespace Go.Proofs.Ytcmjoaepihbodaa
open Go.RowKit Go.BigFrame
attribute [local go_sem ↓] Go.wp_at_zero Go.wp_at_succ

theorem delP_none {x : Nm} {fs : List Fl} (h : findP x fs = none) : delP x fs = fs := by
  have h' := findP_none h
  clear h
  induction fs with
  | nil => rfl
  | cons a l ih => rw [delP, if_neg (h' a List.mem_cons_self), ih fun g hg => h' g (List.mem_cons_of_mem _ hg)]
/-- the file that is renamed lies in a variable at P. -/
structure RenV (w : World) (base : Nat) (D : Nat → Prop) (r : Nat) (kv : Value) (k : Pk) (n P : Nat) (f : Fl) (Af : Option Addr) (df : Nat) (fs : List Fl) (W : World) : Prop where
  ref : ∃ v, RefV W base (orNew D n) r v kv { k with fs := fs }
  var : W.heap[P]? = some (.cells #[.string ⟨f.name.toArray⟩, .slice Af f.data.length df, .int .i64 f.synced] 37 (0, 0))
  byt : Byt W (fun i => orNew D n i ∧ i ≠ r) (.slice Af f.data.length df) f.data
  only : Only (orNew (Own D base) n) w W
  size : n ≤ W.heap.size
  new : n ≤ P
section
variable {w W w3 : World} {base r n P df : Nat} {D : Nat → Prop} {kv v3 : Value} {k : Pk} {f : Fl} {Af : Option Addr} {fs fs2 : List Fl}
theorem RenV.step (h : RenV w base D r kv k n P f Af df fs W) (hr : r < n) (hb : Below W.heap.size W w3) (hrow : RowF w3 W.heap.size (fun i => (orNew D n i ∧ i ≠ r) ∧ i < W.heap.size) v3 fs2) :
    RenV w base D r kv k n P f Af df fs2 (w3.setCell ⟨r, 0, none⟩ v3) := by
  obtain ⟨v, hv⟩ := h.ref
  obtain ⟨h1, h2⟩ := hv.reset hb h.size hrow
  have hP := (Array.getElem?_eq_some_iff.1 h.var).1
  have hnew := h.new
  have hs : Only (fun i => i = r) W (w3.setCell ⟨r, 0, none⟩ v3) := (Only.of_below (S := fun i => i = r) hb).setCell (p := ⟨r, 0, none⟩) rfl _
  refine ⟨⟨v3, h1.mono fun i _ hi => ?_⟩, (hs.block P hP (by omega)).trans h.var, h.byt.only hs fun i _ hi e => hi.2 e, h.only.trans (h2.mono fun i hi => ?_), Nat.le_trans h.size hs.size, h.new⟩
  · rcases hi with hi | hi
    · exact hi
    · exact .inr hi
  · rcases hi with ⟨hi, hb⟩ | hi
    · exact hi.imp (fun h => ⟨h, hb⟩) id
    · exact .inr hi
end

set_option maxRecDepth 100000 in
set_option maxHeartbeats 8000000 in
theorem rrename_any (base : Nat) (D : Nat → Prop) (r : Nat) (k : Pk) (x y : Nm) (w : World) (h : RefP w base D r k) (hx : x.length ≤ 140737488355328) (hy : y.length ≤ 140737488355328) (hs : sortedP k.fs) (hm : k.fs.length * 48 ≤ 140737488355328) (hd0 : 0 ≤ k.done) (hd1 : k.done < 4611686018427387904) :
    Calls Try.prog 41 #[.pointer (some ⟨r, 0, none⟩), .string ⟨x.toArray⟩, .string ⟨y.toArray⟩] w fun e w' => e = .returned (.int .i64 (renameE k x y)) ∧ RefP w' base (orNew D w.heap.size) r (renameK k x y) ∧ Only (Own D base) w w' := by
  obtain ⟨v, kv, h⟩ := h
  have HNM := Lib.hid (rnamed_any base D r v kv k x y w h hm hx hy)
  have HC := Lib.hid (rchange_any base D r v kv k w h hd0 hd1)
  have H := Lib.hid h
  have hrD : Own D base r := ⟨h.inD, h.lo⟩
  have HRD := Lib.hid hrD
  have hrn := h.ltR
  obtain ⟨e0, he⟩ : ∃ e, renameE k x y = e := ⟨_, rfl⟩
  obtain ⟨k', hk'⟩ : ∃ k', renameK k x y = k' := ⟨_, rfl⟩
  rw [he, hk']
  unfold renameE at he
  unfold renameK at hk'
  obtain ⟨e, hre⟩ : ∃ e, readyE k [x, y] = e := ⟨_, rfl⟩
  rw [hre] at HNM he hk'
  clear h hrD
  by_cases h0 : e = 0
  · subst h0
    rw [if_pos rfl] at he hk'
    cases hcr : crashes k with
    | true =>
      have hce : changeE k = 20 := by rw [changeE, hcr]; rfl
      rw [hce] at HC he
      rw [hcr, if_pos rfl] at hk'
      subst he hk'
      clear hcr hce hre
      go_enter Try.func41, Try.ntmps41
      go_wp2_with (first
        | (go_at_call 54; refine HNM.out.mono ?_; rintro r1 w1 ⟨rfl, rfl⟩)
        | (go_at_call 39; refine HC.out.mono ?_; rintro r1 w1 ⟨rfl, hv1, ho1⟩))
      refine bodyPost_ret (v := .int .i64 20) (by simp [results, Try.results41, go_sem]) rfl ?_
      exact ⟨rfl, ⟨_, _, hv1.mono fun i _ hi => .inl hi⟩, ho1.mono fun i hi => by rw [hi]; exact HRD.out⟩
    | false =>
      have hce : changeE k = 0 := by rw [changeE, hcr]; rfl
      rw [hce] at HC he
      rw [hcr, if_neg (by simp)] at hk'
      subst he
      cases hxy : x == y with
      | true =>
        have hxe : x = y := by simpa using hxy
        rw [if_pos hxe] at hk'
        subst hk'
        have g1 : (x != y) = false := by simpa using hxe
        clear hcr hce hre hxe
        go_enter Try.func41, Try.ntmps41
        go_wp2_with (first
          | (go_at_call 54; refine HNM.out.mono ?_; rintro r1 w1 ⟨rfl, rfl⟩)
          | (go_at_call 39; refine HC.out.mono ?_; rintro r1 w1 ⟨rfl, hv1, ho1⟩))
        refine bodyPost_ret (v := .int .i64 0) (by simp [results, Try.results41, go_sem]) rfl ?_
        exact ⟨rfl, ⟨_, _, hv1.mono fun i _ hi => .inl hi⟩, ho1.mono fun i hi => by rw [hi]; exact HRD.out⟩
      | false =>
        have hxe : ¬ x = y := by simpa using hxy
        rw [if_neg hxe] at hk'
        have g1 : (x != y) = true := by simpa using hxe
        have hcf : (changeK k).fs = k.fs := (change_same k).1
        obtain ⟨j, f, hj1, hj2, hj3, hj4, hj5⟩ := ready_at hre
        have hde : delP x k.fs = k.fs.eraseIdx j := erase_delP hs hj1
        have hsd : sortedP (k.fs.eraseIdx j) := by rw [← hde]; exact srt_del hs
        obtain ⟨k1, hk1⟩ : ∃ k1, changeK k = k1 := ⟨_, rfl⟩
        rw [hk1] at HC hcf hk'
        obtain ⟨f', hf'⟩ : ∃ f' : Fl, f' = { f with name := y } := ⟨_, rfl⟩
        have hren : renFs x y k.fs = insI f' (delP y (k.fs.eraseIdx j)) := by
          unfold renFs
          rw [hj3, hde, hf']
          exact insP_del (f := { f with name := y }) hsd
        have hk2 : k'.fs = insI f' (delP y (k1.fs.eraseIdx j)) ∧ k'.ops = k1.ops ∧ k'.room = k1.room ∧ k'.keep = k1.keep ∧ k'.done = k1.done ∧ k'.down = k1.down := by
          rw [← hk']
          exact ⟨by rw [hcf]; exact hren, rfl, rfl, rfl, rfl, rfl⟩
        rw [← hcf] at hj2 hj4 hm hsd
        have HI1 := Lib.hid hj2
        have HJ := Lib.hid hj4
        have HK := Lib.hid hk2
        have HF' := Lib.hid hf'
        have HSD := Lib.hid hsd
        clear hcr hce hre hk1 hj1 hj2 hj3 hj4 hj5 hcf hk' hk2 hde hren hsd hxe
        go_enter Try.func41, Try.ntmps41
        go_upto_region 5 with (first
          | (go_at_call 54; refine HNM.out.mono ?_; rintro r1 w1 ⟨rfl, rfl⟩)
          | (go_at_call 39; refine HC.out.mono ?_; rintro r1 w1 ⟨rfl, hv1, ho1⟩; have HV1 := Lib.hid hv1; have HO1 := Lib.hid ho1; clear hv1 ho1))
        obtain ⟨g, cg, Af, df, hVe, hgl, hgb, hgD, hgr, hbyt, hfnl, x0, x1, x2, xf⟩ := RefV.file HV1.out hm HJ.out
        subst hVe
        obtain ⟨y0, _⟩ := HV1.out.cell
        have jn : j < k1.fs.length := (List.getElem?_eq_some_iff.1 HJ.out).1
        have HBY := Lib.hid hbyt
        have HFI := Lib.hid (HV1.out.files hm)
        have hz1 : w.heap.size ≤ w1.heap.size := HO1.out.size
        clear hbyt xf
        have hf0 : fr w1 w1.drew := fr.refl.drew
        have hfa : fr w1 (w1.alloc (.cells #[.string ⟨#[]⟩, .slice none 0 0, .int .i64 0] 37)).drew := (fr.refl.alloc _).drew
        have HF1 := Lib.hid (find_any (fun i => D i ∧ i ≠ r) r _ k1.fs x w1.drew (hf0.cell y0) (HFI.out.below flFine hf0))
        have HF2 := Lib.hid (find_any (fun i => D i ∧ i ≠ r) r _ k1.fs x (w1.alloc (.cells #[.string ⟨#[]⟩, .slice none 0 0, .int .i64 0] 37)).drew (hfa.cell y0) (HFI.out.below flFine hfa))
        rw [HI1.out] at HF1 HF2
        have n1 := World.new_ne w1 _ y0
        have n2 := World.new_ne w1 _ x1
        simp only at n1 n2
        have m1 : r < w1.heap.size := World.block_lt_of_cell? w1 _ y0
        go_cut [8] (fun t wc => ∃ P, t = .pointer (some ⟨P, 0, none⟩) ∧ w1.heap.size ≤ P ∧ wc.heap[P]? = some (.cells #[.string ⟨f.name.toArray⟩, .slice Af f.data.length df, .int .i64 f.synced] 37 (0, 0)) ∧ Below w1.heap.size w1 wc)
        case first =>
          go_region_law (first
            | (go_simp; go_at_call 37; (with_reducible (refine HF1.out.mono ?_)); rintro e w'' ⟨rfl, rfl⟩)
            | (go_simp; go_at_call 37; (with_reducible (refine HF2.out.mono ?_)); rintro e w'' ⟨rfl, rfl⟩))
          all_goals
            go_wp2_with fail
            go_meet
            case rel => exact ⟨_, rfl, Nat.le_refl _, heap_alloc_new w1 _, ((Below.refl _ _).alloc (Nat.le_refl _) _).drew⟩
        case rest =>
          obtain ⟨P, rfl, hP, hvar, hbc⟩ := hcut
          have hPl := (Array.getElem?_eq_some_iff.1 hvar).1
          have q0 : wc.cell? ⟨P, 0, none⟩ = some (.string ⟨f.name.toArray⟩) := cell_of_row wc P 0 _ _ _ hvar
          have qf : wc.frozen? ⟨P, 0, none⟩ = false := frozen_of_row wc P 0 _ _ hvar
          have HVAR := Lib.hid hvar
          have HBC := Lib.hid hbc
          clear hvar hbc x0 x1 x2 n1 n2 HF1 HF2 hf0 hfa
          go_upto_region 7 with (fail)
          obtain ⟨W6, hW6⟩ : ∃ W6, W6 = wc.setCell ⟨P, 0, none⟩ (.string ⟨y.toArray⟩) := ⟨_, rfl⟩
          rw [← hW6]
          have hv6 : W6.heap[P]? = some (.cells #[.string ⟨y.toArray⟩, .slice Af f.data.length df, .int .i64 f.synced] 37 (0, 0)) := by rw [hW6]; exact heap_setCell_same wc P 0 _ _ (.string ⟨y.toArray⟩) HVAR.out
          have ho6 : Only (fun i => i = P) wc W6 := by rw [hW6]; exact only_set wc P 0 _
          have hb6 : Below w1.heap.size w1 W6 := HBC.out.trans (ho6.below HBC.out.size fun i hi => by omega)
          have h7 : RenV w base D r kv k1 w.heap.size P f' Af df k1.fs W6 := by
            refine ⟨⟨_, (HV1.out.below hb6).mono fun i _ hi => .inl hi⟩, ?_, ?_, (HO1.out.mono fun i hi => .inl (by rw [hi]; exact HRD.out)).trans (Only.of_below hb6), Nat.le_trans hz1 hb6.size, Nat.le_trans hz1 hP⟩
            · rw [HF'.out]; exact hv6
            · rw [HF'.out]; exact (HBY.out.below hb6).mono fun i hi => ⟨.inl hi.1, hi.2.1⟩
          have H7 := Lib.hid h7
          have hnl : f'.name.length ≤ 140737488355328 := by rw [HF'.out]; exact hy
          have hle : (k1.fs.eraseIdx j).length + 1 ≤ k1.fs.length := by rw [List.length_eraseIdx, if_pos jn]; omega
          have hm7 : (k1.fs.eraseIdx j).length * 48 ≤ 140737488355328 := by omega
          clear hW6 hv6 ho6 hb6 h7 q0 qf y0 hf'
          obtain ⟨vW6, hvW6⟩ := H7.out.ref
          have hdW6 := hvW6.below (w' := W6.drew) fr.refl.drew
          have HVDW6 := Lib.hid hdW6
          obtain ⟨yW6, _⟩ := hdW6.cell
          have zfdW6 : ∀ q, Below W6.drew.heap.size W6.drew q → q.frozen? ⟨r, 0, none⟩ = false := fun q hb => (HVDW6.out.below hb).frozen 0
          have HFDW6 := Lib.hid (find_any _ r _ _ x W6.drew yW6 (hdW6.files hm))
          simp only at HFDW6
          rw [HI1.out] at HFDW6
          have HWOW6 := Lib.hid (without_any _ _ _ j W6.drew (hdW6.files hm))
          simp only at HWOW6
          clear hdW6 hvW6
          go_cut [] (fun wc => RenV w base D r kv k1 w.heap.size P f' Af df (k1.fs.eraseIdx j) wc)
          case first =>
            go_region_with (first
              | (go_at_call 37; refine HFDW6.out.mono ?_; rintro r2 w2 ⟨rfl, rfl⟩)
              | (go_at_call 55; refine HWOW6.out.mono ?_; rintro r2 w2 ⟨v2, rfl, hrow, hb2⟩; obtain ⟨A2, c2', rfl⟩ := hrow.form; have y1 := fr.cell hb2 yW6; have HR2 := Lib.hid hrow; have HB2 := Lib.hid hb2; have z0 := zfdW6 _ hb2; clear hrow hb2))
            all_goals
              go_wp2_with fail
              go_meet
              case rel => exact H7.out.step hrn (undrew HB2.out) HR2.out
          case rest =>
            obtain ⟨W7, hW7⟩ : ∃ W7, W7 = wc := ⟨_, rfl⟩
            rw [← hW7] at hcut ⊢
            have H8 := Lib.hid hcut
            clear hW7 hcut zfdW6 yW6
            obtain ⟨fs7, hfs7⟩ : ∃ fs7, k1.fs.eraseIdx j = fs7 := ⟨_, rfl⟩
            rw [hfs7] at H8 HSD HK hm7 hle
            obtain ⟨v8, hv8⟩ := H8.out.ref
            obtain ⟨y8, _⟩ := hv8.cell
            have HFD8 := Lib.hid (find_any _ r _ _ y W7 y8 (hv8.files hm7))
            simp only at HFD8
            clear hv8 hfs7
            rcases idxP_find (x := y) (fs := fs7) with ⟨hi1, hi2⟩ | ⟨j2, f2, hi1, hi2, _, _⟩
            · have hidx : idxI y fs7 = -1 := by unfold idxI; rw [hi1]
              rw [hidx] at HFD8
              have HDE := Lib.hid (delP_none hi2)
              have hmz : fs7.length * 48 ≤ 140737488355328 ∧ (fs7.length + 1) * 48 ≤ 140737488355328 := ⟨by omega, by omega⟩
              clear hidx hi1 hi2
              go_upto_region 10 with (go_at_call 37; refine HFD8.out.mono ?_; rintro r2 w2 ⟨rfl, rfl⟩)
              obtain ⟨vz, hvz⟩ := H8.out.ref
              have hdz := hvz.below (w' := W7.drew) fr.refl.drew
              have HVDz := Lib.hid hdz
              obtain ⟨yz, _⟩ := hdz.cell
              have zfz : ∀ q, Below W7.drew.heap.size W7.drew q → q.frozen? ⟨r, 0, none⟩ = false := fun q hb => (HVDz.out.below hb).frozen 0
              have hvar := H8.out.var
              have q0 : W7.drew.cell? ⟨P, 0, none⟩ = some (.string ⟨f'.name.toArray⟩) := cell_of_row W7 P 0 _ _ _ hvar
              have q1 : W7.drew.cell? ⟨P, 1, none⟩ = some (.slice Af f'.data.length df) := cell_of_row W7 P 1 _ _ _ hvar
              have q2 : W7.drew.cell? ⟨P, 2, none⟩ = some (.int .i64 f'.synced) := cell_of_row W7 P 2 _ _ _ hvar
              have HIN := Lib.hid (insert_any _ _ _ f' Af df W7.drew (hdz.files hmz.1) (H8.out.byt.below fr.refl.drew) hnl hmz.2)
              simp only at HIN
              clear hdz hvz hvar
              go_region_with (first
                | (go_at_call 38; refine HIN.out.mono ?_; rintro r2 w2 ⟨v2, rfl, hrow, hb2⟩; obtain ⟨A2, c2', rfl⟩ := hrow.form; have y1 := fr.cell hb2 yz; have HR2 := Lib.hid hrow; have HB2 := Lib.hid hb2; have z0 := zfz _ hb2; clear hrow hb2))
              all_goals
                go_wp2
                refine bodyPost_ret (v := .int .i64 0) (by simp [results, Try.results41, go_sem]) rfl ?_
                have hfin := H8.out.step hrn (undrew HB2.out) HR2.out
                obtain ⟨vf, hvf⟩ := hfin.ref
                obtain ⟨t1, t2, t3, t4, t5, t6⟩ := HK.out
                exact ⟨rfl, ⟨_, _, RefV.same (k' := k') hvf (by rw [t1, HDE.out]) t2 t3 t4 t5 t6⟩, Only.new hfin.only⟩
            · have hidx : idxI y fs7 = (j2 : Int) := by unfold idxI; rw [hi1]
              rw [hidx] at HFD8
              have HI2 := Lib.hid hidx
              have HDE := Lib.hid (erase_delP HSD.out hi1)
              have hle2 : (fs7.eraseIdx j2).length ≤ fs7.length := by rw [List.length_eraseIdx]; split <;> omega
              have hmz : (fs7.eraseIdx j2).length * 48 ≤ 140737488355328 ∧ ((fs7.eraseIdx j2).length + 1) * 48 ≤ 140737488355328 := ⟨by omega, by omega⟩
              clear hidx hi1 hi2
              go_upto_if 49 with (go_at_call 37; refine HFD8.out.mono ?_; rintro r2 w2 ⟨rfl, rfl⟩)
              obtain ⟨vW7, hvW7⟩ := H8.out.ref
              have hdW7 := hvW7.below (w' := W7.drew) fr.refl.drew
              have HVDW7 := Lib.hid hdW7
              obtain ⟨yW7, _⟩ := hdW7.cell
              have zfdW7 : ∀ q, Below W7.drew.heap.size W7.drew q → q.frozen? ⟨r, 0, none⟩ = false := fun q hb => (HVDW7.out.below hb).frozen 0
              have HFDW7 := Lib.hid (find_any _ r _ _ y W7.drew yW7 (hdW7.files hm7))
              simp only at HFDW7
              rw [HI2.out] at HFDW7
              have HWOW7 := Lib.hid (without_any _ _ _ j2 W7.drew (hdW7.files hm7))
              simp only at HWOW7
              clear hdW7 hvW7
              go_cut [] (fun wc => RenV w base D r kv k1 w.heap.size P f' Af df (fs7.eraseIdx j2) wc)
              case first =>
                go_upto_region 9 with (fail)
                go_region_with (first
                  | (go_at_call 37; refine HFDW7.out.mono ?_; rintro r2 w2 ⟨rfl, rfl⟩)
                  | (go_at_call 55; refine HWOW7.out.mono ?_; rintro r2 w2 ⟨v2, rfl, hrow, hb2⟩; obtain ⟨A2, c2', rfl⟩ := hrow.form; have y1 := fr.cell hb2 yW7; have HR2 := Lib.hid hrow; have HB2 := Lib.hid hb2; have z0 := zfdW7 _ hb2; clear hrow hb2))
                all_goals
                  go_wp2_with fail
                  go_meet
                  case rel => exact H8.out.step hrn (undrew HB2.out) HR2.out
              case rest =>
                obtain ⟨W9, hW9⟩ : ∃ W9, W9 = wc := ⟨_, rfl⟩
                rw [← hW9] at hcut ⊢
                have H9 := Lib.hid hcut
                clear hW9 hcut zfdW7 yW7
                go_upto_region 10 with (fail)
                obtain ⟨vz, hvz⟩ := H9.out.ref
                have hdz := hvz.below (w' := W9.drew) fr.refl.drew
                have HVDz := Lib.hid hdz
                obtain ⟨yz, _⟩ := hdz.cell
                have zfz : ∀ q, Below W9.drew.heap.size W9.drew q → q.frozen? ⟨r, 0, none⟩ = false := fun q hb => (HVDz.out.below hb).frozen 0
                have hvar := H9.out.var
                have q0 : W9.drew.cell? ⟨P, 0, none⟩ = some (.string ⟨f'.name.toArray⟩) := cell_of_row W9 P 0 _ _ _ hvar
                have q1 : W9.drew.cell? ⟨P, 1, none⟩ = some (.slice Af f'.data.length df) := cell_of_row W9 P 1 _ _ _ hvar
                have q2 : W9.drew.cell? ⟨P, 2, none⟩ = some (.int .i64 f'.synced) := cell_of_row W9 P 2 _ _ _ hvar
                have HIN := Lib.hid (insert_any _ _ _ f' Af df W9.drew (hdz.files hmz.1) (H9.out.byt.below fr.refl.drew) hnl hmz.2)
                simp only at HIN
                clear hdz hvz hvar
                go_region_with (first
                  | (go_at_call 38; refine HIN.out.mono ?_; rintro r2 w2 ⟨v2, rfl, hrow, hb2⟩; obtain ⟨A2, c2', rfl⟩ := hrow.form; have y1 := fr.cell hb2 yz; have HR2 := Lib.hid hrow; have HB2 := Lib.hid hb2; have z0 := zfz _ hb2; clear hrow hb2))
                all_goals
                  go_wp2
                  refine bodyPost_ret (v := .int .i64 0) (by simp [results, Try.results41, go_sem]) rfl ?_
                  have hfin := H9.out.step hrn (undrew HB2.out) HR2.out
                  obtain ⟨vf, hvf⟩ := hfin.ref
                  obtain ⟨t1, t2, t3, t4, t5, t6⟩ := HK.out
                  exact ⟨rfl, ⟨_, _, RefV.same (k' := k') hvf (by rw [t1, HDE.out]) t2 t3 t4 t5 t6⟩, Only.new hfin.only⟩
  · rw [if_neg h0] at he hk'
    subst he hk'
    have hne : (e == 0) = false := by simpa using h0
    clear hre h0
    go_enter Try.func41, Try.ntmps41
    go_wp2_with (go_at_call 54; refine HNM.out.mono ?_; rintro r1 w1 ⟨rfl, rfl⟩)
    refine bodyPost_ret (v := .int .i64 e) (by simp [results, Try.results41, go_sem]) rfl ?_
    exact ⟨rfl, ⟨_, _, H.out.mono fun i _ hi => .inl hi⟩, Only.refl _ _⟩
end Go.Proofs.Ytcmjoaepihbodaa
