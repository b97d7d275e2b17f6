/-
law TableTold.
-/
import Derived.Test.YtiffgjodbcploaaGreatQPToldUpto16
import Derived.Test.YtiffgjodbcploaaGreatQPToldUpto17
import Derived.Test.YtiffgjodbcploaaGreatQPToldUpto11
import Derived.Test.YtiffgjodbcploaaGreatQPToldUpto5
import Derived.StillTailTactics
import Derived.Deep.Cut
import Derived.Deep.CutRange
import Derived.Deep.DeepCutAuto
section
namespace Go.Proofs.YtiffgjodbcploaaGreat
set_option maxRecDepth 100000
open Go.RowKit Go.BigFrame Go.Shelf
attribute [local go_sem ↓] Go.wp_at_zero Go.wp_at_succ
/-- one file of a dump. -/
theorem file_one {w : World} {base : Nat} {v : Value} {f : Fl} (h : OwnFiles w base v [f]) : ∃ g c d, v = .slice (some ⟨g, 0, none⟩) 1 c ∧ w.cell? ⟨g, 1, none⟩ = some d ∧ Byt w (fun i => base ≤ i ∧ Loose w i) d f.data := by
  obtain ⟨css, h1, h2⟩ := h
  obtain ⟨cs, hc, hp⟩ := h2.at_ (i := 0) rfl
  obtain ⟨d, rfl, h3, _⟩ := hp
  obtain ⟨g, c, rfl, _⟩ := own_pos h1 (by simp)
  have hcs : css = [[.string ⟨f.name.toArray⟩, d, .int .i64 f.synced]] := by
    have := h2.length
    match css, this, hc with
    | [a], _, hc => simp only [List.getElem?_cons_zero, Option.some.injEq] at hc; rw [hc]
  refine ⟨g, c, d, rfl, ?_, h3.mono fun i hi => ⟨hi.1, hi.2.2⟩⟩
  have h := h1.cells (g := g) rfl 1 d (by rw [hcs]; rfl)
  rwa [Addr.add_lit, Nat.zero_add] at h
theorem byt_set {w : World} {S : Nat → Prop} {b o n c k : Nat} {bs : List UInt8} (h : Byt w S (.slice (some ⟨b, o, none⟩) n c) bs) (hL : Loose w b) (hk : k < n) (y : UInt8) : Byt (w.setCell ⟨b, o + k, none⟩ (bcell y)) S (.slice (some ⟨b, o, none⟩) n c) (bs.set k y) := by
  obtain ⟨cs, hh⟩ := hL
  have hs := heap_setCell_same w b (o + k) cs _ (bcell y) hh
  obtain ⟨A, ca, e, h1, h2, h3, hr⟩ := h
  simp only [Value.slice.injEq] at e
  obtain ⟨rfl, rfl, rfl⟩ := e
  obtain ⟨b', o', e, hS, hlt, hc⟩ := hr.2 (by omega)
  simp only [Option.some.injEq, Addr.mk.injEq, and_true] at e
  obtain ⟨rfl, rfl⟩ := e
  refine ⟨_, _, by rw [List.length_set], by rw [List.length_set]; exact h1, h2, by rw [List.length_set]; exact h3, by rw [List.length_map, List.length_set]; simp, fun _ => ⟨b, o, rfl, hS, by simpa [World.setCell] using hlt, fun j u hu => ?_⟩⟩
  rw [cell_of_row _ _ _ _ _ _ hs]
  have key : ∀ j u, (bs.map bcell)[j]? = some u → cs[o + j]? = some u := fun j u hu => by
    have := hc j u hu
    rwa [cell_of_row _ _ _ _ _ _ hh] at this
  rw [List.map_set, List.getElem?_set] at hu
  by_cases hj : k = j
  · subst hj
    rw [if_pos rfl] at hu
    split at hu
    · rename_i hjl
      simp only [Option.some.injEq] at hu
      obtain ⟨u0, hu0⟩ : ∃ u, (bs.map bcell)[k]? = some u := ⟨_, List.getElem?_eq_getElem hjl⟩
      have h5 := (Array.getElem?_eq_some_iff.1 (key k u0 hu0)).1
      rw [Array.getElem?_setIfInBounds_self, if_pos h5, hu]
    · cases hu
  · rw [if_neg hj] at hu
    rw [Array.getElem?_setIfInBounds_ne (by omega)]
    exact key j u hu
theorem size4 (x : Int) : ∃ k : Nat, (1 ≤ k ∧ k ≤ 1024) ∧ wrap64 (1 + wrap64 ((IntKind.u64.wrap x).tmod 4)) = (k : Int) := by
  have h0 := wrap_u64 x
  have h1 : (IntKind.u64.wrap x).tmod 4 = (IntKind.u64.wrap x) % 4 := Int.tmod_eq_emod_of_nonneg (by rw [h0]; omega)
  rw [h1]
  obtain ⟨r, hr⟩ : ∃ r, (IntKind.u64.wrap x) % 4 = r := ⟨_, rfl⟩
  rw [hr]
  have h2 : 0 ≤ r ∧ r < 4 := by omega
  refine ⟨(1 + r).toNat, by omega, ?_⟩
  unfold wrap64
  omega
theorem rem_at (x : Int) (n : Nat) (h0 : 0 < n) (hn : n ≤ 9223372036854775807) : ∃ k : Nat, k < n ∧ wrap64 ((IntKind.u64.wrap x).tmod (n : Int)) = (k : Int) := by
  have h1 := wrap_u64 x
  rw [Int.tmod_eq_emod_of_nonneg (by rw [h1]; omega)]
  have h2 := Int.emod_nonneg (IntKind.u64.wrap x) (show (n : Int) ≠ 0 by omega)
  have h3 := Int.emod_lt_of_pos (IntKind.u64.wrap x) (show (0 : Int) < n by omega)
  exact ⟨((IntKind.u64.wrap x) % n).toNat, by omega, by rw [IntWalk.wrap64_in _ ⟨by omega, by omega⟩]; omega⟩
/-- the byte that is turned. -/
theorem turn_val (x : UInt8) (a : Int) : ∃ y : UInt8, y ≠ x ∧ Value.int .u8 (bits .xor .u8 (x.toNat : Int) (wrap64 (1 + wrap64 ((IntKind.u64.wrap a).tmod 255)) % 256)) = bcell y := by
  have h0 := wrap_u64 a
  have h1 : (IntKind.u64.wrap a).tmod 255 = (IntKind.u64.wrap a) % 255 := Int.tmod_eq_emod_of_nonneg (by rw [h0]; omega)
  rw [h1]
  obtain ⟨r, hr⟩ : ∃ r, (IntKind.u64.wrap a) % 255 = r := ⟨_, rfl⟩
  rw [hr]
  have h2 : 0 ≤ r ∧ r < 255 := by omega
  obtain ⟨q, hq, hqv⟩ : ∃ q : Nat, (1 ≤ q ∧ q < 256) ∧ wrap64 (1 + wrap64 r) % 256 = (q : Int) := by
    refine ⟨(1 + r).toNat, by omega, ?_⟩
    rw [IntWalk.wrap64_in r ⟨by omega, by omega⟩, IntWalk.wrap64_in _ ⟨by omega, by omega⟩]
    omega
  rw [hqv]
  have hx := x.toNat_lt
  have h3 := crc_index (c := x.toNat) (x := q) hq.2
  rw [show ((x.toNat : Int) % 256) = (x.toNat : Int) by omega, show x.toNat % 256 = x.toNat by omega] at h3
  rw [h3]
  have hlt : x.toNat ^^^ q < 256 := Nat.xor_lt_two_pow (n := 8) hx hq.2
  have hto : (UInt8.ofNat (x.toNat ^^^ q)).toNat = x.toNat ^^^ q := by simp only [UInt8.toNat_ofNat']; omega
  refine ⟨UInt8.ofNat (x.toNat ^^^ q), fun e => ?_, ?_⟩
  · have e1 := congrArg UInt8.toNat e
    rw [hto] at e1
    have e2 : x.toNat ^^^ q = x.toNat ^^^ 0 := by rw [Nat.xor_zero]; exact e1
    have := xor_cancel e2
    omega
  · unfold bcell
    rw [hto]
theorem byt_take {w : World} {S : Nat → Prop} {b o n c k : Nat} {bs : List UInt8} (h : Byt w S (.slice (some ⟨b, o, none⟩) n c) bs) (hk : k ≤ n) : Byt w S (.slice (some ⟨b, o, none⟩) k c) (bs.take k) := by
  obtain ⟨A, ca, e, h1, h2, h3, hr⟩ := h
  simp only [Value.slice.injEq] at e
  obtain ⟨rfl, rfl, rfl⟩ := e
  have hl : (bs.take k).length = k := by rw [List.length_take]; omega
  refine ⟨_, _, by rw [hl], by omega, h2, by omega, by rw [List.length_map]; simp, fun h0 => ?_⟩
  obtain ⟨b', o', e, hS, hlt, hc⟩ := hr.2 (by rw [hl] at h0; omega)
  refine ⟨b', o', e, hS, hlt, fun j u hu => hc j u ?_⟩
  rw [List.map_take, List.getElem?_take] at hu
  split at hu
  · exact hu
  · cases hu
theorem byt_cell {w : World} {S : Nat → Prop} {b o n c k : Nat} {bs : List UInt8} {x : UInt8} (h : Byt w S (.slice (some ⟨b, o, none⟩) n c) bs) (hx : bs[k]? = some x) : w.cell? ⟨b, o + k, none⟩ = some (.int .u8 (x.toNat : Int)) := by
  obtain ⟨A, ca, e, h1, h2, h3, hr⟩ := h
  simp only [Value.slice.injEq] at e
  obtain ⟨rfl, rfl, rfl⟩ := e
  have hl := (List.getElem?_eq_some_iff.1 hx).1
  obtain ⟨b', o', e, hS, hlt, hc⟩ := hr.2 (by omega)
  simp only [Option.some.injEq, Addr.mk.injEq, and_true] at e
  obtain ⟨rfl, rfl⟩ := e
  exact hc k _ (by rw [List.getElem?_map, hx]; rfl)
theorem byt_loose {w : World} {lo b o n c : Nat} {bs : List UInt8} (h : Byt w (fun i => lo ≤ i ∧ Loose w i) (.slice (some ⟨b, o, none⟩) n c) bs) (hp : 0 < bs.length) : Loose w b ∧ lo ≤ b := by
  obtain ⟨A, ca, e, h1, h2, h3, hr⟩ := h
  simp only [Value.slice.injEq] at e
  obtain ⟨rfl, rfl, rfl⟩ := e
  obtain ⟨b', o', e, hS, hlt, hc⟩ := hr.2 hp
  simp only [Option.some.injEq, Addr.mk.injEq, and_true] at e
  obtain ⟨rfl, rfl⟩ := e
  exact ⟨hS.2, hS.1⟩
theorem Loose.frozen' {w : World} {b p : Nat} (h : Loose w b) : w.frozen? ⟨b, p, none⟩ = false := by
  obtain ⟨cs, h⟩ := h
  exact frozen_of_row w b p cs _ h
theorem Byt.drewE {w : World} {S : Nat → Prop} {v : Value} {bs : List UInt8} (h : Byt w S v bs) : Byt w.drew S v bs := h.below (Below.refl _ w).drew
theorem fr.putE' {W X : World} {pb j : Nat} {u : Value} (h : fr W X) (hp : W.heap.size ≤ pb) : fr W (X.setCell ⟨pb, j, none⟩ u) := RowKit.Below.setCell h hp u
theorem fr.stepR' {W X Y : World} (h : fr W X) (g : fr X Y) : fr W Y := fr.step h g
/-- a slice of one file, just made. -/
theorem file_new (x : Nm) (b : List UInt8) (s : Int) (d : Value) (w : World) (h : Byt w (fun _ => True) d b) (hx : x.length ≤ 140737488355328) : FilesV (w.alloc (.cells #[.string ⟨x.toArray⟩, d, .int .i64 s] 55)) (fun _ => True) (.slice (some ⟨w.heap.size, 0, none⟩) 1 1) [⟨x, b, s⟩] := by
  have hb := h.below (fr.alloc (fr.refl (W := w)) (.cells #[.string ⟨x.toArray⟩, d, .int .i64 s] 55))
  refine ⟨_, _, [[.string ⟨x.toArray⟩, d, .int .i64 s]], rfl, by simp, by simp, by simp, ⟨by simp, fun _ => ⟨w.heap.size, 0, rfl, trivial, by simp, fun j u hu => ?_⟩⟩, .cons ⟨d, rfl, hb, hx⟩ .nil⟩
  rw [World.cell?_alloc_at _ _ _ _ (by simp)]
  simpa using hu
/-- an open table's file, put on a disk of its own. -/
def oneK (b : List UInt8) : Pk := ⟨[⟨[116], b, b.length⟩], -1, -1, [], 0, sumB [⟨[116], b, b.length⟩], false⟩
theorem one_of (b : List UInt8) : ofE [⟨[116], b, b.length⟩] = 0 ∧ ofK [⟨[116], b, b.length⟩] (-1) (-1) [] = oneK b := by
  refine ⟨?_, rfl⟩
  unfold ofE
  have h1 : [(⟨[116], b, b.length⟩ : Fl)].any nmB = false := by simp [nmB, nameB, okByte]
  have h2 : [(⟨[116], b, b.length⟩ : Fl)].any rgB = false := by simp [rgB]
  have h3 : ofGo [] [(⟨[116], b, b.length⟩ : Fl)] = some [⟨[116], b, b.length⟩] := rfl
  rw [h1, h2, h3]
  rfl
theorem one_ready (b : List UInt8) : readyE (oneK b) [[116]] = 0 ∧ readD (oneK b) [116] = b := ⟨rfl, rfl⟩
set_option maxRecDepth 100000 in
set_option maxHeartbeats 1000000 in
theorem tabToldLaw (v : Value) (es : List Ent) (av : Value) (a : Int × Int) (cb : Bool) (w : World) (hv : Ents w (fun _ => True) v es) (hN : es.length ≤ 1048576 ∧ bytesE es ≤ 1048576) (ha : av = .agg #[.int .i64 a.1, .int .i64 a.2]) :
    Calls Tryz.prog 4 #[v, av, .bool cb] w fun r w' => r = .returned (.bool true) ∧ Below w.heap.size w w' := by
  obtain ⟨a0, a1⟩ := a
  subst ha
  simp only
  obtain ⟨A, c, rfl⟩ := hv.form
  obtain ⟨N, hNN⟩ : ∃ q, es.length = q := ⟨_, rfl⟩
  rw [hNN]
  rw [hNN] at hv hN
  obtain ⟨hN1, hN2⟩ := hN
  have hfA : fr w (w.alloc (.cells #[.int .i64 a0, .int .i64 a1] 50)) := fr.alloc fr.refl _
  have hbx := heap_alloc_new w (.cells #[.int .i64 a0, .int .i64 a1] 50)
  have HV := Lib.hid hv
  have HNN := Lib.hid hNN
  have HFA := Lib.hid hfA
  have HBX := Lib.hid hbx
  clear hv hNN hfA hbx
  go_enter Tryz.func4, Tryz.ntmps4
  go_wp2_with (fail)
  refine (twakes_any _).mono ?_
  rintro r w1 ⟨rfl, hb1⟩
  have HF1 := Lib.hid (fr.step HFA.out hb1)
  have HX1 := Lib.hid (fr.hp hb1 HBX.out)
  clear hb1
  by_cases hN0 : N = 0
  · subst hN0
    go_wp2
    refine bodyPost_ret (v := .bool true) (by simp [results, Tryz.results4, go_sem]) rfl ?_
    exact ⟨rfl, HF1.out⟩
  have hN0' : ((N : Int) == 0) = false := by simpa using hN0
  have HOR := Lib.hid (rordered_any _ _ es w1 (HV.out.below HF1.out))
  rcases hord : orderedE es with _ | _
  · rw [hord] at HOR
    clear hord
    go_wp2_with (go_at_call 11; refine HOR.out.mono ?_; rintro r w2 ⟨rfl, hb2⟩; have HF2 := Lib.hid (fr.step HF1.out hb2); clear hb2)
    refine bodyPost_ret (v := .bool true) (by simp [results, Tryz.results4, go_sem]) rfl ?_
    exact ⟨rfl, HF2.out⟩
  rw [hord] at HOR
  have HORD := Lib.hid hord
  clear hord
  go_upto_region 5 with (go_at_call 11; refine HOR.out.mono ?_; rintro r w2 ⟨rfl, hb2⟩; have HF2 := Lib.hid (fr.step HF1.out hb2); have HX2 := Lib.hid (fr.hp hb2 HX1.out); clear hb2)
  clear HOR HF1 HX1 HBX HFA
  have x1 := cell_of_row w2 _ 1 _ _ _ HX2.out
  simp only [List.getElem?_toArray, List.getElem?_cons_zero, List.getElem?_cons_succ] at x1
  go_wp2_with (fail)
  obtain ⟨sz, hsz, hszv⟩ := size4 a1
  rw [hszv]
  refine (made_any _ A N c sz es w2 (HV.out.below HF2.out) HNN.out hsz HORD.out (by omega) (by omega) (by omega)).mono ?_
  rintro r w3 ⟨Tb, p, ps, rfl, hps, _, _, ⟨F, hD, _⟩, hf3⟩
  have hfle := fileF_le hps
  rw [HNN.out] at hfle
  obtain ⟨fl, hfl⟩ : ∃ f, fileF N ps = f := ⟨_, rfl⟩
  rw [hfl] at hD hfle
  have hfl40 : fl.length ≤ 1099511627000 := by omega
  have HDM := Lib.hid (dump_any F p _ w3 hD (show ([⟨[116], sealF fl, (sealF fl).length⟩] : List Fl).length * 48 ≤ 140737488355328 by simp))
  obtain ⟨n, hn⟩ : ∃ n, (sealF fl).length = n := ⟨_, rfl⟩
  have hn12 : n = fl.length + 12 := by rw [← hn, sealF_len]
  have HF3 := Lib.hid (fr.step HF2.out hf3)
  have HX3 := Lib.hid (fr.hp hf3 HX2.out)
  clear hps hD hf3 x1 hszv hsz HF2 HX2 hfle hfl
  go_wp2_with (fail)
  refine HDM.out.mono ?_
  rintro r w4 ⟨v4, rfl, hv4, hb4⟩
  obtain ⟨g4, c4, d4, rfl, hd4, hB4⟩ := file_one (f := ⟨[116], sealF fl, (sealF fl).length⟩) hv4
  obtain ⟨Ad, cd, rfl⟩ := slice_form hB4
  obtain ⟨bd, od, rfl⟩ := Byt.some_of hB4 (by show 0 < (sealF fl).length; omega)
  simp only at hd4 hB4
  rw [hn] at hd4 hB4
  have HB4 := Lib.hid hB4
  have HF4 := Lib.hid (fr.step HF3.out hb4)
  have hx4 := fr.hp hb4 HX3.out
  have x0 := cell_of_row w4 _ 0 _ _ _ hx4
  have x1 := cell_of_row w4 _ 1 _ _ _ hx4
  simp only [List.getElem?_toArray, List.getElem?_cons_zero, List.getElem?_cons_succ] at x0 x1
  have HN' := Lib.hid hn
  have hn0 : ((n : Int) == 0) = false := by simp; omega
  have hun : IntKind.u64.wrap (n : Int) = (n : Int) := wraps64 _ (by omega) (by omega)
  have hz3 := hb4.size
  have HN12 := Lib.hid hn12
  have hnle : n ≤ 1099511627788 := by omega
  obtain ⟨k, hkn, hkv⟩ := rem_at a0 n (by omega) (by omega)
  have hkv' : wrap64 ((IntKind.u64.wrap a0).tmod (n : Int)) = (k : Int) := hkv
  clear HDM hv4 hB4 hb4 hn hn12 HX3 hkv
  have hcd : n ≤ cd ∧ cd ≤ 9223372036854775807 := by obtain ⟨A, ca, e, h1, h2, _⟩ := HB4.out; simp only [Value.slice.injEq] at e; rw [HN'.out] at h1; omega
  obtain ⟨hcd1, hcd2⟩ := hcd
  go_upto_region 13 with (fail)
  rw [hkv']
  have H40 := Lib.hid hfl40
  clear hkv' hun hN1 hN2 hfl40 x0
  go_upto_if 70 with (fail)
  go_cut [10] (fun x wc => ∃ (m : Nat) (b' : List UInt8), x = .slice (some ⟨bd, od, none⟩) m cd ∧ Byt wc (fun _ => True) (.slice (some ⟨bd, od, none⟩) m cd) b' ∧ b'.length = m ∧ Bad b' ∧ m ≤ n ∧ fr w wc)
  case first =>
    rcases cb with _ | _
    · obtain ⟨xb, hxb⟩ : ∃ u, (sealF fl)[k]? = some u := ⟨_, List.getElem?_eq_getElem (by rw [HN'.out]; exact hkn)⟩
      obtain ⟨y, hy, hyv⟩ := turn_val xb a1
      have hcl := byt_cell HB4.out hxb
      obtain ⟨hlo, hbase⟩ := byt_loose HB4.out (by rw [HN'.out]; omega)
      have hfz := hlo.frozen' (p := od + k)
      have hfr := HF4.out.size
      have HBT := Lib.hid (byt_set (HB4.out.mono (S' := fun _ => True) fun _ _ => trivial) hlo hkn y)
      have HFW := Lib.hid (show fr w (w4.setCell ⟨bd, od + k, none⟩ (bcell y)) from fr.putE' HF4.out (by have := HF3.out.size; omega))
      have HBD := Lib.hid (bad_turn (Nat.le_trans H40.out (by decide)) hxb hy)
      have HYV := Lib.hid hyv
      clear hxb hlo hbase hy hyv hd4
      go_wp2
      go_still_tail 15, (by kernel_rfl)
      go_wp2_with fail
      go_meet
      case rel =>
        rw [HYV.out]
        refine ⟨n, (sealF fl).set k y, rfl, HBT.out.drewE, by rw [List.length_set]; exact HN'.out, HBD.out, Nat.le_refl _, HFW.out.drew⟩
    · go_wp2_with fail
      go_meet
      case rel =>
        exact ⟨k, (sealF fl).take k, rfl, byt_take (HB4.out.mono (S' := fun _ => True) fun _ _ => trivial) (Nat.le_of_lt hkn), by rw [List.length_take, HN'.out]; omega, bad_cut (Nat.le_trans H40.out (by decide)) (by have := HN12.out; omega), Nat.le_of_lt hkn, HF4.out⟩
  case rest =>
    obtain ⟨m, b', rfl, hbm, hml, hbad, hmn, hfm⟩ := hcut
    go_wp2_with (fail)
    refine (calm_any _).mono ?_
    rintro r w6 ⟨rfl, f6⟩
    have hfl6 := file_new [116] b' m (.slice (some ⟨bd, od, none⟩) m cd) wc hbm (by simp)
    have HFL := Lib.hid (hfl6.below flFine f6)
    have HF6 := Lib.hid (fr.stepR' (fr.alloc hfm _) f6)
    have HML := Lib.hid hml
    have HBAD := Lib.hid hbad
    have HBL := Lib.hid (show b'.length ≤ n by omega)
    clear hfm f6 hfl6 hbm hml hbad
    go_wp2_with (fail)
    refine (of_any (fun _ => True) (fun _ => True) _ [⟨[116], b', m⟩] (-1) (-1) _ [] w6 HFL.out (IntsIn.nil _ _) (by simp)).mono ?_
    rintro r w7 ⟨q, rfl, _, hq, hb7⟩
    have ho := one_of b'
    rw [HML.out] at ho
    obtain ⟨p7, rfl, h7⟩ := hq ho.1
    rw [ho.1]
    rw [ho.2] at h7
    have HF7 := Lib.hid (fr.step HF6.out hb7)
    have H7 := Lib.hid h7
    clear ho hq hb7 h7
    go_wp2_with (fail)
    refine (topen_bad _ p7 (oneK b') [116] w7 H7.out (by simp) (one_ready b').1 (by rw [(one_ready b').2]; have := HBL.out; have := HN12.out; have := H40.out; omega) (by rw [(one_ready b').2]; exact HBAD.out)).mono ?_
    rintro r w8 ⟨rfl, f8⟩
    go_wp2
    refine bodyPost_ret (v := .bool true) (by simp [results, Tryz.results4, go_sem]) rfl ?_
    exact ⟨rfl, fr.stepR' HF7.out f8⟩
end Go.Proofs.YtiffgjodbcploaaGreat
end
