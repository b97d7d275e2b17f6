/-
usanceref10.Thin.
-/
import Derived.Test.YtacdhkkelkplnaaQPRuns2
section
namespace Go.Proofs.Ytacdhkkelkplnaa
open Go.RowKit
attribute [local go_sem ↓] Go.wp_at_zero Go.wp_at_succ
theorem strOfNums_bytes (bs : List UInt8) : strOfNums (bs.map fun b => (b.toNat : Int)) = ⟨bs.toArray⟩ := by
  have := bytesOf_bcell bs
  unfold Lib.bytesOf at this
  exact congrArg (fun l : List UInt8 => (⟨l.toArray⟩ : ByteArray)) this
theorem bequal_any (S S' : Nat → Prop) (v v' : Value) (xs ys : List UInt8) (w : World) (hx : Byt w S v xs) (hy : Byt w S' v' ys) :
    Calls Try.prog 25 #[v, v'] w fun e w' => e = .returned (.bool (decide (xs = ys))) ∧ w = w' := by
  refine (Try.bytes_Equal v v' (xs.map fun b => (b.toNat : Int)) (ys.map fun b => (b.toNat : Int)) w (by rw [strOfNums_bytes]; exact hx.convert) (by rw [strOfNums_bytes]; exact hy.convert)).mono ?_
  rintro r w' ⟨rfl, h⟩
  refine ⟨ret_bool ?_, h.symm⟩
  rw [bytesOf_bcell, bytesOf_bcell]
  rw [Bool.eq_iff_iff]
  simp
theorem Byt.lt {w : World} {S : Nat → Prop} {v : Value} {bs : List UInt8} (h : Byt w S v bs) : Byt w (fun i => i < w.heap.size) v bs := h.monoLt fun _ hi _ => hi
theorem Row.lt {w : World} {S : Nat → Prop} {A : Option Addr} {n size : Nat} {xs : List Value} (h : Row w S A n size xs) : Row w (fun i => i < w.heap.size) A n size xs :=
  ⟨h.1, fun hn => by
    obtain ⟨b, o, e, h1, hb, hc⟩ := h.2 hn
    exact ⟨b, o, e, hb, hb, hc⟩⟩
theorem Ents.lt {w : World} {S : Nat → Prop} {v : Value} {es : List Ent} (h : Ents w S v es) : Ents w (fun i => i < w.heap.size) v es := by
  obtain ⟨A, c, cs, e, h1, h2, h3, h4, h5⟩ := h
  exact ⟨A, c, cs, e, h1, h2, h3, h4.lt, h5.imp fun _ _ h => h.lt⟩
def thinC (mark : Int) (bottom : Bool) : List UInt8 → List Ent → List Ent
  | _, [] => []
  | a, e :: l => if e.seq ≤ mark then (if a = e.key then thinC mark bottom a l else if (e.dead && bottom) = true then thinC mark bottom e.key l else e :: thinC mark bottom e.key l) else e :: thinC mark bottom a l
theorem thinC_step {mark : Int} {bottom : Bool} (a : List UInt8) {es : List Ent} {k : Nat} {e : Ent} (h : es[k]? = some e) :
    thinC mark bottom a (es.drop k) = if e.seq ≤ mark then (if a = e.key then thinC mark bottom a (es.drop (k + 1)) else if (e.dead && bottom) = true then thinC mark bottom e.key (es.drop (k + 1)) else e :: thinC mark bottom e.key (es.drop (k + 1))) else e :: thinC mark bottom a (es.drop (k + 1)) := by
  rw [List.drop_eq_getElem_cons (List.getElem?_eq_some_iff.1 h).1, (List.getElem?_eq_some_iff.1 h).2]
  rfl
set_option maxRecDepth 100000 in
set_option maxHeartbeats 2000000 in
theorem thin_any (S : Nat → Prop) (v : Value) (es : List Ent) (mark : Int) (bottom : Bool) (w : World) (hv : Ents w S v es) :
    Calls Try.prog 24 #[v, .int .i64 mark, .bool bottom] w fun r w' => ∃ v', r = .returned (.tuple #[v', .int .i64 (if orderedE es then 0 else 30)]) ∧ Ents w' (fun i => w.heap.size ≤ i) v' (if orderedE es then thinC mark bottom [] es else []) ∧ Below w.heap.size w w' := by
  obtain ⟨i0, hi, hz0, hz1, hz2⟩ := info_parts info26
  have hby := Lib.hid hz2
  have hz1' := Lib.hid hz1
  clear hz2 hz1
  have HORD := Lib.hid (ordered_any S v es w hv)
  replace hv := hv.lt
  obtain ⟨S0, hS0⟩ : ∃ S0 : Nat → Prop, S0 = fun i => i < w.heap.size := ⟨_, rfl⟩
  rw [← hS0] at hv
  have HS0 := Lib.hid hS0
  clear hS0
  obtain ⟨A, c, cs, rfl, hc, hcm, hl, hr, he⟩ := hv
  obtain ⟨n, hn⟩ : ∃ n, es.length = n := ⟨_, rfl⟩
  rw [hn] at hr hl HORD ⊢
  have HN := Lib.hid hn
  clear hn
  rcases ho : orderedE es with _ | _
  · rw [ho] at HORD
    clear ho
    go_enter Try.func24, Try.ntmps24
    go_wp2_with (go_at_call 48; refine HORD.out.mono ?_; rintro r w1 ⟨rfl, hb1⟩)
    refine bodyPost_ret (v := .tuple #[_, _]) (by simp [results, Try.results24, go_sem]; exact ⟨rfl, rfl⟩) rfl ?_
    exact ⟨_, rfl, Ents.nil _ _, hb1⟩
  · rw [ho] at HORD
    clear ho
    go_enter Try.func24, Try.ntmps24
    go_wp2_with (go_at_call 48; refine HORD.out.mono ?_; rintro r w0 ⟨rfl, hb0⟩)
    go_loopw [8, 9, 11, 17] (fun v8 v9 _ t wr => ∃ k : Nat, ∃ a : List UInt8, ∃ ys : List Value, ∃ os : List Ent, k ≤ n ∧ t = .int .i64 k ∧ wr.ownsRow w.heap.size 46 4 v8 os.length ys ∧ EntCells wr (fresh w.heap.size v8) ys os ∧ Byt wr S0 v9 a ∧ thinC mark bottom [] es = os ++ thinC mark bottom a (es.drop k) ∧ os.length ≤ k ∧ Below w.heap.size w wr) (fun _ _ _ t _ => n - (intOf t).toNat)
    case atStart => exact ⟨0, [], [], [], by omega, rfl, World.ownsRow_nil _ _ _ _, trivial, Byt.nil _ _, rfl, by simp, hb0⟩
    case round =>
      obtain ⟨k, a, ys, os, hk, rfl, hown, hys, hah, hpre, hol, hbel⟩ := hrel
      by_cases hkn : k < n
      · obtain ⟨e, hek⟩ : ∃ e, es[k]? = some e := ⟨_, List.getElem?_eq_getElem (by rw [HN.out]; exact hkn)⟩
        obtain ⟨b, o, kk, uu, rfl, c0, c1, c2, c3, b1, b2, _, _⟩ := (hr.below hbel).ent (he.below hbel) HN.out hek
        obtain ⟨dd, hdd⟩ : ∃ d, e.dead = d := ⟨_, rfl⟩
        rw [hdd] at c2
        have HDD := Lib.hid hdd
        have HO := Lib.hid hown
        have HEK := Lib.hid hek
        have HST := Lib.hid (thinC_step (mark := mark) (bottom := bottom) a hek)
        have HPRE := Lib.hid hpre
        have hal : Below wr.heap.size wr (wr.alloc (.cells #[kk, .int .i64 e.seq, .bool dd, uu] 46)) := (Below.refl _ _).alloc (Nat.le_refl _) _
        have HB := Lib.hid (hbel.trans (hal.mono hbel.size))
        have hev := Lib.hid ((show EntV wr S0 (.agg #[kk, .int .i64 e.seq, .bool dd, uu]) e from ⟨_, _, by rw [hdd], b1, b2⟩).below hal)
        have HK := Lib.hid b1
        have HKA := Lib.hid (b1.below hal)
        have HAH := Lib.hid (hah.below hal)
        have HO1 := Lib.hid (own_below hown hal)
        have HYS := Lib.hid (hys.below hal)
        obtain ⟨Ak, ck, rfl⟩ := slice_form b1
        obtain ⟨Au, cu, rfl⟩ := slice_form b2
        obtain ⟨Aa, ca, rfl⟩ := slice_form hah
        clear hek hdd b1 b2 hown hpre hbel hah hys
        have HEQ := bequal_any S0 S0 _ _ a e.key _ HAH.out HKA.out
        by_cases hs : e.seq ≤ mark
        · by_cases hak : a = e.key
          · rw [decide_eq_true hak] at HEQ
            have HE := Lib.hid HEQ
            have HAK := Lib.hid hak
            clear HEQ hak
            go_wp2_with (go_at_call 25; refine HE.out.mono ?_; rintro r w1 ⟨rfl, rfl⟩)
            refine ⟨⟨k + 1, a, ys, os, by omega, by go_num, HO1.out, HYS.out, HAH.out, ?_, by omega, HB.out⟩, by simp [intOf]; omega⟩
            rw [HPRE.out, HST.out, if_pos hs, if_pos HAK.out]
          · rw [decide_eq_false hak] at HEQ
            have HE := Lib.hid HEQ
            clear HEQ
            by_cases hdb : (dd && bottom) = true
            · obtain ⟨rfl, rfl⟩ : dd = true ∧ bottom = true := by simpa using hdb
              go_wp2_with (go_at_call 25; refine HE.out.mono ?_; rintro r w1 ⟨rfl, rfl⟩)
              refine ⟨⟨k + 1, e.key, ys, os, by omega, by go_num, HO1.out, HYS.out, HKA.out, ?_, by omega, HB.out⟩, by simp [intOf]; omega⟩
              rw [HPRE.out, HST.out, if_pos hs, if_neg hak, HDD.out, if_pos (show (true && true) = true from rfl)]
            · have hdb2 := Lib.hid hdb
              clear hdb
              rcases dd with _ | _
              · go_wp2_with (first
                  | (go_at_call 25; refine HE.out.mono ?_; rintro r w1 ⟨rfl, rfl⟩)
                  | (go_at_call 51; refine (eclone_any S0 _ e _ hev.out).mono ?_; rintro r w1 ⟨v1, rfl, ⟨k', u', rfl, hk', hu'⟩, hb1⟩; obtain ⟨Ak, ck, rfl⟩ := slice_form hk'; obtain ⟨Au, cu, rfl⟩ := slice_form hu')
                  | (at_builtin; refine wpList_append_own_at _ rfl _ _ 41 rfl w.heap.size 46 i0 _ 4 64 Try.underlying41 hi hz0 hz1'.out hby.out rfl (by decide) _ _ _ rfl ((own_below HO1.out hb1).alloc _) ⟨w1.heap.size, 0, none⟩ 1 1 [.slice Ak e.key.length ck, .int .i64 e.seq, .bool e.dead, .slice Au e.val.length cu] rfl rfl (cell_four_new _ _ _ _ _ _) (by simp [Value.oneCell']) (by unfold maxLen; omega) (by omega) (by have := HB.out.size; have := hb1.size; simp; omega) ?_; intro v' w2 hown' hgrow _ hat))
                refine ⟨⟨k + 1, e.key, _, os ++ [e], by omega, by go_num, (by rw [List.length_append]; exact hown'), EntCells.push HO1.out HYS.out hb1 hk' hu' HB.out.size hgrow hat, ((HKA.out.below hb1).below ((Below.refl _ _).alloc (Nat.le_refl _) _)).push hgrow hat (fun i _ hs e => by have := HO1.out.lt i e; rw [HS0.out] at hs; omega) (fun i _ hs _ => hs), ?_, by simp; omega, ((HB.out.trans (hb1.mono HB.out.size)).alloc (by have := HB.out.size; have := hb1.size; omega) _).grown hgrow (by have := HB.out.size; have := hb1.size; simp; omega) (fun j e => (HO1.out.lt j e).1)⟩, by simp [intOf]; omega⟩
                rw [HPRE.out, HST.out, if_pos hs, if_neg hak, HDD.out]; simp
              · obtain rfl : bottom = false := by simpa using hdb2.out
                go_wp2_with (first
                  | (go_at_call 25; refine HE.out.mono ?_; rintro r w1 ⟨rfl, rfl⟩)
                  | (go_at_call 51; refine (eclone_any S0 _ e _ hev.out).mono ?_; rintro r w1 ⟨v1, rfl, ⟨k', u', rfl, hk', hu'⟩, hb1⟩; obtain ⟨Ak, ck, rfl⟩ := slice_form hk'; obtain ⟨Au, cu, rfl⟩ := slice_form hu')
                  | (at_builtin; refine wpList_append_own_at _ rfl _ _ 41 rfl w.heap.size 46 i0 _ 4 64 Try.underlying41 hi hz0 hz1'.out hby.out rfl (by decide) _ _ _ rfl ((own_below HO1.out hb1).alloc _) ⟨w1.heap.size, 0, none⟩ 1 1 [.slice Ak e.key.length ck, .int .i64 e.seq, .bool e.dead, .slice Au e.val.length cu] rfl rfl (cell_four_new _ _ _ _ _ _) (by simp [Value.oneCell']) (by unfold maxLen; omega) (by omega) (by have := HB.out.size; have := hb1.size; simp; omega) ?_; intro v' w2 hown' hgrow _ hat))
                refine ⟨⟨k + 1, e.key, _, os ++ [e], by omega, by go_num, (by rw [List.length_append]; exact hown'), EntCells.push HO1.out HYS.out hb1 hk' hu' HB.out.size hgrow hat, ((HKA.out.below hb1).below ((Below.refl _ _).alloc (Nat.le_refl _) _)).push hgrow hat (fun i _ hs e => by have := HO1.out.lt i e; rw [HS0.out] at hs; omega) (fun i _ hs _ => hs), ?_, by simp; omega, ((HB.out.trans (hb1.mono HB.out.size)).alloc (by have := HB.out.size; have := hb1.size; omega) _).grown hgrow (by have := HB.out.size; have := hb1.size; simp; omega) (fun j e => (HO1.out.lt j e).1)⟩, by simp [intOf]; omega⟩
                rw [HPRE.out, HST.out, if_pos hs, if_neg hak, HDD.out]; simp
        · go_wp2_with (first
            | (go_at_call 25; refine HE.out.mono ?_; rintro r w1 ⟨rfl, rfl⟩)
            | (go_at_call 51; refine (eclone_any S0 _ e _ hev.out).mono ?_; rintro r w1 ⟨v1, rfl, ⟨k', u', rfl, hk', hu'⟩, hb1⟩; obtain ⟨Ak, ck, rfl⟩ := slice_form hk'; obtain ⟨Au, cu, rfl⟩ := slice_form hu')
            | (at_builtin; refine wpList_append_own_at _ rfl _ _ 41 rfl w.heap.size 46 i0 _ 4 64 Try.underlying41 hi hz0 hz1'.out hby.out rfl (by decide) _ _ _ rfl ((own_below HO1.out hb1).alloc _) ⟨w1.heap.size, 0, none⟩ 1 1 [.slice Ak e.key.length ck, .int .i64 e.seq, .bool e.dead, .slice Au e.val.length cu] rfl rfl (cell_four_new _ _ _ _ _ _) (by simp [Value.oneCell']) (by unfold maxLen; omega) (by omega) (by have := HB.out.size; have := hb1.size; simp; omega) ?_; intro v' w2 hown' hgrow _ hat))
          refine ⟨⟨k + 1, a, _, os ++ [e], by omega, by go_num, (by rw [List.length_append]; exact hown'), EntCells.push HO1.out HYS.out hb1 hk' hu' HB.out.size hgrow hat, ((HAH.out.below hb1).below ((Below.refl _ _).alloc (Nat.le_refl _) _)).push hgrow hat (fun i _ hs e => by have := HO1.out.lt i e; rw [HS0.out] at hs; omega) (fun i _ hs _ => hs), ?_, by simp; omega, ((HB.out.trans (hb1.mono HB.out.size)).alloc (by have := HB.out.size; have := hb1.size; omega) _).grown hgrow (by have := HB.out.size; have := hb1.size; simp; omega) (fun j e => (HO1.out.lt j e).1)⟩, by simp [intOf]; omega⟩
          rw [HPRE.out, HST.out, if_neg (show ¬ e.seq ≤ mark by omega)]; simp
      · obtain rfl : k = n := by omega
        have HO := Lib.hid hown
        have HP := Lib.hid hpre
        clear hown hpre
        go_wp2
        refine bodyPost_ret (v := .tuple #[_, _]) (by simp [results, Try.results24, go_sem]; exact ⟨rfl, rfl⟩) rfl ?_
        refine ⟨_, rfl, ?_, hbel⟩
        have e1 : es.drop k = [] := List.drop_eq_nil_of_le (by rw [HN.out]; exact Nat.le_refl _)
        rw [HP.out, e1, thinC, List.append_nil]
        exact Ents.of_own HO.out (hys.mono fun i hi => hi.1) (fun i hi _ => hi) (by omega)
end Go.Proofs.Ytacdhkkelkplnaa
end
section
namespace Go.Proofs.Ytacdhkkelkplnaa
open Go.RowKit Go.BigFrame
attribute [local go_sem ↓] Go.wp_at_zero Go.wp_at_succ
def seenBy (mark : Int) : Option Ent → Ent → Bool
  | none, _ => false
  | some p, e => decide (p.key = e.key) && decide (p.seq ≤ mark)
def thinR (mark : Int) (bottom : Bool) : Option Ent → List Ent → List Ent
  | _, [] => []
  | p, e :: l => if mark < e.seq then e :: thinR mark bottom (some e) l else if seenBy mark p e = true then thinR mark bottom (some e) l else if (!e.dead || !bottom) = true then e :: thinR mark bottom (some e) l else thinR mark bottom (some e) l
theorem thinR_step {mark : Int} {bottom : Bool} (p : Option Ent) {es : List Ent} {k : Nat} {e : Ent} (h : es[k]? = some e) :
    thinR mark bottom p (es.drop k) = if mark < e.seq then e :: thinR mark bottom (some e) (es.drop (k + 1)) else if seenBy mark p e = true then thinR mark bottom (some e) (es.drop (k + 1)) else if (!e.dead || !bottom) = true then e :: thinR mark bottom (some e) (es.drop (k + 1)) else thinR mark bottom (some e) (es.drop (k + 1)) := by
  rw [List.drop_eq_getElem_cons (List.getElem?_eq_some_iff.1 h).1, (List.getElem?_eq_some_iff.1 h).2]
  rfl
theorem EntCells.pushOld {base : Nat} {wr w1 w2 : World} {S0 : Nat → Prop} {v v' k u : Value} {n : Nat} {ys : List Value} {es : List Ent} {e : Ent} {d : Bool} {o : Obj} {t : TypeId} (hd : e.dead = d) (hown : wr.ownsRow base t 4 v n ys) (hys : EntCells wr S0 ys es) (hb1 : Below wr.heap.size wr w1)
    (hk : Byt wr S0 k e.key) (hu : Byt wr S0 u e.val) (hS0 : ∀ i, S0 i → i < base) (hg : (w1.alloc o).grownBy w2 v.ownBlock) (hat : v'.ownBlock = v.ownBlock ∨ v'.ownBlock = some (w1.alloc o).heap.size) :
    EntCells w2 S0 (ys ++ [k, .int .i64 e.seq, .bool d, u]) (es ++ [e]) := by
  subst hd
  have hal : Below w1.heap.size w1 (w1.alloc o) := (Below.refl _ _).alloc (Nat.le_refl _) _
  have old : ∀ x bs, Byt wr S0 x bs → Byt w2 S0 x bs := fun x bs h =>
    ((h.below hb1).below hal).push hg hat (fun i _ hs e => by have := (hown.lt i e).1; have := hS0 i hs; omega) (fun i _ hs _ => hs)
  exact (hys.imp old).append (EntCells.one (old _ _ hk) (old _ _ hu))
set_option maxRecDepth 100000 in
set_option maxHeartbeats 4000000 in
theorem rthin_any (S : Nat → Prop) (v : Value) (es : List Ent) (mark : Int) (bottom : Bool) (w : World) (hv : Ents w S v es) :
    Calls Try.prog 27 #[v, .int .i64 mark, .bool bottom] w fun r w' => ∃ v', r = .returned (.tuple #[v', .int .i64 (if orderedE es then 0 else 30)]) ∧ Ents w' (fun _ => True) v' (if orderedE es then thinR mark bottom none es else []) ∧ Below w.heap.size w w' := by
  obtain ⟨i0, hi, hz0, hz1, hz2⟩ := info_parts info26
  have hby := Lib.hid hz2
  have hz1' := Lib.hid hz1
  clear hz2 hz1
  have HORD := Lib.hid (rordered_any S v es w hv)
  replace hv := hv.lt
  obtain ⟨S0, hS0⟩ : ∃ S0 : Nat → Prop, S0 = fun i => i < w.heap.size := ⟨_, rfl⟩
  rw [← hS0] at hv
  have HS0 := Lib.hid hS0
  clear hS0
  obtain ⟨A, c, cs, rfl, hc, hcm, hl, hr, he⟩ := hv
  obtain ⟨n, hn⟩ : ∃ n, es.length = n := ⟨_, rfl⟩
  rw [hn] at hr hl HORD ⊢
  have HN := Lib.hid hn
  clear hn
  rcases ho : orderedE es with _ | _
  · rw [ho] at HORD
    clear ho
    go_enter Try.func27, Try.ntmps27
    go_wp2_with (go_at_call 28; refine HORD.out.mono ?_; rintro r w1 ⟨rfl, hb1⟩)
    refine bodyPost_ret (v := .tuple #[_, _]) (by simp [results, Try.results27, go_sem]; exact ⟨rfl, rfl⟩) rfl ?_
    exact ⟨_, rfl, Ents.nil _ _, hb1⟩
  · rw [ho] at HORD
    clear ho
    go_enter Try.func27, Try.ntmps27
    go_wp2_with (go_at_call 28; refine HORD.out.mono ?_; rintro r w0 ⟨rfl, hb0⟩)
    go_loopw [8, 9, 15] (fun v8 _ t wr => ∃ k : Nat, ∃ ys : List Value, ∃ os : List Ent, k ≤ n ∧ t = .int .i64 k ∧ wr.ownsRow w.heap.size 46 4 v8 os.length ys ∧ EntCells wr S0 ys os ∧ thinR mark bottom none es = os ++ thinR mark bottom (if k = 0 then none else es[k - 1]?) (es.drop k) ∧ os.length ≤ k ∧ Below w.heap.size w wr) (fun _ _ t _ => n - (intOf t).toNat)
    case atStart => exact ⟨0, [], [], by omega, rfl, World.ownsRow_nil _ _ _ _, trivial, rfl, by simp, hb0⟩
    case round =>
      obtain ⟨k, ys, os, hk, rfl, hown, hys, hpre, hol, hbel⟩ := hrel
      by_cases hkn : k < n
      · obtain ⟨e, hek⟩ : ∃ e, es[k]? = some e := ⟨_, List.getElem?_eq_getElem (by rw [HN.out]; exact hkn)⟩
        obtain ⟨b, o, kk, uu, rfl, c0, c1, c2, c3, b1, b2, _, _⟩ := (hr.below hbel).ent (he.below hbel) HN.out hek
        obtain ⟨dd, hdd⟩ : ∃ d, e.dead = d := ⟨_, rfl⟩
        rw [hdd] at c2
        have HDD := Lib.hid hdd
        have HO := Lib.hid hown
        have HEK := Lib.hid hek
        have HST := Lib.hid (thinR_step (mark := mark) (bottom := bottom) (if k = 0 then none else es[k - 1]?) hek)
        have HPRE := Lib.hid hpre
        have HB := Lib.hid hbel
        have HKY := Lib.hid b1
        have HVL := Lib.hid b2
        have HYS := Lib.hid hys
        have HHR := Lib.hid (hr.below hbel)
        have HHE := Lib.hid (he.below hbel)
        obtain ⟨Ak, ck, rfl⟩ := slice_form b1
        obtain ⟨Au, cu, rfl⟩ := slice_form b2
        clear hek hdd b1 b2 hown hpre hbel hys
        by_cases hs : mark < e.seq
        · have HS := Lib.hid hs
          have HB1 := Lib.hid (Below.refl wr.heap.size wr)
          go_wp2_with (at_builtin; refine wpList_append_own_at _ rfl _ _ 41 rfl w.heap.size 46 i0 _ 4 64 Try.underlying41 hi hz0 hz1'.out hby.out rfl (by decide) _ _ _ rfl ((own_below HO.out HB1.out).alloc _) ⟨(wr).heap.size, 0, none⟩ 1 1 [.slice Ak e.key.length ck, .int .i64 e.seq, .bool dd, .slice Au e.val.length cu] rfl rfl (cell_four_new _ _ _ _ _ _) (by simp [Value.oneCell']) (by unfold maxLen; omega) (by omega) (by have := HB.out.size; have := HB1.out.size; simp; omega) ?_; intro v' w2 hown' hgrow _ hat)
          refine ⟨⟨k + 1, _, os ++ [e], by omega, by go_num, (by rw [List.length_append]; exact hown'), EntCells.pushOld (e := e) (d := dd) HDD.out HO.out HYS.out HB1.out HKY.out HVL.out (fun i hs => by rw [HS0.out] at hs; exact hs) hgrow hat, ?_, by simp; omega, ((HB.out.trans (HB1.out.mono HB.out.size)).alloc (by have := HB.out.size; have := HB1.out.size; omega) _).grown hgrow (by have := HB.out.size; have := HB1.out.size; simp; omega) (fun j e => (HO.out.lt j e).1)⟩, by simp [intOf]; omega⟩
          rw [HPRE.out, HST.out, if_pos HS.out]; simp [HEK.out]
        · have HS := Lib.hid hs
          have hle : e.seq ≤ mark := by omega
          have F0 : ∀ q : Ext wr, q.w.cell? { block := b, off := o + k * 4 } = _ := fun q => q.h.cell c0
          have HCK : ∀ q : Ext wr, (convert 44 9 (.slice Ak e.key.length ck)).run Try.prog q.w = .ok (.string ⟨e.key.toArray⟩) q.w := fun q => (HKY.out.below q.h).convert
          go_wp2
          rcases Nat.eq_zero_or_pos k with h0 | h0
          · have hd0 : decide ((0:Int) < (k:Int)) = false := by simp; omega
            have HSEEN := Lib.hid (show seenBy mark (if k = 0 then none else es[k - 1]?) e = false by rw [if_pos h0]; rfl)
            (refine wp_region_quiet_ext (by kernel_rfl) (by kernel_rfl) ?_; (repeat (go_big_quiet_step (fail))); refine wpQuiet_nil ?_; intro wq hw'; obtain ⟨⟨_, hq⟩, hw''⟩ := hw'; subst hw'')
            clear hd0 h0
            have HB1 := Lib.hid (show Below wr.heap.size wr wq from hq)
            have C0 := hq.cell c0
            have C1 := hq.cell c1
            have C2 := hq.cell c2
            have C3 := hq.cell c3
            clear hq
            rcases dd with _ | _
            · go_wp2_with (at_builtin; refine wpList_append_own_at _ rfl _ _ 41 rfl w.heap.size 46 i0 _ 4 64 Try.underlying41 hi hz0 hz1'.out hby.out rfl (by decide) _ _ _ rfl ((own_below HO.out HB1.out).alloc _) ⟨(wq).heap.size, 0, none⟩ 1 1 [.slice Ak e.key.length ck, .int .i64 e.seq, .bool false, .slice Au e.val.length cu] rfl rfl (cell_four_new _ _ _ _ _ _) (by simp [Value.oneCell']) (by unfold maxLen; omega) (by omega) (by have := HB.out.size; have := HB1.out.size; simp; omega) ?_; intro v' w2 hown' hgrow _ hat)
              refine ⟨⟨k + 1, _, os ++ [e], by omega, by go_num, (by rw [List.length_append]; exact hown'), EntCells.pushOld (e := e) (d := false) HDD.out HO.out HYS.out HB1.out HKY.out HVL.out (fun i hs => by rw [HS0.out] at hs; exact hs) hgrow hat, ?_, by simp; omega, ((HB.out.trans (HB1.out.mono HB.out.size)).alloc (by have := HB.out.size; have := HB1.out.size; omega) _).grown hgrow (by have := HB.out.size; have := HB1.out.size; simp; omega) (fun j e => (HO.out.lt j e).1)⟩, by simp [intOf]; omega⟩
              rw [HPRE.out, HST.out, if_neg (show ¬ mark < e.seq by have := HS.out; omega), HSEEN.out]; simp [HEK.out, HDD.out]
            · rcases bottom with _ | _
              · go_wp2_with (at_builtin; refine wpList_append_own_at _ rfl _ _ 41 rfl w.heap.size 46 i0 _ 4 64 Try.underlying41 hi hz0 hz1'.out hby.out rfl (by decide) _ _ _ rfl ((own_below HO.out HB1.out).alloc _) ⟨(wq).heap.size, 0, none⟩ 1 1 [.slice Ak e.key.length ck, .int .i64 e.seq, .bool true, .slice Au e.val.length cu] rfl rfl (cell_four_new _ _ _ _ _ _) (by simp [Value.oneCell']) (by unfold maxLen; omega) (by omega) (by have := HB.out.size; have := HB1.out.size; simp; omega) ?_; intro v' w2 hown' hgrow _ hat)
                refine ⟨⟨k + 1, _, os ++ [e], by omega, by go_num, (by rw [List.length_append]; exact hown'), EntCells.pushOld (e := e) (d := true) HDD.out HO.out HYS.out HB1.out HKY.out HVL.out (fun i hs => by rw [HS0.out] at hs; exact hs) hgrow hat, ?_, by simp; omega, ((HB.out.trans (HB1.out.mono HB.out.size)).alloc (by have := HB.out.size; have := HB1.out.size; omega) _).grown hgrow (by have := HB.out.size; have := HB1.out.size; simp; omega) (fun j e => (HO.out.lt j e).1)⟩, by simp [intOf]; omega⟩
                rw [HPRE.out, HST.out, if_neg (show ¬ mark < e.seq by have := HS.out; omega), HSEEN.out]; simp [HEK.out, HDD.out]
              · go_wp2
                refine ⟨⟨k + 1, _, os, by omega, by go_num, own_below HO.out HB1.out, HYS.out.below HB1.out, ?_, by omega, HB.out.trans (HB1.out.mono HB.out.size)⟩, by simp [intOf]; omega⟩
                rw [HPRE.out, HST.out, if_neg (show ¬ mark < e.seq by have := HS.out; omega), HSEEN.out]; simp [HEK.out, HDD.out]
          · obtain ⟨j, rfl⟩ : ∃ j, k = j + 1 := ⟨k - 1, by omega⟩
            obtain ⟨e', hej⟩ : ∃ e, es[j]? = some e := ⟨_, List.getElem?_eq_getElem (by rw [HN.out]; omega)⟩
            obtain ⟨b', o', kk', uu', hE, d0, d1, d2, d3, b1, b2, _, _⟩ := HHR.out.ent HHE.out HN.out hej
            cases hE
            obtain ⟨Ak', ck', rfl⟩ := slice_form b1
            have G0 : ∀ q : Ext wr, q.w.cell? { block := b, off := o + j * 4 } = _ := fun q => q.h.cell d0
            have G1 : ∀ q : Ext wr, q.w.cell? { block := b, off := o + j * 4 + 1 } = _ := fun q => q.h.cell d1
            have GCK : ∀ q : Ext wr, (convert 44 9 (.slice Ak' e'.key.length ck')).run Try.prog q.w = .ok (.string ⟨e'.key.toArray⟩) q.w := fun q => (b1.below q.h).convert
            have hd0 : decide ((0:Int) < (j:Int) + 1) = true := by first | (simp; done) | (simp; omega)
            have HJ := Lib.hid (show (if j + 1 = 0 then none else es[j + 1 - 1]?) = some e' by simpa using hej)
            clear hej b1 b2 d0 d1 d2 d3 h0
            by_cases hke : e'.key = e.key
            · have HKE := Lib.hid hke
              have GCK2 : ∀ q : Ext wr, (convert 44 9 (.slice Ak' e'.key.length ck')).run Try.prog q.w = .ok (.string ⟨e.key.toArray⟩) q.w := fun q => by rw [GCK q, hke]
              clear hke GCK
              by_cases hsq : e'.seq ≤ mark
              · have HSEEN := Lib.hid (show seenBy mark (if j + 1 = 0 then none else es[j + 1 - 1]?) e = true by rw [HJ.out]; simp [seenBy, HKE.out, hsq])
                (refine wp_region_quiet_ext (by kernel_rfl) (by kernel_rfl) ?_; (repeat (go_big_quiet_step (fail))); refine wpQuiet_nil ?_; intro wq hw'; obtain ⟨⟨_, hq⟩, hw''⟩ := hw'; subst hw'')
                have HB1 := Lib.hid (show Below wr.heap.size wr wq from hq)
                clear hq
                go_wp2
                refine ⟨⟨j + 1 + 1, _, os, by omega, by go_num, own_below HO.out HB1.out, HYS.out.below HB1.out, ?_, by omega, HB.out.trans (HB1.out.mono HB.out.size)⟩, by simp [intOf]; omega⟩
                rw [HPRE.out, HST.out, if_neg (show ¬ mark < e.seq by have := HS.out; omega), HSEEN.out]; simp [HEK.out]
              · have HSEEN := Lib.hid (show seenBy mark (if j + 1 = 0 then none else es[j + 1 - 1]?) e = false by rw [HJ.out]; simp [seenBy, HKE.out]; omega)
                (refine wp_region_quiet_ext (by kernel_rfl) (by kernel_rfl) ?_; (repeat (go_big_quiet_step (fail))); refine wpQuiet_nil ?_; intro wq hw'; obtain ⟨⟨_, hq⟩, hw''⟩ := hw'; subst hw'')
                have HB1 := Lib.hid (show Below wr.heap.size wr wq from hq)
                have C0 := hq.cell c0
                have C1 := hq.cell c1
                have C2 := hq.cell c2
                have C3 := hq.cell c3
                clear hq
                rcases dd with _ | _
                · go_wp2_with (at_builtin; refine wpList_append_own_at _ rfl _ _ 41 rfl w.heap.size 46 i0 _ 4 64 Try.underlying41 hi hz0 hz1'.out hby.out rfl (by decide) _ _ _ rfl ((own_below HO.out HB1.out).alloc _) ⟨(wq).heap.size, 0, none⟩ 1 1 [.slice Ak e.key.length ck, .int .i64 e.seq, .bool false, .slice Au e.val.length cu] rfl rfl (cell_four_new _ _ _ _ _ _) (by simp [Value.oneCell']) (by unfold maxLen; omega) (by omega) (by have := HB.out.size; have := HB1.out.size; simp; omega) ?_; intro v' w2 hown' hgrow _ hat)
                  refine ⟨⟨j + 1 + 1, _, os ++ [e], by omega, by go_num, (by rw [List.length_append]; exact hown'), EntCells.pushOld (e := e) (d := false) HDD.out HO.out HYS.out HB1.out HKY.out HVL.out (fun i hs => by rw [HS0.out] at hs; exact hs) hgrow hat, ?_, by simp; omega, ((HB.out.trans (HB1.out.mono HB.out.size)).alloc (by have := HB.out.size; have := HB1.out.size; omega) _).grown hgrow (by have := HB.out.size; have := HB1.out.size; simp; omega) (fun j e => (HO.out.lt j e).1)⟩, by simp [intOf]; omega⟩
                  rw [HPRE.out, HST.out, if_neg (show ¬ mark < e.seq by have := HS.out; omega), HSEEN.out]; simp [HEK.out, HDD.out]
                · rcases bottom with _ | _
                  · go_wp2_with (at_builtin; refine wpList_append_own_at _ rfl _ _ 41 rfl w.heap.size 46 i0 _ 4 64 Try.underlying41 hi hz0 hz1'.out hby.out rfl (by decide) _ _ _ rfl ((own_below HO.out HB1.out).alloc _) ⟨(wq).heap.size, 0, none⟩ 1 1 [.slice Ak e.key.length ck, .int .i64 e.seq, .bool true, .slice Au e.val.length cu] rfl rfl (cell_four_new _ _ _ _ _ _) (by simp [Value.oneCell']) (by unfold maxLen; omega) (by omega) (by have := HB.out.size; have := HB1.out.size; simp; omega) ?_; intro v' w2 hown' hgrow _ hat)
                    refine ⟨⟨j + 1 + 1, _, os ++ [e], by omega, by go_num, (by rw [List.length_append]; exact hown'), EntCells.pushOld (e := e) (d := true) HDD.out HO.out HYS.out HB1.out HKY.out HVL.out (fun i hs => by rw [HS0.out] at hs; exact hs) hgrow hat, ?_, by simp; omega, ((HB.out.trans (HB1.out.mono HB.out.size)).alloc (by have := HB.out.size; have := HB1.out.size; omega) _).grown hgrow (by have := HB.out.size; have := HB1.out.size; simp; omega) (fun j e => (HO.out.lt j e).1)⟩, by simp [intOf]; omega⟩
                    rw [HPRE.out, HST.out, if_neg (show ¬ mark < e.seq by have := HS.out; omega), HSEEN.out]; simp [HEK.out, HDD.out]
                  · go_wp2
                    refine ⟨⟨j + 1 + 1, _, os, by omega, by go_num, own_below HO.out HB1.out, HYS.out.below HB1.out, ?_, by omega, HB.out.trans (HB1.out.mono HB.out.size)⟩, by simp [intOf]; omega⟩
                    rw [HPRE.out, HST.out, if_neg (show ¬ mark < e.seq by have := HS.out; omega), HSEEN.out]; simp [HEK.out, HDD.out]
            · have HSEEN := Lib.hid (show seenBy mark (if j + 1 = 0 then none else es[j + 1 - 1]?) e = false by rw [HJ.out]; simp [seenBy, hke])
              have hne1 : ¬ (⟨e'.key.toArray⟩ : ByteArray) = ⟨e.key.toArray⟩ := by simpa using hke
              have hne2 : decide ((⟨e'.key.toArray⟩ : ByteArray) = ⟨e.key.toArray⟩) = false := by simpa using hke
              have hne4 : (e'.key == e.key) = false := by simpa using hke
              have hne5 : decide (e'.key = e.key) = false := by simpa using hke
              (refine wp_region_quiet_ext (by kernel_rfl) (by kernel_rfl) ?_; (repeat (go_big_quiet_step (fail))); refine wpQuiet_nil ?_; intro wq hw'; obtain ⟨⟨_, hq⟩, hw''⟩ := hw'; subst hw'')
              have HB1 := Lib.hid (show Below wr.heap.size wr wq from hq)
              have C0 := hq.cell c0
              have C1 := hq.cell c1
              have C2 := hq.cell c2
              have C3 := hq.cell c3
              clear hq
              rcases dd with _ | _
              · go_wp2_with (at_builtin; refine wpList_append_own_at _ rfl _ _ 41 rfl w.heap.size 46 i0 _ 4 64 Try.underlying41 hi hz0 hz1'.out hby.out rfl (by decide) _ _ _ rfl ((own_below HO.out HB1.out).alloc _) ⟨(wq).heap.size, 0, none⟩ 1 1 [.slice Ak e.key.length ck, .int .i64 e.seq, .bool false, .slice Au e.val.length cu] rfl rfl (cell_four_new _ _ _ _ _ _) (by simp [Value.oneCell']) (by unfold maxLen; omega) (by omega) (by have := HB.out.size; have := HB1.out.size; simp; omega) ?_; intro v' w2 hown' hgrow _ hat)
                refine ⟨⟨j + 1 + 1, _, os ++ [e], by omega, by go_num, (by rw [List.length_append]; exact hown'), EntCells.pushOld (e := e) (d := false) HDD.out HO.out HYS.out HB1.out HKY.out HVL.out (fun i hs => by rw [HS0.out] at hs; exact hs) hgrow hat, ?_, by simp; omega, ((HB.out.trans (HB1.out.mono HB.out.size)).alloc (by have := HB.out.size; have := HB1.out.size; omega) _).grown hgrow (by have := HB.out.size; have := HB1.out.size; simp; omega) (fun j e => (HO.out.lt j e).1)⟩, by simp [intOf]; omega⟩
                rw [HPRE.out, HST.out, if_neg (show ¬ mark < e.seq by have := HS.out; omega), HSEEN.out]; simp [HEK.out, HDD.out]
              · rcases bottom with _ | _
                · go_wp2_with (at_builtin; refine wpList_append_own_at _ rfl _ _ 41 rfl w.heap.size 46 i0 _ 4 64 Try.underlying41 hi hz0 hz1'.out hby.out rfl (by decide) _ _ _ rfl ((own_below HO.out HB1.out).alloc _) ⟨(wq).heap.size, 0, none⟩ 1 1 [.slice Ak e.key.length ck, .int .i64 e.seq, .bool true, .slice Au e.val.length cu] rfl rfl (cell_four_new _ _ _ _ _ _) (by simp [Value.oneCell']) (by unfold maxLen; omega) (by omega) (by have := HB.out.size; have := HB1.out.size; simp; omega) ?_; intro v' w2 hown' hgrow _ hat)
                  refine ⟨⟨j + 1 + 1, _, os ++ [e], by omega, by go_num, (by rw [List.length_append]; exact hown'), EntCells.pushOld (e := e) (d := true) HDD.out HO.out HYS.out HB1.out HKY.out HVL.out (fun i hs => by rw [HS0.out] at hs; exact hs) hgrow hat, ?_, by simp; omega, ((HB.out.trans (HB1.out.mono HB.out.size)).alloc (by have := HB.out.size; have := HB1.out.size; omega) _).grown hgrow (by have := HB.out.size; have := HB1.out.size; simp; omega) (fun j e => (HO.out.lt j e).1)⟩, by simp [intOf]; omega⟩
                  rw [HPRE.out, HST.out, if_neg (show ¬ mark < e.seq by have := HS.out; omega), HSEEN.out]; simp [HEK.out, HDD.out]
                · go_wp2
                  refine ⟨⟨j + 1 + 1, _, os, by omega, by go_num, own_below HO.out HB1.out, HYS.out.below HB1.out, ?_, by omega, HB.out.trans (HB1.out.mono HB.out.size)⟩, by simp [intOf]; omega⟩
                  rw [HPRE.out, HST.out, if_neg (show ¬ mark < e.seq by have := HS.out; omega), HSEEN.out]; simp [HEK.out, HDD.out]
      · obtain rfl : k = n := by omega
        have HO := Lib.hid hown
        have HP := Lib.hid hpre
        clear hown hpre
        go_wp2
        refine bodyPost_ret (v := .tuple #[_, _]) (by simp [results, Try.results27, go_sem]; exact ⟨rfl, rfl⟩) rfl ?_
        refine ⟨_, rfl, ?_, hbel⟩
        have e1 : es.drop k = [] := List.drop_eq_nil_of_le (by rw [HN.out]; exact Nat.le_refl _)
        rw [HP.out, e1, thinR, List.append_nil]
        exact Ents.of_own HO.out (hys.mono fun i hi => trivial) (fun i hi _ => trivial) (by omega)
end Go.Proofs.Ytacdhkkelkplnaa
end
