/-
Plain: Visible's two answers are one.
-/
import Derived.Test.YtelbidknefkaiaaQPMemOwn4
import Derived.StillTailTactics
section
namespace Go.Proofs.Ytelbidknefkaiaa
open Go.RowKit
attribute [local go_sem ↓] Go.wp_at_zero Go.wp_at_succ
theorem step_append_own_at {w : World} {ops : Array Oper} {o : Oper} {a : Act} {K : Act → World → Prop} {Q : Exit → Act → World → Prop} {E : Prop} (hgd : o.guard = none) (s x : Operand) (t : TypeId)
    (ho : o.op = .call { callee := .builtin .append, args := #[s, x], argTypes := #[t, t] })
    (base : Nat) (e : TypeId) (i : TypeInfo) (z : Value) (size bytes : Nat) (ht : Try.prog.underlying t = some (.slice e)) (hi : Try.prog.info? e = some i) (hz : i.zero = some z)
    (hsize : i.size = size) (hby : i.bytes = bytes) (hzs : z.cells.size = size) (hsz : 0 < size)
    (v : Value) (n : Nat) (xs : List Value) (hs : a.eval s = v) (hown : w.ownsRow base e size v n xs)
    (ad : Addr) (m c : Nat) (news : List Value) (hx : a.eval x = .slice (some ad) m c) (hl : news.length = m * size) (hnews : ∀ j u, news[j]? = some u → w.cell? (ad.add j) = some u) (h1 : ∀ u ∈ news, u.oneCell' = true)
    (h63 : n + m ≤ maxLen) (hbytes : (n + m) * bytes ≤ 140737488355328) (hbase : base ≤ w.heap.size)
    (hK : ∀ v' w', w'.ownsRow base e size v' (n + m) (xs ++ news) → w.grownBy w' v.ownBlock → (v'.ownBlock = v.ownBlock ∨ v'.ownBlock = some w.heap.size) → K (a.put o.dst v') w') :
    if Region.wanted o (yielded ops a.tmps) = true then Oper.wp Try.prog o a w K Q else E := by
  have hw : Region.wanted o (yielded ops a.tmps) = true := by simp [Region.wanted, hgd]
  rw [if_pos hw]
  obtain ⟨v', w', hr, h2, h3, h4, h5⟩ := run_append_own_at (P := Try.prog) w base t o.type e i z size bytes ht hi hz hsize hby hzs hsz v n xs hown ad m c news hl hnews h1 h63 hbytes hbase
  unfold Oper.wp execOp
  simp only [ho, resolve, invoke, builtin, Sem.run_bind, Sem.run_pure, Result.andThen_ok, List.map_toArray, List.map_cons, List.map_nil, hs, hx, hr]
  exact hK v' w' h2 h3 h5
theorem PrCells.push {base : Nat} {wr w1 w2 : World} {v v' k u : Value} {n : Nat} {ys : List Value} {es : List Pr} {e : Pr} {o : Obj} {t : TypeId} (hown : wr.ownsRow base t 2 v n ys) (hys : PrCells wr (fresh base v) ys es) (hb1 : Below wr.heap.size wr w1)
    (hk : Byt w1 (fun i => wr.heap.size ≤ i) k e.key) (hu : Byt w1 (fun i => wr.heap.size ≤ i) u e.val) (hbase : base ≤ wr.heap.size) (hg : (w1.alloc o).grownBy w2 v.ownBlock) (hat : v'.ownBlock = v.ownBlock ∨ v'.ownBlock = some (w1.alloc o).heap.size) :
    PrCells w2 (fresh base v') (ys ++ [k, u]) (es ++ [e]) := by
  have hal : Below w1.heap.size w1 (w1.alloc o) := (Below.refl _ _).alloc (Nat.le_refl _) _
  have hz := hb1.size
  have old : ∀ x bs, Byt wr (fresh base v) x bs → Byt w2 (fresh base v') x bs := fun x bs h =>
    ((h.below hb1).below hal).push hg hat (fun i _ hs => hs.2) (fun i _ hs hn => ⟨hs.1, hn⟩)
  have new : ∀ x bs, Byt w1 (fun i => wr.heap.size ≤ i) x bs → Byt w2 (fresh base v') x bs := fun x bs h =>
    (h.below hal).push hg hat (fun i _ hs e => by have := hown.lt i e; omega) (fun i _ hs hn => ⟨by omega, hn⟩)
  exact (hys.imp old).append (PrCells.one (new _ _ hk) (new _ _ hu))
def visC (seq : Int) : List UInt8 → List Ent → List Pr
  | _, [] => []
  | a, e :: l => if seq < e.seq then visC seq a l else if a = e.key then visC seq a l else if e.dead = true then visC seq e.key l else ⟨e.key, e.val⟩ :: visC seq e.key l
theorem visC_step {seq : Int} (a : List UInt8) {es : List Ent} {k : Nat} {e : Ent} (h : es[k]? = some e) :
    visC seq a (es.drop k) = if seq < e.seq then visC seq a (es.drop (k + 1)) else if a = e.key then visC seq a (es.drop (k + 1)) else if e.dead = true then visC seq e.key (es.drop (k + 1)) else ⟨e.key, e.val⟩ :: visC seq e.key (es.drop (k + 1)) := by
  rw [List.drop_eq_getElem_cons (List.getElem?_eq_some_iff.1 h).1, (List.getElem?_eq_some_iff.1 h).2]
  rfl
/-- the frame in the region of clones. -/
theorem fr.all {W w' : World} {p q : Addr} {a b : Value} (h : fr W w') (c0 : W.cell? p = some a) (c3 : W.cell? q = some b) : w'.cell? p = some a ∧ w'.cell? q = some b ∧ fr W w' := ⟨h.cell c0, h.cell c3, h⟩
theorem fr.byt {W w' : World} (h : fr W w') {S : Nat → Prop} {v : Value} {bs : List UInt8} (hv : Byt W S v bs) : Byt w' S v bs := hv.below h
theorem fr.undrew {W w' : World} (h : fr W w'.drew) : fr W w' := undrewR h
theorem fr.two {W w' : World} {p q : Addr} {a b : Value} (h : fr W w') (c0 : W.cell? p = some a) (c3 : W.cell? q = some b) : w'.cell? p = some a ∧ w'.cell? q = some b := ⟨h.cell c0, h.cell c3⟩
theorem fr.grown {W w' w2 : World} {B i j : Nat} {a b : Value} {g : Option Nat} (h : fr W w') (c0 : W.cell? ⟨B, i, none⟩ = some a) (c3 : W.cell? ⟨B, j, none⟩ = some b) (hg : w'.grownBy w2 g) (hne : ¬ g = some B) :
    w2.cell? ⟨B, i, none⟩ = some a ∧ w2.cell? ⟨B, j, none⟩ = some b := by
  have hlt : B < W.heap.size := World.block_lt_of_cell? W _ c0
  have hb := hg.block B (by have := Below.size h; omega) (fun e => hne e.symm)
  exact ⟨(World.cell?_of_block (w' := w2) (w := w') (a := ⟨B, i, none⟩) hb).trans (h.cell c0), (World.cell?_of_block (w' := w2) (w := w') (a := ⟨B, j, none⟩) hb).trans (h.cell c3)⟩
theorem cell_two_new (w : World) (a b : Value) (t : TypeId) : ∀ j u, [a, b][j]? = some u → (w.alloc (.cells #[a, b] t)).cell? ((⟨w.heap.size, 0, none⟩ : Addr).add j) = some u := by
  intro j u hu
  rw [Addr.add_lit, World.cell?_alloc_at _ _ _ _ rfl]
  simpa using hu
set_option maxRecDepth 100000 in
set_option maxHeartbeats 4000000 in
theorem vis_any (S : Nat → Prop) (v : Value) (es : List Ent) (seq : Int) (w : World) (hv : Ents w S v es) :
    Calls Try.prog 26 #[v, .int .i64 seq] w fun r w' => ∃ v', r = .returned (.tuple #[v', .int .i64 (if orderedE es then 0 else 30)]) ∧ Prs w' (fun i => w.heap.size ≤ i) v' (if orderedE es then visC seq [] es else []) ∧ Below w.heap.size w w' := by
  obtain ⟨i0, hi, hz0, hz1, hz2⟩ := info_parts info65
  have hby := Lib.hid hz2
  have hz1' := Lib.hid hz1
  clear hz2 hz1
  have HORD := Lib.hid (ordered_any S v es w hv)
  replace hv := hv.lt
  obtain ⟨S0, hS0⟩ : ∃ S0 : Nat → Prop, S0 = fun i => i < w.heap.size := ⟨_, rfl⟩
  rw [← hS0] at hv
  have HS0 := Lib.hid hS0
  clear hS0
  obtain ⟨A, c, cs, rfl, hc, hcm, hl, hr, he⟩ := hv
  obtain ⟨n, hn⟩ : ∃ n, es.length = n := ⟨_, rfl⟩
  rw [hn] at hr hl HORD ⊢
  have HN := Lib.hid hn
  clear hn
  rcases ho : orderedE es with _ | _
  · rw [ho] at HORD
    clear ho
    go_enter Try.func26, Try.ntmps26
    go_wp2_with (go_at_call 43; refine HORD.out.mono ?_; rintro r w1 ⟨rfl, hb1⟩)
    refine bodyPost_ret (v := .tuple #[_, _]) (by simp [results, Try.results26, go_sem]; exact ⟨rfl, rfl⟩) rfl ?_
    exact ⟨_, rfl, Prs.nil _ _, hb1⟩
  · rw [ho] at HORD
    clear ho
    go_enter Try.func26, Try.ntmps26
    go_wp2_with (go_at_call 43; refine HORD.out.mono ?_; rintro r w0 ⟨rfl, hb0⟩)
    go_loopw [6, 7, 9, 15] (fun v8 v9 _ t wr => ∃ k : Nat, ∃ a : List UInt8, ∃ ys : List Value, ∃ os : List Pr, k ≤ n ∧ t = .int .i64 k ∧ wr.ownsRow w.heap.size 65 2 v8 os.length ys ∧ PrCells wr (fresh w.heap.size v8) ys os ∧ Byt wr S0 v9 a ∧ visC seq [] es = os ++ visC seq a (es.drop k) ∧ os.length ≤ k ∧ Below w.heap.size w wr) (fun _ _ _ t _ => n - (intOf t).toNat)
    case atStart => exact ⟨0, [], [], [], by omega, rfl, World.ownsRow_nil _ _ _ _, trivial, Byt.nil _ _, rfl, by simp, hb0⟩
    case round =>
      obtain ⟨k, a, ys, os, hk, rfl, hown, hys, hah, hpre, hol, hbel⟩ := hrel
      by_cases hkn : k < n
      · obtain ⟨e, hek⟩ : ∃ e, es[k]? = some e := ⟨_, List.getElem?_eq_getElem (by rw [HN.out]; exact hkn)⟩
        obtain ⟨b, o, kk, uu, rfl, c0, c1, c2, c3, b1, b2, _, _⟩ := (hr.below hbel).ent (he.below hbel) HN.out hek
        obtain ⟨dd, hdd⟩ : ∃ d, e.dead = d := ⟨_, rfl⟩
        rw [hdd] at c2
        have HDD := Lib.hid hdd
        have HO := Lib.hid hown
        have HEK := Lib.hid hek
        have HST := Lib.hid (visC_step (seq := seq) a hek)
        have HPRE := Lib.hid hpre
        have hal : Below wr.heap.size wr (wr.alloc (.cells #[kk, .int .i64 e.seq, .bool dd, uu] 26)) := (Below.refl _ _).alloc (Nat.le_refl _) _
        have HB := Lib.hid (hbel.trans (hal.mono hbel.size))
        have HKA := Lib.hid (b1.below hal)
        have HVA := Lib.hid (b2.below hal)
        have HAH := Lib.hid (hah.below hal)
        have HO1 := Lib.hid (own_below hown hal)
        have HYS := Lib.hid (hys.below hal)
        obtain ⟨Ak, ck, rfl⟩ := slice_form b1
        obtain ⟨Au, cu, rfl⟩ := slice_form b2
        obtain ⟨Aa, ca, rfl⟩ := slice_form hah
        clear hek hdd b1 b2 hown hpre hbel hah hys
        have HEQ := bequal_any S0 S0 _ _ a e.key _ HAH.out HKA.out
        by_cases hs : seq < e.seq
        · have HS := Lib.hid hs
          clear HEQ
          go_wp2
          refine ⟨⟨k + 1, a, ys, os, by omega, by go_num, HO1.out, HYS.out, HAH.out, ?_, by omega, HB.out⟩, by simp [intOf]; omega⟩
          rw [HPRE.out, HST.out, if_pos HS.out]
        · have HS := Lib.hid hs
          by_cases hak : a = e.key
          · rw [decide_eq_true hak] at HEQ
            have HE := Lib.hid HEQ
            have HAK := Lib.hid hak
            clear HEQ hak
            go_wp2_with (go_at_call 34; refine HE.out.mono ?_; rintro r w1 ⟨rfl, rfl⟩)
            refine ⟨⟨k + 1, a, ys, os, by omega, by go_num, HO1.out, HYS.out, HAH.out, ?_, by omega, HB.out⟩, by simp [intOf]; omega⟩
            rw [HPRE.out, HST.out, if_neg (show ¬ seq < e.seq by have := HS.out; omega), if_pos HAK.out]
          · rw [decide_eq_false hak] at HEQ
            have HE := Lib.hid HEQ
            clear HEQ
            rcases dd with _ | _
            · go_wp2_with (go_at_call 34; refine HE.out.mono ?_; rintro r w1 ⟨rfl, rfl⟩)
              have K0 : (wr.alloc (.cells #[.slice Ak e.key.length ck, .int .i64 e.seq, .bool false, .slice Au e.val.length cu] 26)).cell? ⟨wr.heap.size, 0, none⟩ = some (.slice Ak e.key.length ck) := by simp [go_sem]
              have K3 : (wr.alloc (.cells #[.slice Ak e.key.length ck, .int .i64 e.seq, .bool false, .slice Au e.val.length cu] 26)).cell? ⟨wr.heap.size, 3, none⟩ = some (.slice Au e.val.length cu) := by simp [go_sem]
              generalize hW0 : wr.alloc (.cells #[.slice Ak e.key.length ck, .int .i64 e.seq, .bool false, .slice Au e.val.length cu] 26) = W0 at *
              have K0h := Lib.hid K0
              have K3h := Lib.hid K3
              have hW0h := Lib.hid hW0
              clear K0 K3 hW0
              have hf0 : fr W0 W0.drew := fr.refl.drew
              go_region_held3 (fun w' => w'.cell? ⟨wr.heap.size, 0, none⟩ = some (.slice Ak e.key.length ck) ∧ w'.cell? ⟨wr.heap.size, 3, none⟩ = some (.slice Au e.val.length cu))
                (first
                  | with_reducible exact fr.two hf0 K0h.out K3h.out
                  | with_reducible exact hs3
                  | with_reducible exact fr.two hf2 K0h.out K3h.out
                  | with_reducible exact fr.two (fr.alloc hf2 _) K0h.out K3h.out
                  | with_reducible exact fr.two hf1 K0h.out K3h.out)
                (first
                  | (go_split_ands; go_at_call 46; with_reducible (refine (bclone_any S0 (.slice Ak e.key.length ck) e.key _ ?_).mono ?_); (with_reducible exact fr.byt hf0 HKA.out); rintro r w1 ⟨v1, rfl, hk', hb1⟩; obtain ⟨Ak', ck', rfl⟩ := slice_form hk'; have hf1 := fr.step hf0 hb1)
                  | (go_split_ands; go_at_call 46; with_reducible (refine (bclone_any S0 (.slice Au e.val.length cu) e.val _ ?_).mono ?_); (with_reducible exact fr.byt hf1 HVA.out); rintro r w2 ⟨v1, rfl, hu', hb2⟩; obtain ⟨Au', cu', rfl⟩ := slice_form hu'; have hf2 := fr.step hf1 hb2)
                  | (go_split_ands; refine step_append_own_at (by rfl) _ _ 49 (by rfl) w.heap.size 65 i0 _ 2 48 Try.underlying49 hi hz0 hz1'.out hby.out rfl (by decide) _ _ _ (by rfl) ((own_below HO1.out hf2).alloc _) ⟨w2.heap.size, 0, none⟩ 1 1 [.slice Ak' e.key.length ck', .slice Au' e.val.length cu'] (by rfl) rfl (cell_two_new _ _ _ _) (by simp [Value.oneCell']) (by unfold maxLen; omega) (by omega) (by have := HB.out.size; have := Below.size hf2; simp; omega) ?_; intro v' w3 hown' hgrow hat; have hs3 := fr.grown (fr.alloc hf2 _) K0h.out K3h.out hgrow (fun e => by have := (HO.out.lt _ e).2; omega)))
              have hz1 : W0.heap.size ≤ w1.heap.size := by have := hb1.size; simpa using this
              have hkk := (hk'.below hb2).mono (S' := fun i => W0.heap.size ≤ i) (fun i hi => by simpa using hi)
              have huu := hu'.mono (S' := fun i => W0.heap.size ≤ i) (fun i hi => by omega)
              go_wp2
              refine ⟨⟨k + 1, e.key, _, os ++ [⟨e.key, e.val⟩], by omega, by go_num, (by rw [List.length_append]; exact hown'), PrCells.push (e := ⟨e.key, e.val⟩) HO1.out HYS.out hf2 hkk huu HB.out.size hgrow hat, ((fr.byt hf2 HKA.out).below ((Below.refl _ _).alloc (Nat.le_refl _) _)).push hgrow hat (fun i _ hs e => by have := HO1.out.lt i e; rw [HS0.out] at hs; omega) (fun i _ hs _ => hs), ?_, by simp; omega, ((HB.out.trans (Below.mono hf2 HB.out.size)).alloc (by have := HB.out.size; have := Below.size hf2; omega) _).grown hgrow (by have := HB.out.size; have := Below.size hf2; simp; omega) (fun j e => (HO1.out.lt j e).1)⟩, by simp [intOf]; omega⟩
              rw [HPRE.out, HST.out, if_neg (show ¬ seq < e.seq by have := HS.out; omega), if_neg hak, HDD.out]; simp
            · go_wp2_with (go_at_call 34; refine HE.out.mono ?_; rintro r w1 ⟨rfl, rfl⟩)
              refine ⟨⟨k + 1, e.key, ys, os, by omega, by go_num, HO1.out, HYS.out, HKA.out, ?_, by omega, HB.out⟩, by simp [intOf]; omega⟩
              rw [HPRE.out, HST.out, if_neg (show ¬ seq < e.seq by have := HS.out; omega), if_neg hak, HDD.out, if_pos rfl]
      · obtain rfl : k = n := by omega
        have HO := Lib.hid hown
        have HP := Lib.hid hpre
        clear hown hpre
        go_wp2
        refine bodyPost_ret (v := .tuple #[_, _]) (by simp [results, Try.results26, go_sem]; exact ⟨rfl, rfl⟩) rfl ?_
        refine ⟨_, rfl, ?_, hbel⟩
        have e1 : es.drop k = [] := List.drop_eq_nil_of_le (by rw [HN.out]; exact Nat.le_refl _)
        rw [HP.out, e1, visC, List.append_nil]
        exact Prs.of_own HO.out (hys.mono fun i hi => hi.1) (fun i hi _ => hi) (by omega)
end Go.Proofs.Ytelbidknefkaiaa
end
section
namespace Go.Proofs.Ytelbidknefkaiaa
open Go.RowKit Go.BigFrame
attribute [local go_sem ↓] Go.wp_at_zero Go.wp_at_succ
def visR (seq : Int) : Option Ent → List Ent → List Pr
  | _, [] => []
  | p, e :: l => if seenBy seq p e = true then visR seq (some e) l else if (decide (e.seq ≤ seq) && !e.dead) = true then ⟨e.key, e.val⟩ :: visR seq (some e) l else visR seq (some e) l
theorem visR_step {seq : Int} (p : Option Ent) {es : List Ent} {k : Nat} {e : Ent} (h : es[k]? = some e) :
    visR seq p (es.drop k) = if seenBy seq p e = true then visR seq (some e) (es.drop (k + 1)) else if (decide (e.seq ≤ seq) && !e.dead) = true then ⟨e.key, e.val⟩ :: visR seq (some e) (es.drop (k + 1)) else visR seq (some e) (es.drop (k + 1)) := by
  rw [List.drop_eq_getElem_cons (List.getElem?_eq_some_iff.1 h).1, (List.getElem?_eq_some_iff.1 h).2]
  rfl
theorem PrCells.pushOld {base : Nat} {wr w1 w2 : World} {S0 : Nat → Prop} {v v' k u : Value} {n : Nat} {ys : List Value} {es : List Pr} {e : Pr} {o : Obj} {t : TypeId} (hown : wr.ownsRow base t 2 v n ys) (hys : PrCells wr S0 ys es) (hb1 : Below wr.heap.size wr w1)
    (hk : Byt wr S0 k e.key) (hu : Byt wr S0 u e.val) (hS0 : ∀ i, S0 i → i < base) (hg : (w1.alloc o).grownBy w2 v.ownBlock) (hat : v'.ownBlock = v.ownBlock ∨ v'.ownBlock = some (w1.alloc o).heap.size) :
    PrCells w2 S0 (ys ++ [k, u]) (es ++ [e]) := by
  have hal : Below w1.heap.size w1 (w1.alloc o) := (Below.refl _ _).alloc (Nat.le_refl _) _
  have old : ∀ x bs, Byt wr S0 x bs → Byt w2 S0 x bs := fun x bs h =>
    ((h.below hb1).below hal).push hg hat (fun i _ hs e => by have := (hown.lt i e).1; have := hS0 i hs; omega) (fun i _ hs _ => hs)
  exact (hys.imp old).append (PrCells.one (old _ _ hk) (old _ _ hu))
set_option maxRecDepth 100000 in
set_option maxHeartbeats 4000000 in
theorem rvis_any (S : Nat → Prop) (v : Value) (es : List Ent) (seq : Int) (w : World) (hv : Ents w S v es) :
    Calls Try.prog 27 #[v, .int .i64 seq] w fun r w' => ∃ v', r = .returned (.tuple #[v', .int .i64 (if orderedE es then 0 else 30)]) ∧ Prs w' (fun _ => True) v' (if orderedE es then visR seq none es else []) ∧ Below w.heap.size w w' := by
  obtain ⟨i0, hi, hz0, hz1, hz2⟩ := info_parts info65
  have hby := Lib.hid hz2
  have hz1' := Lib.hid hz1
  clear hz2 hz1
  have HORD := Lib.hid (rordered_any S v es w hv)
  replace hv := hv.lt
  obtain ⟨S0, hS0⟩ : ∃ S0 : Nat → Prop, S0 = fun i => i < w.heap.size := ⟨_, rfl⟩
  rw [← hS0] at hv
  have HS0 := Lib.hid hS0
  clear hS0
  obtain ⟨A, c, cs, rfl, hc, hcm, hl, hr, he⟩ := hv
  obtain ⟨n, hn⟩ : ∃ n, es.length = n := ⟨_, rfl⟩
  rw [hn] at hr hl HORD ⊢
  have HN := Lib.hid hn
  clear hn
  rcases ho : orderedE es with _ | _
  · rw [ho] at HORD
    clear ho
    go_enter Try.func27, Try.ntmps27
    go_wp2_with (go_at_call 31; refine HORD.out.mono ?_; rintro r w1 ⟨rfl, hb1⟩)
    refine bodyPost_ret (v := .tuple #[_, _]) (by simp [results, Try.results27, go_sem]; exact ⟨rfl, rfl⟩) rfl ?_
    exact ⟨_, rfl, Prs.nil _ _, hb1⟩
  · rw [ho] at HORD
    clear ho
    go_enter Try.func27, Try.ntmps27
    go_wp2_with (go_at_call 31; refine HORD.out.mono ?_; rintro r w0 ⟨rfl, hb0⟩)
    go_loopw [6, 7, 13] (fun v8 _ t wr => ∃ k : Nat, ∃ ys : List Value, ∃ os : List Pr, k ≤ n ∧ t = .int .i64 k ∧ wr.ownsRow w.heap.size 65 2 v8 os.length ys ∧ PrCells wr S0 ys os ∧ visR seq none es = os ++ visR seq (if k = 0 then none else es[k - 1]?) (es.drop k) ∧ os.length ≤ k ∧ Below w.heap.size w wr) (fun _ _ t _ => n - (intOf t).toNat)
    case atStart => exact ⟨0, [], [], by omega, rfl, World.ownsRow_nil _ _ _ _, trivial, rfl, by simp, hb0⟩
    case round =>
      obtain ⟨k, ys, os, hk, rfl, hown, hys, hpre, hol, hbel⟩ := hrel
      by_cases hkn : k < n
      · obtain ⟨e, hek⟩ : ∃ e, es[k]? = some e := ⟨_, List.getElem?_eq_getElem (by rw [HN.out]; exact hkn)⟩
        obtain ⟨b, o, kk, uu, rfl, c0, c1, c2, c3, b1, b2, _, hSb0⟩ := (hr.below hbel).ent (he.below hbel) HN.out hek
        have hSb := Lib.hid (show b < w.heap.size by rw [HS0.out] at hSb0; exact hSb0)
        obtain ⟨dd, hdd⟩ : ∃ d, e.dead = d := ⟨_, rfl⟩
        rw [hdd] at c2
        have HDD := Lib.hid hdd
        have HO := Lib.hid hown
        have HEK := Lib.hid hek
        have HST := Lib.hid (visR_step (seq := seq) (if k = 0 then none else es[k - 1]?) hek)
        have HPRE := Lib.hid hpre
        have HB := Lib.hid hbel
        have HKY := Lib.hid b1
        have HVL := Lib.hid b2
        have HYS := Lib.hid hys
        have HHR := Lib.hid (hr.below hbel)
        have HHE := Lib.hid (he.below hbel)
        obtain ⟨Ak, ck, rfl⟩ := slice_form b1
        obtain ⟨Au, cu, rfl⟩ := slice_form b2
        clear hek hdd b1 b2 hown hpre hbel hys hSb0
        have F0 : ∀ q : Ext wr, q.w.cell? { block := b, off := o + k * 4 } = _ := fun q => q.h.cell c0
        have HCK : ∀ q : Ext wr, (convert 23 9 (.slice Ak e.key.length ck)).run Try.prog q.w = .ok (.string ⟨e.key.toArray⟩) q.w := fun q => (HKY.out.below q.h).convert
        go_wp2
        rcases Nat.eq_zero_or_pos k with h0 | h0
        · have hd0 : decide ((0:Int) < (k:Int)) = false := by simp; omega
          have HSEEN := Lib.hid (show seenBy seq (if k = 0 then none else es[k - 1]?) e = false by rw [if_pos h0]; rfl)
          (refine wp_region_quiet_ext (by kernel_rfl) (by kernel_rfl) ?_; (repeat (go_big_quiet_step (fail))); refine wpQuiet_nil ?_; intro wq hw'; obtain ⟨⟨_, hq⟩, hw''⟩ := hw'; subst hw'')
          clear hd0 h0
          have HB1 := Lib.hid (show Below wr.heap.size wr wq from hq)
          have HBD := Lib.hid (show Below wr.heap.size wr (World.drew wq) from fr.drew hq)
          have C0 := hq.cell c0
          have C1 := hq.cell c1
          have C2 := hq.cell c2
          have C3 := hq.cell c3
          clear hq
          by_cases hs : e.seq ≤ seq
          · have HSD := Lib.hid (show decide (e.seq ≤ seq) = true by simpa using hs)
            rcases dd with _ | _
            · go_wp2
              have hf0 : fr wq wq.drew := fr.refl.drew
              have C0h := Lib.hid C0
              have C3h := Lib.hid C3
              go_region_held3 (fun w' => w'.cell? ⟨b, o + k * 4, none⟩ = some (.slice Ak e.key.length ck) ∧ w'.cell? ⟨b, o + k * 4 + 3, none⟩ = some (.slice Au e.val.length cu))
                (first
                  | with_reducible exact fr.two hf0 C0h.out C3h.out
                  | with_reducible exact hs3
                  | with_reducible exact fr.two (fr.alloc hf0 _) C0h.out C3h.out)
                (first | (go_split_ands; refine step_append_own_at (by rfl) _ _ 49 (by rfl) w.heap.size 65 i0 _ 2 48 Try.underlying49 hi hz0 hz1'.out hby.out rfl (by decide) _ _ _ (by rfl) ((own_below HO.out HBD.out).alloc _) ⟨(World.drew wq).heap.size, 0, none⟩ 1 1 [.slice Ak e.key.length ck, .slice Au e.val.length cu] (by rfl) rfl (cell_two_new _ _ _ _) (by simp [Value.oneCell']) (by unfold maxLen; omega) (by omega) (by have := HB.out.size; have := HBD.out.size; simp at *; omega) ?_; intro v' w2 hown' hgrow hat; have hs3 := fr.grown (fr.alloc hf0 _) C0h.out C3h.out hgrow (fun e => by have := (HO.out.lt _ e).1; have := hSb.out; omega)))
              go_wp2
              refine ⟨⟨k + 1, _, os ++ [⟨e.key, e.val⟩], by omega, by go_num, (by rw [List.length_append]; exact hown'), PrCells.pushOld (e := ⟨e.key, e.val⟩) HO.out HYS.out HBD.out HKY.out HVL.out (fun i hs => by rw [HS0.out] at hs; exact hs) hgrow hat, ?_, by simp; omega, ((HB.out.trans (HBD.out.mono HB.out.size)).alloc (by have := HB.out.size; have := HBD.out.size; omega) _).grown hgrow (by have := HB.out.size; have := HBD.out.size; simp at *; omega) (fun j e => (HO.out.lt j e).1)⟩, by simp [intOf]; omega⟩
              rw [HPRE.out, HST.out, HSEEN.out, HSD.out, HDD.out]; simp [HEK.out]
            · go_wp2
              refine ⟨⟨k + 1, _, os, by omega, by go_num, own_below HO.out HB1.out, HYS.out.below HB1.out, ?_, by omega, HB.out.trans (HB1.out.mono HB.out.size)⟩, by simp [intOf]; omega⟩
              rw [HPRE.out, HST.out, HSEEN.out, HSD.out, HDD.out]; simp [HEK.out]
          · have HSD := Lib.hid (show decide (e.seq ≤ seq) = false by simpa using hs)
            go_wp2
            refine ⟨⟨k + 1, _, os, by omega, by go_num, own_below HO.out HB1.out, HYS.out.below HB1.out, ?_, by omega, HB.out.trans (HB1.out.mono HB.out.size)⟩, by simp [intOf]; omega⟩
            rw [HPRE.out, HST.out, HSEEN.out, HSD.out]; simp [HEK.out]
        · obtain ⟨j, rfl⟩ : ∃ j, k = j + 1 := ⟨k - 1, by omega⟩
          obtain ⟨e', hej⟩ : ∃ e, es[j]? = some e := ⟨_, List.getElem?_eq_getElem (by rw [HN.out]; omega)⟩
          obtain ⟨b', o', kk', uu', hE, d0, d1, d2, d3, b1, b2, _, _⟩ := HHR.out.ent HHE.out HN.out hej
          cases hE
          obtain ⟨Ak', ck', rfl⟩ := slice_form b1
          have G0 : ∀ q : Ext wr, q.w.cell? { block := b, off := o + j * 4 } = _ := fun q => q.h.cell d0
          have G1 : ∀ q : Ext wr, q.w.cell? { block := b, off := o + j * 4 + 1 } = _ := fun q => q.h.cell d1
          have GCK : ∀ q : Ext wr, (convert 23 9 (.slice Ak' e'.key.length ck')).run Try.prog q.w = .ok (.string ⟨e'.key.toArray⟩) q.w := fun q => (b1.below q.h).convert
          have hd0 : decide ((0:Int) < (j:Int) + 1) = true := by first | (simp; done) | (simp; omega)
          have HJ := Lib.hid (show (if j + 1 = 0 then none else es[j + 1 - 1]?) = some e' by simpa using hej)
          clear hej b1 b2 d0 d1 d2 d3 h0
          by_cases hke : e'.key = e.key
          · have HKE := Lib.hid hke
            have GCK2 : ∀ q : Ext wr, (convert 23 9 (.slice Ak' e'.key.length ck')).run Try.prog q.w = .ok (.string ⟨e.key.toArray⟩) q.w := fun q => by rw [GCK q, hke]
            clear hke GCK
            by_cases hsq : e'.seq ≤ seq
            · have HSEEN := Lib.hid (show seenBy seq (if j + 1 = 0 then none else es[j + 1 - 1]?) e = true by rw [HJ.out]; simp [seenBy, HKE.out, hsq])
              (refine wp_region_quiet_ext (by kernel_rfl) (by kernel_rfl) ?_; (repeat (go_big_quiet_step (fail))); refine wpQuiet_nil ?_; intro wq hw'; obtain ⟨⟨_, hq⟩, hw''⟩ := hw'; subst hw'')
              have HB1 := Lib.hid (show Below wr.heap.size wr wq from hq)
              clear hq
              go_wp2
              refine ⟨⟨j + 1 + 1, _, os, by omega, by go_num, own_below HO.out HB1.out, HYS.out.below HB1.out, ?_, by omega, HB.out.trans (HB1.out.mono HB.out.size)⟩, by simp [intOf]; omega⟩
              rw [HPRE.out, HST.out, HSEEN.out]; simp [HEK.out]
            · have HSEEN := Lib.hid (show seenBy seq (if j + 1 = 0 then none else es[j + 1 - 1]?) e = false by rw [HJ.out]; simp [seenBy, HKE.out]; omega)
              (refine wp_region_quiet_ext (by kernel_rfl) (by kernel_rfl) ?_; (repeat (go_big_quiet_step (fail))); refine wpQuiet_nil ?_; intro wq hw'; obtain ⟨⟨_, hq⟩, hw''⟩ := hw'; subst hw'')
              generalize hm : j + 1 = m at *
              have HB1 := Lib.hid (show Below wr.heap.size wr wq from hq)
              have HBD := Lib.hid (show Below wr.heap.size wr (World.drew wq) from fr.drew hq)
              have C0 := hq.cell c0
              have C1 := hq.cell c1
              have C2 := hq.cell c2
              have C3 := hq.cell c3
              clear hq
              by_cases hs : e.seq ≤ seq
              · have HSD := Lib.hid (show decide (e.seq ≤ seq) = true by simpa using hs)
                rcases dd with _ | _
                · go_wp2
                  have hf0 : fr wq wq.drew := fr.refl.drew
                  have C0h := Lib.hid C0
                  have C3h := Lib.hid C3
                  go_region_held3 (fun w' => w'.cell? ⟨b, o + m * 4, none⟩ = some (.slice Ak e.key.length ck) ∧ w'.cell? ⟨b, o + m * 4 + 3, none⟩ = some (.slice Au e.val.length cu))
                    (first
                      | with_reducible exact fr.two hf0 C0h.out C3h.out
                      | with_reducible exact hs3
                      | with_reducible exact fr.two (fr.alloc hf0 _) C0h.out C3h.out)
                    (first | (go_split_ands; refine step_append_own_at (by rfl) _ _ 49 (by rfl) w.heap.size 65 i0 _ 2 48 Try.underlying49 hi hz0 hz1'.out hby.out rfl (by decide) _ _ _ (by rfl) ((own_below HO.out HBD.out).alloc _) ⟨(World.drew wq).heap.size, 0, none⟩ 1 1 [.slice Ak e.key.length ck, .slice Au e.val.length cu] (by rfl) rfl (cell_two_new _ _ _ _) (by simp [Value.oneCell']) (by unfold maxLen; omega) (by omega) (by have := HB.out.size; have := HBD.out.size; simp at *; omega) ?_; intro v' w2 hown' hgrow hat; have hs3 := fr.grown (fr.alloc hf0 _) C0h.out C3h.out hgrow (fun e => by have := (HO.out.lt _ e).1; have := hSb.out; omega)))
                  go_wp2
                  refine ⟨⟨m + 1, _, os ++ [⟨e.key, e.val⟩], by omega, by go_num, (by rw [List.length_append]; exact hown'), PrCells.pushOld (e := ⟨e.key, e.val⟩) HO.out HYS.out HBD.out HKY.out HVL.out (fun i hs => by rw [HS0.out] at hs; exact hs) hgrow hat, ?_, by simp; omega, ((HB.out.trans (HBD.out.mono HB.out.size)).alloc (by have := HB.out.size; have := HBD.out.size; omega) _).grown hgrow (by have := HB.out.size; have := HBD.out.size; simp at *; omega) (fun j e => (HO.out.lt j e).1)⟩, by simp [intOf]; omega⟩
                  rw [HPRE.out, HST.out, HSEEN.out, HSD.out, HDD.out]; simp [HEK.out]
                · go_wp2
                  refine ⟨⟨m + 1, _, os, by omega, by go_num, own_below HO.out HB1.out, HYS.out.below HB1.out, ?_, by omega, HB.out.trans (HB1.out.mono HB.out.size)⟩, by simp [intOf]; omega⟩
                  rw [HPRE.out, HST.out, HSEEN.out, HSD.out, HDD.out]; simp [HEK.out]
              · have HSD := Lib.hid (show decide (e.seq ≤ seq) = false by simpa using hs)
                go_wp2
                refine ⟨⟨m + 1, _, os, by omega, by go_num, own_below HO.out HB1.out, HYS.out.below HB1.out, ?_, by omega, HB.out.trans (HB1.out.mono HB.out.size)⟩, by simp [intOf]; omega⟩
                rw [HPRE.out, HST.out, HSEEN.out, HSD.out]; simp [HEK.out]
          · have HSEEN := Lib.hid (show seenBy seq (if j + 1 = 0 then none else es[j + 1 - 1]?) e = false by rw [HJ.out]; simp [seenBy, hke])
            have hne4 : (e'.key == e.key) = false := by simpa using hke
            have hne5 : decide (e'.key = e.key) = false := by simpa using hke
            (refine wp_region_quiet_ext (by kernel_rfl) (by kernel_rfl) ?_; (repeat (go_big_quiet_step (fail))); refine wpQuiet_nil ?_; intro wq hw'; obtain ⟨⟨_, hq⟩, hw''⟩ := hw'; subst hw'')
            generalize hm : j + 1 = m at *
            have HB1 := Lib.hid (show Below wr.heap.size wr wq from hq)
            have HBD := Lib.hid (show Below wr.heap.size wr (World.drew wq) from fr.drew hq)
            have C0 := hq.cell c0
            have C1 := hq.cell c1
            have C2 := hq.cell c2
            have C3 := hq.cell c3
            clear hq
            by_cases hs : e.seq ≤ seq
            · have HSD := Lib.hid (show decide (e.seq ≤ seq) = true by simpa using hs)
              rcases dd with _ | _
              · go_wp2
                have hf0 : fr wq wq.drew := fr.refl.drew
                have C0h := Lib.hid C0
                have C3h := Lib.hid C3
                go_region_held3 (fun w' => w'.cell? ⟨b, o + m * 4, none⟩ = some (.slice Ak e.key.length ck) ∧ w'.cell? ⟨b, o + m * 4 + 3, none⟩ = some (.slice Au e.val.length cu))
                  (first
                    | with_reducible exact fr.two hf0 C0h.out C3h.out
                    | with_reducible exact hs3
                    | with_reducible exact fr.two (fr.alloc hf0 _) C0h.out C3h.out)
                  (first | (go_split_ands; refine step_append_own_at (by rfl) _ _ 49 (by rfl) w.heap.size 65 i0 _ 2 48 Try.underlying49 hi hz0 hz1'.out hby.out rfl (by decide) _ _ _ (by rfl) ((own_below HO.out HBD.out).alloc _) ⟨(World.drew wq).heap.size, 0, none⟩ 1 1 [.slice Ak e.key.length ck, .slice Au e.val.length cu] (by rfl) rfl (cell_two_new _ _ _ _) (by simp [Value.oneCell']) (by unfold maxLen; omega) (by omega) (by have := HB.out.size; have := HBD.out.size; simp at *; omega) ?_; intro v' w2 hown' hgrow hat; have hs3 := fr.grown (fr.alloc hf0 _) C0h.out C3h.out hgrow (fun e => by have := (HO.out.lt _ e).1; have := hSb.out; omega)))
                go_wp2
                refine ⟨⟨m + 1, _, os ++ [⟨e.key, e.val⟩], by omega, by go_num, (by rw [List.length_append]; exact hown'), PrCells.pushOld (e := ⟨e.key, e.val⟩) HO.out HYS.out HBD.out HKY.out HVL.out (fun i hs => by rw [HS0.out] at hs; exact hs) hgrow hat, ?_, by simp; omega, ((HB.out.trans (HBD.out.mono HB.out.size)).alloc (by have := HB.out.size; have := HBD.out.size; omega) _).grown hgrow (by have := HB.out.size; have := HBD.out.size; simp at *; omega) (fun j e => (HO.out.lt j e).1)⟩, by simp [intOf]; omega⟩
                rw [HPRE.out, HST.out, HSEEN.out, HSD.out, HDD.out]; simp [HEK.out]
              · go_wp2
                refine ⟨⟨m + 1, _, os, by omega, by go_num, own_below HO.out HB1.out, HYS.out.below HB1.out, ?_, by omega, HB.out.trans (HB1.out.mono HB.out.size)⟩, by simp [intOf]; omega⟩
                rw [HPRE.out, HST.out, HSEEN.out, HSD.out, HDD.out]; simp [HEK.out]
            · have HSD := Lib.hid (show decide (e.seq ≤ seq) = false by simpa using hs)
              go_wp2
              refine ⟨⟨m + 1, _, os, by omega, by go_num, own_below HO.out HB1.out, HYS.out.below HB1.out, ?_, by omega, HB.out.trans (HB1.out.mono HB.out.size)⟩, by simp [intOf]; omega⟩
              rw [HPRE.out, HST.out, HSEEN.out, HSD.out]; simp [HEK.out]
      · obtain rfl : k = n := by omega
        have HO := Lib.hid hown
        have HP := Lib.hid hpre
        clear hown hpre
        go_wp2
        refine bodyPost_ret (v := .tuple #[_, _]) (by simp [results, Try.results27, go_sem]; exact ⟨rfl, rfl⟩) rfl ?_
        refine ⟨_, rfl, ?_, hbel⟩
        have e1 : es.drop k = [] := List.drop_eq_nil_of_le (by rw [HN.out]; exact Nat.le_refl _)
        rw [HP.out, e1, visR, List.append_nil]
        exact Prs.of_own HO.out (hys.mono fun i hi => trivial) (fun i hi _ => trivial) (by omega)
end Go.Proofs.Ytelbidknefkaiaa
end
section
namespace Go.Proofs.Ytelbidknefkaiaa
theorem thinI_seen {mark : Int} {a : List UInt8} {p : Option Ent} {e : Ent} {l : List Ent} (hI : thinI mark a p) (ho : orderedFrom p (e :: l) = true) : a = e.key ↔ seenBy mark p e = true := by
  have hg : goodE e = true := by cases p <;> simp [orderedFrom] at ho <;> simp [ho]
  have hkey := goodE_key hg
  cases p with
  | none =>
    simp only [thinI] at hI
    subst hI
    simp only [seenBy, Bool.false_eq_true, iff_false]
    intro h; rw [← h] at hkey; simp at hkey
  | some p =>
    have hlt : cmpE p e < 0 := by simp [orderedFrom] at ho; exact ho.2.1
    simp only [thinI] at hI
    simp only [seenBy, Bool.and_eq_true, decide_eq_true_eq]
    by_cases hp : p.seq ≤ mark
    · rw [if_pos hp] at hI
      subst hI
      exact ⟨fun h => ⟨h, hp⟩, fun h => h.1⟩
    · rw [if_neg hp] at hI
      constructor
      · intro h
        subst h
        rcases cmpE_lt hlt with h1 | h1
        · exact absurd (cmpB_trans hI h1) cmpB_irrefl
        · rw [h1.1] at hI; exact absurd hI cmpB_irrefl
      · intro h; exact absurd h.2 hp
theorem thinI_next {mark : Int} {a : List UInt8} {p : Option Ent} {e : Ent} {l : List Ent} (hI : thinI mark a p) (ho : orderedFrom p (e :: l) = true) (hs : ¬ e.seq ≤ mark) : thinI mark a (some e) := by
  have hg : goodE e = true := by cases p <;> simp [orderedFrom] at ho <;> simp [ho]
  have hkey := goodE_key hg
  simp only [thinI, if_neg hs]
  cases p with
  | none => simp only [thinI] at hI; subst hI; exact cmpB_nil hkey
  | some p =>
    have hlt : cmpE p e < 0 := by simp [orderedFrom] at ho; exact ho.2.1
    simp only [thinI] at hI
    by_cases hp : p.seq ≤ mark
    · rw [if_pos hp] at hI
      subst hI
      rcases cmpE_lt hlt with h1 | h1
      · exact h1
      · omega
    · rw [if_neg hp] at hI
      rcases cmpE_lt hlt with h1 | h1
      · exact cmpB_trans hI h1
      · rw [← h1.1]; exact hI
theorem seenBy_seq {mark : Int} {p : Option Ent} {e : Ent} {l : List Ent} (ho : orderedFrom p (e :: l) = true) (h : seenBy mark p e = true) : e.seq ≤ mark := by
  cases p with
  | none => simp [seenBy] at h
  | some p =>
    have hlt : cmpE p e < 0 := by simp [orderedFrom] at ho; exact ho.2.1
    simp only [seenBy, Bool.and_eq_true, decide_eq_true_eq] at h
    rcases cmpE_lt hlt with h1 | h1
    · rw [h.1] at h1; exact absurd h1 cmpB_irrefl
    · omega
theorem vis_eq (seq : Int) : ∀ (es : List Ent) (a : List UInt8) (p : Option Ent), thinI seq a p → orderedFrom p es = true → visC seq a es = visR seq p es := by
  intro es
  induction es with
  | nil => intro a p _ _; simp [visC, visR]
  | cons e l ih =>
    intro a p hI ho
    have hol : orderedFrom (some e) l = true := by cases p <;> simp [orderedFrom] at ho <;> simp [ho]
    have hseen := thinI_seen hI ho
    simp only [visC, visR]
    by_cases hs : e.seq ≤ seq
    · have hkeep : thinI seq e.key (some e) := by simp [thinI, hs]
      rw [if_neg (show ¬ seq < e.seq by omega)]
      by_cases ha : a = e.key
      · rw [if_pos ha, if_pos (hseen.1 ha)]
        exact ih _ _ (by rw [ha]; exact hkeep) hol
      · rw [if_neg ha, if_neg (fun h => ha (hseen.2 h)), ih e.key (some e) hkeep hol]
        rcases hd : e.dead with _ | _ <;> simp [hs]
    · rw [if_pos (show seq < e.seq by omega), if_neg (fun h => hs (seenBy_seq ho h)), ih a (some e) (thinI_next hI ho hs) hol]
      simp [hs]
theorem vis_law {seq : Int} {es : List Ent} (h : orderedE es = true) : visC seq [] es = visR seq none es := vis_eq seq es [] none rfl h
end Go.Proofs.Ytelbidknefkaiaa
end
