/-
merge.Merge.
-/
import Derived.Test.YtacdhkkelkplnaaQPRuns5
section
namespace Go.Proofs.Ytacdhkkelkplnaa
open Go.RowKit
/-- a slice value of lists of entries. -/
def Lists (w : World) (S : Nat → Prop) (v : Value) (ls : List (List Ent)) : Prop :=
  ∃ (A : Option Addr) (c : Nat) (vs : List Value), v = .slice A ls.length c ∧ ls.length ≤ c ∧ c ≤ 9223372036854775807 ∧ ls.length * 24 ≤ 140737488355328 ∧ Row w S A ls.length 1 vs ∧ ∀ (i : Nat) (l : List Ent), ls[i]? = some l → ∃ x, vs[i]? = some x ∧ Ents w S x l
theorem Lists.below {w w' : World} {S : Nat → Prop} {v : Value} {ls : List (List Ent)} (h : Lists w S v ls) (hb : Below w.heap.size w w') : Lists w' S v ls := by
  obtain ⟨A, c, vs, e, h1, h2, h3, h4, h5⟩ := h
  exact ⟨A, c, vs, e, h1, h2, h3, h4.below hb, fun i l hl => by obtain ⟨x, hx, hy⟩ := h5 i l hl; exact ⟨x, hx, hy.below hb⟩⟩
theorem HeapV.init (w : World) (S : Nat → Prop) (hS : ∀ i, S i → i < w.heap.size) : HeapV (w.alloc (boxOf (.slice none 0 0))) w.heap.size w.heap.size S (.slice none 0 0) [] :=
  ⟨heap_alloc_new w _, World.ownsRow_nil _ _ _ _, by simp [Value.ownBlock], fun q hq => by simp at hq, hS, Nat.le_refl _⟩
theorem all_take_snoc {ls : List (List Ent)} {k : Nat} {l : List Ent} (h : ls[k]? = some l) (ha : (ls.take k).all orderedE = true) (ho : orderedE l = true) : (ls.take (k + 1)).all orderedE = true := by
  rw [take_snoc h, List.all_append, ha]; simp [ho]
theorem all_false_at {ls : List (List Ent)} {k : Nat} {l : List Ent} (h : ls[k]? = some l) (ho : orderedE l = false) : ls.all orderedE = false := by
  rw [List.all_eq_false]
  exact ⟨l, List.mem_of_getElem? h, by simp [ho]⟩
theorem Pushed.below {base p B : Nat} {S : Nat → Prop} {sl : Value} {qs : List (Value × List Ent)} {w w' : World} (h : Pushed base p S sl qs w w') (hp : B ≤ p) (hg : ∀ g, sl.ownBlock = some g → B ≤ g) (hB : B ≤ w.heap.size) : Below B w w' := by
  obtain ⟨sl', _, ho, _⟩ := h
  exact ho.below hB (fun i hi => hi.elim (fun e => e ▸ hp) (fun e => hg i e))
def outT (base : Nat) (v sl : Value) (i : Nat) : Prop := base < i ∧ v.ownBlock ≠ some i ∧ sl.ownBlock ≠ some i
theorem EntCells.monoLt {w : World} {S S' : Nat → Prop} {cs : List Value} {es : List Ent} (h : EntCells w S cs es) (hS : ∀ i, i < w.heap.size → S i → S' i) : EntCells w S' cs es := h.imp fun _ _ h => h.monoLt hS
theorem EntCells.pushT {base : Nat} {T T' : Nat → Prop} {wr w1 w2 : World} {v v' k u : Value} {n : Nat} {ys : List Value} {es : List Ent} {e : Ent} {o : Obj} {t : TypeId} (hown : wr.ownsRow base t 4 v n ys) (hys : EntCells wr T ys es) (hT : ∀ i, T i → v.ownBlock ≠ some i) (hb1 : Below wr.heap.size wr w1)
    (hk : Byt w1 (fun i => wr.heap.size ≤ i) k e.key) (hu : Byt w1 (fun i => wr.heap.size ≤ i) u e.val) (hg : (w1.alloc o).grownBy w2 v.ownBlock) (hat : v'.ownBlock = v.ownBlock ∨ v'.ownBlock = some (w1.alloc o).heap.size)
    (hT' : ∀ i, (T i ∨ wr.heap.size ≤ i) → v'.ownBlock ≠ some i → T' i) :
    EntCells w2 T' (ys ++ [k, .int .i64 e.seq, .bool e.dead, u]) (es ++ [e]) := by
  have hal : Below w1.heap.size w1 (w1.alloc o) := (Below.refl _ _).alloc (Nat.le_refl _) _
  have hz := hb1.size
  have old : ∀ x bs, Byt wr T x bs → Byt w2 T' x bs := fun x bs h =>
    ((h.below hb1).below hal).push hg hat (fun i _ hs => hT i hs) (fun i _ hs hn => hT' i (.inl hs) hn)
  have new : ∀ x bs, Byt w1 (fun i => wr.heap.size ≤ i) x bs → Byt w2 T' x bs := fun x bs h =>
    (h.below hal).push hg hat (fun i _ hs e => by have := hown.lt i e; omega) (fun i _ hs hn => hT' i (.inr hs) hn)
  exact (hys.imp old).append (EntCells.one (new _ _ hk) (new _ _ hu))
theorem Ents.tail {w : World} {S : Nat → Prop} {b o c n : Nat} {e : Ent} {l : List Ent} (h : Ents w S (.slice (some ⟨b, o, none⟩) n c) (e :: l)) (hl : l ≠ []) : Ents w S (.slice (some ⟨b, o + 4, none⟩) l.length (c - 1)) l := by
  obtain ⟨A, c', cs, he, h1, h2, h3, h4, h5⟩ := h
  injection he with e1 e2 e3
  subst e1 e2 e3
  simp only [List.length_cons] at h1 h3 h4
  have hlp : 0 < l.length := List.length_pos_iff.2 hl
  refine ⟨_, _, cs.drop 4, rfl, by omega, by omega, by omega, ?_, by simpa using h5.drop 1⟩
  have hcl := h5.len
  simp only [List.length_cons] at hcl
  refine ⟨by simp; omega, fun _ => ?_⟩
  obtain ⟨b', o', hb', hS, hlt, hc⟩ := h4.2 (by omega)
  injection hb' with hb'
  injection hb' with e1 e2
  subst e1 e2
  refine ⟨b, o + 4, rfl, hS, hlt, fun j u hu => ?_⟩
  rw [List.getElem?_drop] at hu
  have := hc (4 + j) u hu
  rwa [show o + (4 + j) = o + 4 + j from by omega] at this
theorem Ents.head' {w : World} {S : Nat → Prop} {b o n c : Nat} {e : Ent} {l : List Ent} (h : Ents w S (.slice (some ⟨b, o, none⟩) n c) (e :: l)) :
    n = l.length + 1 ∧ l.length + 1 ≤ c ∧ c ≤ 9223372036854775807 ∧ ∃ k u, w.cell? ⟨b, o, none⟩ = some k ∧ w.cell? ⟨b, o + 1, none⟩ = some (.int .i64 e.seq) ∧ w.cell? ⟨b, o + 2, none⟩ = some (.bool e.dead) ∧ w.cell? ⟨b, o + 3, none⟩ = some u ∧ Byt w S k e.key ∧ Byt w S u e.val := by
  obtain ⟨b', o', c', k, u, he, hr⟩ := h.head
  injection he with e1 e2 e3
  injection e1 with e1
  injection e1 with e1 e2'
  subst e1 e2' e3
  obtain ⟨A, c', cs, he, h1, h2, _⟩ := h
  injection he with _ _ e3
  subst e3
  exact ⟨e2, by simpa using h1, h2, k, u, hr⟩
theorem own_last {w : World} {base g c : Nat} {T : Nat → Prop} {t : TypeId} {ys : List Value} {os : List Ent} {o : Ent} {m : Nat} (h : w.ownsRow base t 4 (.slice (some ⟨g, 0, none⟩) m c) m ys) (hc : EntCells w T ys (os ++ [o])) (hm : m = os.length + 1) :
    ∃ k u, w.cell? ⟨g, (m - 1) * 4, none⟩ = some k ∧ w.cell? ⟨g, (m - 1) * 4 + 1, none⟩ = some (.int .i64 o.seq) ∧ w.cell? ⟨g, (m - 1) * 4 + 2, none⟩ = some (.bool o.dead) ∧ w.cell? ⟨g, (m - 1) * 4 + 3, none⟩ = some u ∧ Byt w T k o.key ∧ Byt w T u o.val := by
  subst hm
  obtain ⟨k, u, a1, a2, a3, a4, a5, a6⟩ := hc.at_ (i := os.length) (e := o) (by simp)
  refine ⟨k, u, ?_, ?_, ?_, ?_, a5, a6⟩
  · rw [h.cellAt _ (by omega), ← a1]; congr 1; omega
  · rw [h.cellAt _ (by omega), ← a2]; congr 1; omega
  · rw [h.cellAt _ (by omega), ← a3]; congr 1; omega
  · rw [h.cellAt _ (by omega), ← a4]; congr 1; omega
def sliceLen : Value → Nat
  | .slice _ n _ => n
  | _ => 0
theorem mergeGo_nil (k : Nat) (out : List Ent) : mergeGo k [] out = (out, 0) := by cases k <;> rfl
theorem mergeGo_step {K : Nat} {e : Ent} {l : List Ent} {hs : List (List Ent)} {out : List Ent} :
    mergeGo (K + 1) ((e :: l) :: hs) out = if twice out e = true then ([], 31) else mergeGo K (if l = [] then popL id ((e :: l) :: hs) else pushL id (popL id ((e :: l) :: hs)) l) (out ++ [e]) := rfl
theorem popV_map (ps : List (Value × List Ent)) : (popL (·.2) ps).map (·.2) = popL id (ps.map (·.2)) := popL_map (α := Value × List Ent) (fun x => x.2) id ps
theorem pushV_map (ps : List (Value × List Ent)) (q : Value × List Ent) : (pushL (·.2) ps q).map (·.2) = pushL id (ps.map (·.2)) q.2 := pushL_map (α := Value × List Ent) (fun x => x.2) id ps q
theorem HeapV.thru {w1 w3 w4 : World} {B p : Nat} {S : Nat → Prop} {sl v : Value} {ps : List (Value × List Ent)} {o : Obj} (h : HeapV w1 B p S sl ps) (hb : Below w1.heap.size w1 w3) (hg : (w3.alloc o).grownBy w4 v.ownBlock)
    (hd : ∀ g, v.ownBlock = some g → B ≤ g ∧ g ≠ p ∧ sl.ownBlock ≠ some g) : HeapV w4 B p S sl ps :=
  ((h.below hb).below ((Below.refl _ _).alloc (Nat.le_refl _) _)).only (Only.of_grown hg) hd
theorem Ents.thru {w1 w3 w4 : World} {S : Nat → Prop} {v x : Value} {es : List Ent} {o : Obj} (h : Ents w1 S x es) (hb : Below w1.heap.size w1 w3) (hg : (w3.alloc o).grownBy w4 v.ownBlock)
    (hd : ∀ g, v.ownBlock = some g → ¬ S g) : Ents w4 S x es :=
  ((h.below hb).below ((Below.refl _ _).alloc (Nat.le_refl _) _)).only (Only.of_grown hg) (fun i _ hs e => hd i e hs)
theorem out_pushed {w4 w5 : World} {B : Nat} {v sl1 sl2 : Value} {cs : List Value} {os : List Ent} (h : EntCells w4 (outT B v sl1) cs os) (ho : Only (fun i => i = B ∨ sl1.ownBlock = some i) w4 w5)
    (hs : sl2.ownBlock = sl1.ownBlock ∨ ∃ g, sl2.ownBlock = some g ∧ w4.heap.size ≤ g) : EntCells w5 (outT B v sl2) cs os := by
  have h1 : EntCells w4 (fun i => outT B v sl1 i ∧ i < w4.heap.size) cs os := h.monoLt fun i hi hs => ⟨hs, hi⟩
  refine (h1.only ho fun i _ ht t => ?_).mono fun i ht => ⟨ht.1.1, ht.1.2.1, fun e => ?_⟩
  · rcases t with t | t
    · have := ht.1.1; omega
    · exact ht.1.2.2 t
  · rcases hs with hs | ⟨g, hg, hlt⟩
    · exact ht.1.2.2 (hs ▸ e)
    · rw [hg] at e
      injection e with e
      have := ht.2
      omega
theorem dis_pushed {w4 : World} {B : Nat} {v sl1 sl2 : Value} (h : ∀ g, v.ownBlock = some g → g ≠ B ∧ sl1.ownBlock ≠ some g) (hlt : ∀ g, v.ownBlock = some g → g < w4.heap.size)
    (hs : sl2.ownBlock = sl1.ownBlock ∨ ∃ g, sl2.ownBlock = some g ∧ w4.heap.size ≤ g) : ∀ g, v.ownBlock = some g → g ≠ B ∧ sl2.ownBlock ≠ some g := by
  intro g hg
  refine ⟨(h g hg).1, fun e => ?_⟩
  rcases hs with hs | ⟨g', hg', hl⟩
  · exact (h g hg).2 (hs ▸ e)
  · rw [hg'] at e
    injection e with e
    have := hlt g hg
    omega
theorem dis_grown {w3 : World} {B : Nat} {v v' sl1 : Value} {o : Obj} (h : ∀ g, v.ownBlock = some g → g ≠ B ∧ sl1.ownBlock ≠ some g) (hat : v'.ownBlock = v.ownBlock ∨ v'.ownBlock = some (w3.alloc o).heap.size)
    (hB : B < w3.heap.size) (hlt : ∀ g, sl1.ownBlock = some g → g < w3.heap.size) : ∀ g, v'.ownBlock = some g → g ≠ B ∧ sl1.ownBlock ≠ some g := by
  intro g hg
  rcases hat with hat | hat
  · exact h g (hat ▸ hg)
  · rw [hat] at hg
    injection hg with hg
    simp at hg
    exact ⟨by omega, fun e => by have := hlt g e; omega⟩
theorem Ents.take1 {w : World} {S : Nat → Prop} {A : Option Addr} {n c : Nat} {es : List Ent} (h : Ents w S (.slice A n c) es) (k : Nat) (hk : k ≤ n) : Ents w S (.slice A k c) (es.take k) := by
  obtain ⟨A', c', cs, he, h1, h2, h3, h4, h5⟩ := h
  injection he with e1 e2 e3
  subst e1 e2 e3
  have hl : (es.take k).length = k := by simp; omega
  have hcl := h5.len
  refine ⟨_, _, cs.take (k * 4), by rw [hl], by omega, h2, by omega, ?_, h5.take k⟩
  rw [hl]
  refine ⟨by simp; omega, fun h0 => ?_⟩
  obtain ⟨b, o, hb, hS, hlt, hc⟩ := h4.2 (by omega)
  refine ⟨b, o, hb, hS, hlt, fun j u hu => ?_⟩
  rw [List.getElem?_take] at hu
  split at hu
  · exact hc j u hu
  · cases hu
end Go.Proofs.Ytacdhkkelkplnaa
end
section
namespace Go.Proofs.Ytacdhkkelkplnaa
open Go.RowKit Go.BigFrame
attribute [local go_sem ↓] Go.wp_at_zero Go.wp_at_succ
set_option maxRecDepth 100000 in
set_option maxHeartbeats 4000000 in
theorem merge_any (S : Nat → Prop) (v : Value) (ls : List (List Ent)) (w : World) (hv : Lists w S v ls) (hS : ∀ i, S i → i < w.heap.size) (hN : total ls * 64 ≤ 140737488355328) :
    Calls Try.prog 23 #[v] w fun r w' => ∃ v', r = .returned (.tuple #[v', .int .i64 (mergeC ls).2]) ∧ Ents w' (fun i => w.heap.size ≤ i) v' (mergeC ls).1 ∧ Below w.heap.size w w' := by
  obtain ⟨i0, hi, hz0, hz1, hz2⟩ := info_parts info26
  have hby := Lib.hid hz2
  have hz1' := Lib.hid hz1
  clear hz2 hz1
  obtain ⟨A, c, vs, rfl, hc, hcm, hl, hr, he⟩ := hv
  obtain ⟨n, hn⟩ : ∃ n, ls.length = n := ⟨_, rfl⟩
  rw [hn] at hr hl hc ⊢
  have HN := Lib.hid hn
  have HSS := Lib.hid hS
  have HE := Lib.hid he
  have HR := Lib.hid hr
  obtain ⟨R, hR⟩ : ∃ R, mergeC ls = R := ⟨_, rfl⟩
  rw [hR]
  have HRR := Lib.hid hR
  clear hn he hr hS hR
  go_enter Try.func23, Try.ntmps23
  go_wp2
  go_loopw [13] (fun t wr => ∃ (k : Nat) (sl : Value) (ps : List (Value × List Ent)), k ≤ n ∧ t = .int .i64 k ∧ HeapV wr w.heap.size w.heap.size S sl ps ∧ ps.map (·.2) = heapOf (ls.take k) ∧ (ls.take k).all orderedE = true ∧ ps.length ≤ k ∧ Below w.heap.size w wr) (fun t _ => n - (intOf t).toNat)
  case atStart => exact ⟨0, _, [], Nat.zero_le _, rfl, HeapV.init w S HSS.out, rfl, rfl, by simp, (Below.refl _ _).alloc (Nat.le_refl _) _⟩
  case round =>
    obtain ⟨k, sl, ps, hk, rfl, hh, hps, hall, hpl, hbel⟩ := hrel
    have HH := Lib.hid hh
    have HPS := Lib.hid hps
    have HALL := Lib.hid hall
    have HB := Lib.hid hbel
    clear hh hps hall hbel
    by_cases hkn : k < n
    · obtain ⟨l, hlk⟩ : ∃ l, ls[k]? = some l := ⟨_, List.getElem?_eq_getElem (by rw [HN.out]; exact hkn)⟩
      obtain ⟨x, hx, hxe⟩ := HE.out k l hlk
      obtain ⟨b, o, u, rfl, _, _, hu, hcell⟩ := (HR.out.below HB.out).at_ hkn
      obtain rfl : u = x := by rw [hx] at hu; injection hu with hu; exact hu.symm
      replace hxe := hxe.below HB.out
      obtain ⟨Ax, cx, rfl⟩ := ents_form hxe
      have HX := Lib.hid hxe
      have HLK := Lib.hid hlk
      have HORD := Lib.hid (ordered_any S _ l wr hxe)
      clear hx hxe hu hlk
      rcases ho : orderedE l with _ | _
      · rw [ho] at HORD
        have HF := Lib.hid (all_false_at HLK.out ho)
        clear ho
        go_wp2_with (go_at_call 48; refine HORD.out.mono ?_; rintro r w1 ⟨rfl, hb1⟩)
        refine bodyPost_ret (v := .tuple #[_, _]) (by simp [results, Try.results23, go_sem]; exact ⟨rfl, rfl⟩) rfl ?_
        obtain rfl : R = ([], 30) := by rw [← HRR.out]; unfold mergeC; rw [HF.out]; rfl
        exact ⟨_, rfl, Ents.nil _ _, HB.out.trans (hb1.mono HB.out.size)⟩
      · rw [ho] at HORD
        have HT := Lib.hid (all_take_snoc HLK.out HALL.out ho)
        clear ho
        have HSN := Lib.hid (heapOf_snoc (ls.take k) l)
        have HTK := Lib.hid (take_snoc HLK.out)
        cases l with
        | nil =>
          go_wp2_with (go_at_call 48; refine HORD.out.mono ?_; rintro r w1 ⟨rfl, hb1⟩)
          refine ⟨⟨k + 1, sl, ps, by omega, by go_num, HH.out.below hb1, ?_, HT.out, by omega, HB.out.trans (hb1.mono HB.out.size)⟩, by simp [intOf]; omega⟩
          rw [HTK.out, HSN.out, HPS.out]; simp
        | cons e l =>
          go_wp2_with (first
            | (go_at_call 48; refine HORD.out.mono ?_; rintro r w1 ⟨rfl, hb1⟩)
            | (go_at_call 49; refine (push_any w.heap.size w.heap.size S sl _ ps (e :: l) _ (HH.out.below hb1) (HX.out.below hb1) (by simp) (by omega)).mono ?_; rintro r w2 ⟨rfl, hpu⟩))
          have hB := HB.out.size
          have hB1 := hb1.size
          have hbl := hpu.below (Nat.le_refl _) (fun g hg => (HH.out.row.lt g hg).1) (by omega)
          obtain ⟨sl', hh2, _, _⟩ := hpu
          refine ⟨⟨k + 1, sl', _, by omega, by go_num, hh2, ?_, HT.out, ?_, (HB.out.trans (hb1.mono HB.out.size)).trans hbl⟩, by simp [intOf]; omega⟩
          · rw [HTK.out, HSN.out, if_neg (by simp), ← HPS.out]
            exact pushL_map (·.2) id ps (_, e :: l)
          · rw [(siftUp_perm _ _ _).length_eq]; simp; omega
    · obtain rfl : k = n := by omega
      have hmc : R = mergeGo (total ls) (heapOf ls) [] := by
        rw [← HRR.out]
        unfold mergeC
        have := HALL.out
        rw [List.take_of_length_le (by rw [HN.out]; exact Nat.le_refl _)] at this
        rw [if_pos this]
      have hps0 : ps.map (·.2) = heapOf ls := by
        have := HPS.out
        rwa [List.take_of_length_le (by rw [HN.out]; exact Nat.le_refl _)] at this
      have htot : total (ps.map (·.2)) = total ls := by rw [hps0, heapOf_total]
      rw [← hps0] at hmc
      have HMC := Lib.hid hmc
      have HTOT := Lib.hid htot
      obtain ⟨N, hNN⟩ : ∃ N, total ls = N := ⟨_, rfl⟩
      rw [hNN] at hN HTOT HMC
      have HW := Lib.hid HB.out.size
      clear hmc hps0 htot hNN
      go_wp2
      go_loopw [7] (fun v7 wr => ∃ (out : List Ent) (ys : List Value) (sl : Value) (ps : List (Value × List Ent)), HeapV wr w.heap.size w.heap.size S sl ps ∧ wr.ownsRow w.heap.size 46 4 v7 out.length ys ∧ EntCells wr (outT w.heap.size v7 sl) ys out ∧
        (∀ g, v7.ownBlock = some g → g ≠ w.heap.size ∧ sl.ownBlock ≠ some g) ∧ R = mergeGo (N - out.length) (ps.map (·.2)) out ∧ out.length + total (ps.map (·.2)) = N ∧ ps.length ≤ k ∧ Below w.heap.size w wr) (fun v7 _ => N - sliceLen v7)
      case atStart => exact ⟨[], [], sl, ps, HH.out, World.ownsRow_nil _ _ _ _, trivial, (fun g h => by simp [Value.ownBlock] at h), HMC.out, by simpa using HTOT.out, hpl, HB.out⟩
      case round =>
        clear HH HPS HALL HB HTOT HMC hpl
        clear sl ps
        obtain ⟨out, ys, sl, ps, hh, hown, hys, hdis, hgo, htot, hpl, hbel⟩ := hrel
        have HH := Lib.hid hh
        have HOWN := Lib.hid hown
        have HYS := Lib.hid hys
        have HDIS := Lib.hid hdis
        have HGO := Lib.hid hgo
        have HTOT := Lib.hid htot
        have HB := Lib.hid hbel
        clear hh hown hys hdis hgo htot hbel
        cases ps with
        | nil =>
          obtain ⟨A', c', rfl⟩ := own_form HH.out.row
          have c0 : wr.cell? { block := w.heap.size, off := 0 } = some (.slice A' 0 c') := HH.out.box0
          go_wp2
          obtain rfl : R = (out, 0) := by rw [HGO.out]; exact mergeGo_nil _ _
          refine bodyPost_ret (v := .tuple #[_, _]) (by simp [results, Try.results23, go_sem]; exact ⟨rfl, rfl⟩) rfl ?_
          refine ⟨_, rfl, ?_, HB.out⟩
          exact Ents.of_own HOWN.out (HYS.out.mono fun i hi => Nat.le_of_lt hi.1) (fun i hi _ => hi) (show out.length * 64 ≤ 140737488355328 by have := HTOT.out; omega)
        | cons q ps =>
          obtain ⟨v0, l0⟩ := q
          obtain ⟨y0, y0n⟩ := HH.out.vals (v0, l0) (by simp)
          obtain ⟨e, l, rfl⟩ := List.exists_cons_of_ne_nil y0n
          obtain ⟨b0, o0, c00, k0, u0, rfl, x0, x1, x2, x3, z1, z2⟩ := y0.head
          obtain ⟨g, cg, rfl, hbg, hgz, hgc, hgm⟩ := own_pos HH.out.row (by simp)
          obtain ⟨A7, c7, rfl⟩ := own_form HOWN.out
          have c0 : wr.cell? { block := w.heap.size, off := 0 } = some (.slice (some ⟨g, 0, none⟩) (ps.length + 1) cg) := HH.out.box0
          obtain ⟨K, hK⟩ : ∃ K, N - out.length = K + 1 := ⟨N - out.length - 1, by have := HTOT.out; simp [total] at this; omega⟩
          have HGO' := Lib.hid (show R = if twice out e = true then ([], 31) else mergeGo K (if l = [] then popL id ((e :: l) :: ps.map (·.2)) else pushL id (popL id ((e :: l) :: ps.map (·.2))) l) (out ++ [e]) by
            have := HGO.out; rw [hK] at this; exact this)
          have HKK := Lib.hid hK
          have HY0 := Lib.hid y0
          have X0 := Lib.hid x0
          have X1 := Lib.hid x1
          have X2 := Lib.hid x2
          have X3 := Lib.hid x3
          obtain ⟨m, hm⟩ : ∃ m, out.length = m := ⟨_, rfl⟩
          have HM := Lib.hid hm
          rw [hm] at HOWN HYS HDIS HTOT
          rw [hm]
          clear hK y0 y0n x0 x1 x2 x3 HGO hm
          go_wp2_with (go_at_call 50; refine (pop_any w.heap.size w.heap.size S _ _ _ _ HH.out rfl (by simp at hpl ⊢; omega)).mono ?_; rintro r w1 ⟨rfl, hpo⟩)
          obtain ⟨sl1, hh1, ho1, hs1⟩ := hpo
          have hlt := HH.out.row.lt
          have hown1 := own_only HOWN.out ho1 (fun g' hg' t => t.elim (fun e => (HDIS.out g' hg').1 e) (fun e => (HDIS.out g' hg').2 e))
          have hys1 : EntCells w1 (outT w.heap.size (.slice A7 m c7) sl1) ys out := (HYS.out.only ho1 (fun i _ ht t => t.elim (fun e => by have := ht.1; omega) (fun e => ht.2.2 e))).mono (fun i ht => ⟨ht.1, ht.2.1, hs1 ▸ ht.2.2⟩)
          have hy1 := HY0.out.only ho1 (fun i _ hs t => by have := HSS.out i hs; rcases t with t | t; omega; have := (hlt i t).1; omega)
          have hdis1 : ∀ g', (Value.slice A7 m c7).ownBlock = some g' → g' ≠ w.heap.size ∧ sl1.ownBlock ≠ some g' := fun g' hg' => by rw [hs1]; exact HDIS.out g' hg'
          have hbel1 : Below w.heap.size w w1 := HB.out.trans (ho1.below HB.out.size (fun i t => by rcases t with t | t; omega; exact (hlt i t).1))
          obtain ⟨_, hc1, hc2, k0, u0, x0, x1, x2, x3, z1, z2⟩ := hy1.head'
          have HH1 := Lib.hid hh1
          have HOWN1 := Lib.hid hown1
          have HYS1 := Lib.hid hys1
          have HY1 := Lib.hid hy1
          have HDIS1 := Lib.hid hdis1
          have HB1 := Lib.hid hbel1
          have Z1 := Lib.hid z1
          have Z2 := Lib.hid z2
          clear hh1 ho1 hs1 hlt hown1 hys1 hy1 hdis1 hbel1 z1 z2 X0 X1 X2 X3 HOWN HYS HDIS HB HY0 HH hk hkn
          have G0 : ∀ q : Ext w1, q.w.cell? { block := b0, off := o0 } = _ := fun q => q.h.cell x0
          have G1 : ∀ q : Ext w1, q.w.cell? { block := b0, off := o0 + 1 } = _ := fun q => q.h.cell x1
          have G2 : ∀ q : Ext w1, q.w.cell? { block := b0, off := o0 + 2 } = _ := fun q => q.h.cell x2
          have G3 : ∀ q : Ext w1, q.w.cell? { block := b0, off := o0 + 3 } = _ := fun q => q.h.cell x3
          have X0 := Lib.hid x0
          have X1 := Lib.hid x1
          have X2 := Lib.hid x2
          have X3 := Lib.hid x3
          clear x0 x1 x2 x3
          rcases List.eq_nil_or_concat out with hnil | ⟨os, o, hcon⟩
          · have hm0 : m = 0 := by rw [← HM.out, hnil]; rfl
            have hgd : decide (0 < m) = false := by simp [hm0]
            have htw : Hid (twice out e = false) := Lib.hid (by rw [hnil]; rfl)
            have HM0 := Lib.hid hm0
            have HNIL := Lib.hid hnil
            clear hm0 hnil
            (refine wp_region_quiet_ext (by kernel_rfl) (by kernel_rfl) ?_; (repeat (go_big_quiet_step (fail))); refine wpQuiet_nil ?_; intro wq hw'; obtain ⟨⟨_, hq⟩, hw''⟩ := hw'; subst hw'')
            have htw0 := htw.out
            clear htw
            have HHQ := Lib.hid (HH1.out.below hq)
            have HOQ := Lib.hid (own_below HOWN1.out hq)
            have HYQ := Lib.hid (HYS1.out.below hq)
            have HXQ := Lib.hid (HY1.out.below hq)
            have HBQ := Lib.hid (HB1.out.trans (Below.mono hq HB1.out.size))
            have HEV := Lib.hid ((show EntV w1 S (.agg #[k0, .int .i64 e.seq, .bool e.dead, u0]) e from ⟨_, _, rfl, Z1.out, Z2.out⟩).below hq)
            have x0 := fr.cell hq X0.out
            have x1 := fr.cell hq X1.out
            have x2 := fr.cell hq X2.out
            have x3 := fr.cell hq X3.out
            have hmN : m + 1 ≤ N := by have := HKK.out; have := HM.out; omega
            have HD7 : Hid (∀ g', (Value.slice A7 m c7).ownBlock = some g' → w.heap.size ≤ g' ∧ g' ≠ w.heap.size ∧ sl1.ownBlock ≠ some g') := Lib.hid fun g' hg' => ⟨(HOQ.out.lt g' hg').1, HDIS1.out g' hg'⟩
            have hBz : w.heap.size < wq.heap.size := HHQ.out.lt
            have HTW := Lib.hid (HGO'.out.trans (if_neg (by rw [htw0]; simp)))
            have hpl' : ps.length + 1 ≤ k := by simpa using hpl
            clear hq G0 G1 G2 G3 htw0 hpl
            by_cases hl : l = []
            · have hl0 : l.length ≤ 0 := by rw [hl]; simp
              have HL := Lib.hid hl
              clear hl
              go_wp2_with (first
                | (go_at_call 51; refine (eclone_any S _ e _ HEV.out).mono ?_; rintro r w3 ⟨v1, rfl, ⟨k', u', rfl, hk', hu'⟩, hb3⟩; obtain ⟨Ak, ck, rfl⟩ := slice_form hk'; obtain ⟨Au, cu, rfl⟩ := slice_form hu')
                | (at_builtin; refine wpList_append_own_at _ rfl _ _ 41 rfl w.heap.size 46 i0 _ 4 64 Try.underlying41 hi hz0 hz1'.out hby.out rfl (by decide) _ _ _ rfl ((own_below HOQ.out hb3).alloc _) ⟨w3.heap.size, 0, none⟩ 1 1 [.slice Ak e.key.length ck, .int .i64 e.seq, .bool e.dead, .slice Au e.val.length cu] rfl rfl (cell_four_new _ _ _ _ _ _) (by simp [Value.oneCell']) (by unfold maxLen; omega) (by omega) (by have := HBQ.out.size; have := hb3.size; simp; omega) ?_; intro v' w4 hown' hgrow hnn hat; clear hnn))
              obtain ⟨A8, c8, rfl⟩ := own_form hown'
              have hH4 := HHQ.out.thru hb3 hgrow HD7.out
              have hE4 : EntCells w4 (outT w.heap.size (.slice A8 (m + 1) c8) sl1) (ys ++ [.slice Ak e.key.length ck, .int .i64 e.seq, .bool e.dead, .slice Au e.val.length cu]) (out ++ [e]) := EntCells.pushT HOQ.out HYQ.out (fun i h => h.2.1) hb3 hk' hu' hgrow hat (fun i h hn => ⟨h.elim (fun h => h.1) (fun h => by omega), hn, h.elim (fun h => h.2.2) (fun h e => by have := HHQ.out.row.lt i e; omega)⟩)
              have hD4 := dis_grown HDIS1.out hat (by have := hb3.size; omega) (fun g hg => by have := HHQ.out.row.lt g hg; have := hb3.size; omega)
              refine ⟨⟨out ++ [e], _, sl1, _, hH4, (by rw [List.length_append, HM.out]; exact hown'), hE4, hD4, ?_, ?_, ?_, ((HBQ.out.trans (hb3.mono HBQ.out.size)).alloc (by have := HBQ.out.size; have := hb3.size; omega) _).grown hgrow (by have := HBQ.out.size; have := hb3.size; simp; omega) (fun j e => (HOQ.out.lt j e).1)⟩, ?_⟩
              · rw [HTW.out, if_pos HL.out, show N - (out ++ [e]).length = K by have := HKK.out; simp; omega]
                exact congrArg (fun h => mergeGo K h (out ++ [e])) (popV_map ((Value.slice (some ⟨b0, o0, none⟩) (l.length + 1) c00, e :: l) :: ps)).symm
              · have h1 := total_pop e l (ps.map (·.2))
                have h2 : ((popL (·.2) ((Value.slice (some ⟨b0, o0, none⟩) (l.length + 1) c00, e :: l) :: ps)).map (·.2)) = popL id ((e :: l) :: ps.map (·.2)) := popV_map _
                have h3 := HTOT.out
                have h4 := HM.out
                rw [h2]; simp only [List.map_cons] at h3; simp; omega
              · rw [popL_len]; simp; omega
              · simp [sliceLen]; omega
            · have hl0 : 0 < l.length := List.length_pos_iff.2 hl
              have HL := Lib.hid hl
              clear hl
              go_wp2_with (first
                | (go_at_call 51; refine (eclone_any S _ e _ HEV.out).mono ?_; rintro r w3 ⟨v1, rfl, ⟨k', u', rfl, hk', hu'⟩, hb3⟩; obtain ⟨Ak, ck, rfl⟩ := slice_form hk'; obtain ⟨Au, cu, rfl⟩ := slice_form hu')
                | (at_builtin; refine wpList_append_own_at _ rfl _ _ 41 rfl w.heap.size 46 i0 _ 4 64 Try.underlying41 hi hz0 hz1'.out hby.out rfl (by decide) _ _ _ rfl ((own_below HOQ.out hb3).alloc _) ⟨w3.heap.size, 0, none⟩ 1 1 [.slice Ak e.key.length ck, .int .i64 e.seq, .bool e.dead, .slice Au e.val.length cu] rfl rfl (cell_four_new _ _ _ _ _ _) (by simp [Value.oneCell']) (by unfold maxLen; omega) (by omega) (by have := HBQ.out.size; have := hb3.size; simp; omega) ?_; intro v' w4 hown' hgrow hnn hat; clear hnn)
                | ((go_at_call 49; refine (push_any w.heap.size w.heap.size S sl1 _ _ l _ (HHQ.out.thru hb3 hgrow HD7.out) ((HXQ.out.tail HL.out).thru hb3 hgrow (fun g hg hs => by have := HSS.out g hs; have := (HD7.out g hg).1; omega)) HL.out (by rw [popL_len]; simp; omega)).mono ?_; rintro r w5 ⟨rfl, hpu⟩)))
              obtain ⟨A8, c8, rfl⟩ := own_form hown'
              have hH4 := HHQ.out.thru hb3 hgrow HD7.out
              have hE4 : EntCells w4 (outT w.heap.size (.slice A8 (m + 1) c8) sl1) (ys ++ [.slice Ak e.key.length ck, .int .i64 e.seq, .bool e.dead, .slice Au e.val.length cu]) (out ++ [e]) := EntCells.pushT HOQ.out HYQ.out (fun i h => h.2.1) hb3 hk' hu' hgrow hat (fun i h hn => ⟨h.elim (fun h => h.1) (fun h => by omega), hn, h.elim (fun h => h.2.2) (fun h e => by have := HHQ.out.row.lt i e; omega)⟩)
              have hD4 := dis_grown HDIS1.out hat (by have := hb3.size; omega) (fun g hg => by have := HHQ.out.row.lt g hg; have := hb3.size; omega)
              have hB4 := ((HBQ.out.trans (hb3.mono HBQ.out.size)).alloc (by have := HBQ.out.size; have := hb3.size; omega) (.cells #[.slice Ak e.key.length ck, .int .i64 e.seq, .bool e.dead, .slice Au e.val.length cu] 46)).grown hgrow (by have := HBQ.out.size; have := hb3.size; simp; omega) (fun j e => (HOQ.out.lt j e).1)
              have hB5 := hB4.trans (hpu.below (Nat.le_refl _) (fun g hg => (hH4.row.lt g hg).1) hB4.size)
              obtain ⟨sl2, hh5, ho5, hs5⟩ := hpu
              refine ⟨⟨out ++ [e], _, sl2, _, hh5, (by rw [List.length_append, HM.out]; exact own_only hown' ho5 (fun g hg t => t.elim (fun e => (hD4 g hg).1 e) (fun e => (hD4 g hg).2 e))), out_pushed hE4 ho5 hs5, dis_pushed hD4 (fun g hg => (hown'.lt g hg).2) hs5, ?_, ?_, ?_, hB5⟩, ?_⟩
              · rw [HTW.out, if_neg HL.out, show N - (out ++ [e]).length = K by have := HKK.out; simp; omega]
                have h2 : ((popL (·.2) ((Value.slice (some ⟨b0, o0, none⟩) (l.length + 1) c00, e :: l) :: ps)).map (·.2)) = popL id ((e :: l) :: ps.map (·.2)) := popV_map _
                rw [← h2]
                exact congrArg (fun h => mergeGo K h (out ++ [e])) (pushV_map _ (_, l)).symm
              · have h1 := total_pop e l (ps.map (·.2))
                have h2 : ((popL (·.2) ((Value.slice (some ⟨b0, o0, none⟩) (l.length + 1) c00, e :: l) :: ps)).map (·.2)) = popL id ((e :: l) :: ps.map (·.2)) := popV_map _
                have h3 := HTOT.out
                have h4 := HM.out
                have h5 : total ((pushL (·.2) (popL (·.2) ((Value.slice (some ⟨b0, o0, none⟩) (l.length + 1) c00, e :: l) :: ps)) ((Value.slice (some ⟨b0, o0 + 4, none⟩) l.length (c00 - 1), l) : Value × List Ent)).map (·.2)) = total (popL id ((e :: l) :: ps.map (·.2))) + l.length := by
                  rw [← h2, ← total_push]; exact congrArg total (pushV_map _ _)
                refine Eq.trans (congrArg (fun z => (out ++ [e]).length + z) h5) ?_
                simp only [List.map_cons] at h3; simp; omega
              · rw [(siftUp_perm _ _ _).length_eq]; simp [popL_len]; omega
              · simp [sliceLen]; omega
          · have hm1 : m = os.length + 1 := by rw [← HM.out, hcon]; simp
            have hpos : 0 < m := by omega
            have hgd : decide (0 < m) = true := by simp; omega
            rw [List.concat_eq_append] at hcon
            obtain ⟨g7, c7', hA, hb7, hz7, hc7, hc7'⟩ := own_pos HOWN1.out hpos
            injection hA with hA hm' hc'
            subst hA hc'
            obtain ⟨ko, uo, a0, a1, a2, a3, q1, q2⟩ := own_last HOWN1.out (hcon ▸ HYS1.out) hm1
            have F0 : ∀ q : Ext w1, q.w.cell? { block := g7, off := (m - 1) * 4 } = _ := fun q => q.h.cell a0
            have F1 : ∀ q : Ext w1, q.w.cell? { block := g7, off := (m - 1) * 4 + 1 } = _ := fun q => q.h.cell a1
            have F2 : ∀ q : Ext w1, q.w.cell? { block := g7, off := (m - 1) * 4 + 2 } = _ := fun q => q.h.cell a2
            have F3 : ∀ q : Ext w1, q.w.cell? { block := g7, off := (m - 1) * 4 + 3 } = _ := fun q => q.h.cell a3
            have CC : ∀ q : Ext w1, Calls Try.prog 47 #[.agg #[ko, .int .i64 o.seq, .bool o.dead, uo], .agg #[k0, .int .i64 e.seq, .bool e.dead, u0]] q.w fun r w'' => r = .returned (.int .i64 (cmpE o e)) ∧ ∃ q' : Ext w1, w'' = q'.w := fun q => Ext.calls (compare_any _ S _ _ o e _ (q.h.ent ⟨_, _, rfl, q1, q2⟩) (q.h.ent ⟨_, _, rfl, Z1.out, Z2.out⟩))
            have htw : Hid (twice out e = decide (cmpE o e = 0)) := Lib.hid (by rw [hcon]; exact twice_snoc _ _ _)
            have HM1 := Lib.hid hm1
            have HCON := Lib.hid hcon
            clear hm1 hcon a0 a1 a2 a3 q1 q2 hm'
            by_cases heq : cmpE o e = 0
            · have hdq : (cmpE o e == 0) = true := by simp [heq]
              have HEQ := Lib.hid heq
              clear heq
              (refine wp_region_quiet_ext (by kernel_rfl) (by kernel_rfl) ?_; (repeat (go_big_quiet_step ((go_at_call 47; exact CC _)))); refine wpQuiet_nil ?_; intro wq hw'; obtain ⟨⟨_, hq⟩, hw''⟩ := hw'; subst hw'')
              go_wp2
              obtain rfl : R = ([], 31) := HGO'.out.trans (if_pos (by rw [htw.out, HEQ.out]; rfl))
              refine bodyPost_ret (v := .tuple #[_, _]) (by simp [results, Try.results23, go_sem]; exact ⟨rfl, rfl⟩) rfl ?_
              exact ⟨_, rfl, Ents.nil _ _, HB1.out.trans (Below.mono hq HB1.out.size)⟩
            · have hdq : (cmpE o e == 0) = false := by simp [heq]
              have HEQ := Lib.hid heq
              clear heq
              (refine wp_region_quiet_ext (by kernel_rfl) (by kernel_rfl) ?_; (repeat (go_big_quiet_step ((go_at_call 47; exact CC _)))); refine wpQuiet_nil ?_; intro wq hw'; obtain ⟨⟨_, hq⟩, hw''⟩ := hw'; subst hw'')
              have htw0 : twice out e = false := by rw [htw.out]; exact decide_eq_false HEQ.out
              clear htw F0 F1 F2 F3 CC
              have HHQ := Lib.hid (HH1.out.below hq)
              have HOQ := Lib.hid (own_below HOWN1.out hq)
              have HYQ := Lib.hid (HYS1.out.below hq)
              have HXQ := Lib.hid (HY1.out.below hq)
              have HBQ := Lib.hid (HB1.out.trans (Below.mono hq HB1.out.size))
              have HEV := Lib.hid ((show EntV w1 S (.agg #[k0, .int .i64 e.seq, .bool e.dead, u0]) e from ⟨_, _, rfl, Z1.out, Z2.out⟩).below hq)
              have x0 := fr.cell hq X0.out
              have x1 := fr.cell hq X1.out
              have x2 := fr.cell hq X2.out
              have x3 := fr.cell hq X3.out
              have hmN : m + 1 ≤ N := by have := HKK.out; have := HM.out; omega
              have HD7 : Hid (∀ g', (Value.slice (some ⟨g7, 0, none⟩) m c7).ownBlock = some g' → w.heap.size ≤ g' ∧ g' ≠ w.heap.size ∧ sl1.ownBlock ≠ some g') := Lib.hid fun g' hg' => ⟨(HOQ.out.lt g' hg').1, HDIS1.out g' hg'⟩
              have hBz : w.heap.size < wq.heap.size := HHQ.out.lt
              have HTW := Lib.hid (HGO'.out.trans (if_neg (by rw [htw0]; simp)))
              have hpl' : ps.length + 1 ≤ k := by simpa using hpl
              clear hq G0 G1 G2 G3 htw0 hpl
              by_cases hl : l = []
              · have hl0 : l.length ≤ 0 := by rw [hl]; simp
                have HL := Lib.hid hl
                clear hl
                go_wp2_with (first
                  | (go_at_call 51; refine (eclone_any S _ e _ HEV.out).mono ?_; rintro r w3 ⟨v1, rfl, ⟨k', u', rfl, hk', hu'⟩, hb3⟩; obtain ⟨Ak, ck, rfl⟩ := slice_form hk'; obtain ⟨Au, cu, rfl⟩ := slice_form hu')
                  | (at_builtin; refine wpList_append_own_at _ rfl _ _ 41 rfl w.heap.size 46 i0 _ 4 64 Try.underlying41 hi hz0 hz1'.out hby.out rfl (by decide) _ _ _ rfl ((own_below HOQ.out hb3).alloc _) ⟨w3.heap.size, 0, none⟩ 1 1 [.slice Ak e.key.length ck, .int .i64 e.seq, .bool e.dead, .slice Au e.val.length cu] rfl rfl (cell_four_new _ _ _ _ _ _) (by simp [Value.oneCell']) (by unfold maxLen; omega) (by omega) (by have := HBQ.out.size; have := hb3.size; simp; omega) ?_; intro v' w4 hown' hgrow hnn hat; clear hnn))
                obtain ⟨A8, c8, rfl⟩ := own_form hown'
                have hH4 := HHQ.out.thru hb3 hgrow HD7.out
                have hE4 : EntCells w4 (outT w.heap.size (.slice A8 (m + 1) c8) sl1) (ys ++ [.slice Ak e.key.length ck, .int .i64 e.seq, .bool e.dead, .slice Au e.val.length cu]) (out ++ [e]) := EntCells.pushT HOQ.out HYQ.out (fun i h => h.2.1) hb3 hk' hu' hgrow hat (fun i h hn => ⟨h.elim (fun h => h.1) (fun h => by omega), hn, h.elim (fun h => h.2.2) (fun h e => by have := HHQ.out.row.lt i e; omega)⟩)
                have hD4 := dis_grown HDIS1.out hat (by have := hb3.size; omega) (fun g hg => by have := HHQ.out.row.lt g hg; have := hb3.size; omega)
                refine ⟨⟨out ++ [e], _, sl1, _, hH4, (by rw [List.length_append, HM.out]; exact hown'), hE4, hD4, ?_, ?_, ?_, ((HBQ.out.trans (hb3.mono HBQ.out.size)).alloc (by have := HBQ.out.size; have := hb3.size; omega) _).grown hgrow (by have := HBQ.out.size; have := hb3.size; simp; omega) (fun j e => (HOQ.out.lt j e).1)⟩, ?_⟩
                · rw [HTW.out, if_pos HL.out, show N - (out ++ [e]).length = K by have := HKK.out; simp; omega]
                  exact congrArg (fun h => mergeGo K h (out ++ [e])) (popV_map ((Value.slice (some ⟨b0, o0, none⟩) (l.length + 1) c00, e :: l) :: ps)).symm
                · have h1 := total_pop e l (ps.map (·.2))
                  have h2 : ((popL (·.2) ((Value.slice (some ⟨b0, o0, none⟩) (l.length + 1) c00, e :: l) :: ps)).map (·.2)) = popL id ((e :: l) :: ps.map (·.2)) := popV_map _
                  have h3 := HTOT.out
                  have h4 := HM.out
                  rw [h2]; simp only [List.map_cons] at h3; simp; omega
                · rw [popL_len]; simp; omega
                · simp [sliceLen]; omega
              · have hl0 : 0 < l.length := List.length_pos_iff.2 hl
                have HL := Lib.hid hl
                clear hl
                go_wp2_with (first
                  | (go_at_call 51; refine (eclone_any S _ e _ HEV.out).mono ?_; rintro r w3 ⟨v1, rfl, ⟨k', u', rfl, hk', hu'⟩, hb3⟩; obtain ⟨Ak, ck, rfl⟩ := slice_form hk'; obtain ⟨Au, cu, rfl⟩ := slice_form hu')
                  | (at_builtin; refine wpList_append_own_at _ rfl _ _ 41 rfl w.heap.size 46 i0 _ 4 64 Try.underlying41 hi hz0 hz1'.out hby.out rfl (by decide) _ _ _ rfl ((own_below HOQ.out hb3).alloc _) ⟨w3.heap.size, 0, none⟩ 1 1 [.slice Ak e.key.length ck, .int .i64 e.seq, .bool e.dead, .slice Au e.val.length cu] rfl rfl (cell_four_new _ _ _ _ _ _) (by simp [Value.oneCell']) (by unfold maxLen; omega) (by omega) (by have := HBQ.out.size; have := hb3.size; simp; omega) ?_; intro v' w4 hown' hgrow hnn hat; clear hnn)
                  | ((go_at_call 49; refine (push_any w.heap.size w.heap.size S sl1 _ _ l _ (HHQ.out.thru hb3 hgrow HD7.out) ((HXQ.out.tail HL.out).thru hb3 hgrow (fun g hg hs => by have := HSS.out g hs; have := (HD7.out g hg).1; omega)) HL.out (by rw [popL_len]; simp; omega)).mono ?_; rintro r w5 ⟨rfl, hpu⟩)))
                obtain ⟨A8, c8, rfl⟩ := own_form hown'
                have hH4 := HHQ.out.thru hb3 hgrow HD7.out
                have hE4 : EntCells w4 (outT w.heap.size (.slice A8 (m + 1) c8) sl1) (ys ++ [.slice Ak e.key.length ck, .int .i64 e.seq, .bool e.dead, .slice Au e.val.length cu]) (out ++ [e]) := EntCells.pushT HOQ.out HYQ.out (fun i h => h.2.1) hb3 hk' hu' hgrow hat (fun i h hn => ⟨h.elim (fun h => h.1) (fun h => by omega), hn, h.elim (fun h => h.2.2) (fun h e => by have := HHQ.out.row.lt i e; omega)⟩)
                have hD4 := dis_grown HDIS1.out hat (by have := hb3.size; omega) (fun g hg => by have := HHQ.out.row.lt g hg; have := hb3.size; omega)
                have hB4 := ((HBQ.out.trans (hb3.mono HBQ.out.size)).alloc (by have := HBQ.out.size; have := hb3.size; omega) (.cells #[.slice Ak e.key.length ck, .int .i64 e.seq, .bool e.dead, .slice Au e.val.length cu] 46)).grown hgrow (by have := HBQ.out.size; have := hb3.size; simp; omega) (fun j e => (HOQ.out.lt j e).1)
                have hB5 := hB4.trans (hpu.below (Nat.le_refl _) (fun g hg => (hH4.row.lt g hg).1) hB4.size)
                obtain ⟨sl2, hh5, ho5, hs5⟩ := hpu
                refine ⟨⟨out ++ [e], _, sl2, _, hh5, (by rw [List.length_append, HM.out]; exact own_only hown' ho5 (fun g hg t => t.elim (fun e => (hD4 g hg).1 e) (fun e => (hD4 g hg).2 e))), out_pushed hE4 ho5 hs5, dis_pushed hD4 (fun g hg => (hown'.lt g hg).2) hs5, ?_, ?_, ?_, hB5⟩, ?_⟩
                · rw [HTW.out, if_neg HL.out, show N - (out ++ [e]).length = K by have := HKK.out; simp; omega]
                  have h2 : ((popL (·.2) ((Value.slice (some ⟨b0, o0, none⟩) (l.length + 1) c00, e :: l) :: ps)).map (·.2)) = popL id ((e :: l) :: ps.map (·.2)) := popV_map _
                  rw [← h2]
                  exact congrArg (fun h => mergeGo K h (out ++ [e])) (pushV_map _ (_, l)).symm
                · have h1 := total_pop e l (ps.map (·.2))
                  have h2 : ((popL (·.2) ((Value.slice (some ⟨b0, o0, none⟩) (l.length + 1) c00, e :: l) :: ps)).map (·.2)) = popL id ((e :: l) :: ps.map (·.2)) := popV_map _
                  have h3 := HTOT.out
                  have h4 := HM.out
                  have h5 : total ((pushL (·.2) (popL (·.2) ((Value.slice (some ⟨b0, o0, none⟩) (l.length + 1) c00, e :: l) :: ps)) ((Value.slice (some ⟨b0, o0 + 4, none⟩) l.length (c00 - 1), l) : Value × List Ent)).map (·.2)) = total (popL id ((e :: l) :: ps.map (·.2))) + l.length := by
                    rw [← h2, ← total_push]; exact congrArg total (pushV_map _ _)
                  refine Eq.trans (congrArg (fun z => (out ++ [e]).length + z) h5) ?_
                  simp only [List.map_cons] at h3; simp; omega
                · rw [(siftUp_perm _ _ _).length_eq]; simp [popL_len]; omega
                · simp [sliceLen]; omega
end Go.Proofs.Ytacdhkkelkplnaa
end
