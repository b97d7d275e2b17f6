/-
Check of compact, and the document's Check.
-/
import Derived.Test.YtacdhkkelkplnaaQPKeeps14
section
namespace Go.Proofs.Ytacdhkkelkplnaa
open Go.RowKit Go.BigFrame
attribute [local go_sem ↓] Go.wp_at_zero Go.wp_at_succ
/-- pieces handed out, in neither of two rows that still grow. -/
def RefOut (w : World) (vO vP : Value) (P : List (List Ent)) (ys : List Value) : Prop :=
  ∀ (i : Nat) (l : List Ent), P[i]? = some l → ∃ x, ys[i]? = some x ∧ Ents w (fun j => vO.ownBlock ≠ some j ∧ vP.ownBlock ≠ some j) x l
theorem RefOut.pushP {wr w1 w2 : World} {vO vP vP' : Value} {P : List (List Ent)} {ys : List Value} {o : Obj} (h : RefOut wr vO vP P ys) (hb : Below wr.heap.size wr w1) (hg : (w1.alloc o).grownBy w2 vP.ownBlock)
    (hat : vP'.ownBlock = vP.ownBlock ∨ vP'.ownBlock = some (w1.alloc o).heap.size) : RefOut w2 vO vP' P ys := fun i l hl => by
  obtain ⟨x, hx, he⟩ := h i l hl
  exact ⟨x, hx, ((he.below hb).below ((Below.refl _ _).alloc (Nat.le_refl _) _)).push hg hat (fun i _ hs => hs.2) (fun i _ hs hn => ⟨hs.1, hn⟩)⟩
theorem RefOut.pushO {wr w1 w2 : World} {vO vP vO' x : Value} {P : List (List Ent)} {ys : List Value} {p : List Ent} {o : Obj} (h : RefOut wr vO vP P ys) (hy : ys.length = P.length) (hb : Below wr.heap.size wr w1) (hg : (w1.alloc o).grownBy w2 vO.ownBlock)
    (hat : vO'.ownBlock = vO.ownBlock ∨ vO'.ownBlock = some (w1.alloc o).heap.size) (hp : Ents wr (fun j => vO.ownBlock ≠ some j) x p) : RefOut w2 vO' (.slice none 0 0) (P ++ [p]) (ys ++ [x]) := fun i l hl => by
  by_cases hi : i < P.length
  · rw [List.getElem?_append_left hi] at hl
    obtain ⟨x, hx, he⟩ := h i l hl
    refine ⟨x, by rw [List.getElem?_append_left (by omega)]; exact hx, ((he.below hb).below ((Below.refl _ _).alloc (Nat.le_refl _) _)).push hg hat (fun i _ hs => hs.1) (fun i _ hs hn => ⟨hn, by simp [Value.ownBlock]⟩)⟩
  · have hi' : i = P.length := by
      have := (List.getElem?_eq_some_iff.1 hl).1
      rw [List.length_append, List.length_singleton] at this
      omega
    subst hi'
    rw [List.getElem?_append_right (Nat.le_refl _), Nat.sub_self] at hl
    simp only [List.getElem?_cons_zero, Option.some.injEq] at hl
    subst hl
    refine ⟨x, by rw [List.getElem?_append_right (by omega), hy, Nat.sub_self]; rfl, ((hp.below hb).below ((Below.refl _ _).alloc (Nat.le_refl _) _)).push hg hat (fun i _ hs => hs) (fun i _ hs hn => ⟨hn, by simp [Value.ownBlock]⟩)⟩
theorem RefOut.lists {w : World} {A : Option Addr} {c b : Nat} {vP : Value} {P : List (List Ent)} {ys : List Value} (h : RefOut w (.slice A P.length c) vP P ys) (hown : w.ownsRow b 41 1 (.slice A P.length c) P.length ys) (hl : P.length * 24 ≤ 140737488355328) : Lists w (fun _ => True) (.slice A P.length c) P := by
  have hlim := own_lim hown
  refine ⟨A, c, ys, rfl, hlim.1, hlim.2, hl, ⟨hown.1, fun h0 => ?_⟩, fun i l hi => ?_⟩
  · obtain ⟨g, c', hA, hbg, hgz, _, _⟩ := own_pos hown h0
    injection hA with hA
    subst hA
    refine ⟨g, 0, rfl, trivial, hgz, fun j u hu => ?_⟩
    have := hown.cells (g := g) rfl j u hu
    rwa [Addr.add_lit] at this
  · obtain ⟨x, hx, he⟩ := h i l hi
    exact ⟨x, hx, he.mono fun _ _ => trivial⟩
theorem Lists.nil (w : World) (S : Nat → Prop) : Lists w S (.slice none 0 0) [] := ⟨none, 0, [], rfl, by simp, by simp, by simp, Row.nil _ _ _ _, fun i l h => by simp at h⟩
theorem Ents.of_row {w : World} {S : Nat → Prop} {base : Nat} {e : TypeId} {v : Value} {cs : List Value} {es : List Ent} (h : w.ownsRow base e 4 v es.length cs) (hc : EntCells w S cs es) (hS : ∀ g, v.ownBlock = some g → S g) (hl : es.length * 64 ≤ 140737488355328) : Ents w S v es := by
  obtain ⟨A, c, rfl⟩ := own_form h
  have hlim := own_lim h
  refine ⟨A, c, cs, rfl, hlim.1, hlim.2, hl, ⟨h.1, fun h0 => ?_⟩, hc⟩
  obtain ⟨g, c', hA, hbg, hgz, _, _⟩ := own_pos h h0
  injection hA with hA
  subst hA
  refine ⟨g, 0, rfl, hS g rfl, hgz, fun j u hu => ?_⟩
  have := h.cells (g := g) rfl j u hu
  rwa [Addr.add_lit] at this
theorem row_apart {w : World} {x y y' : Value} {z : Nat} (h : ∀ g, x.ownBlock = some g → y.ownBlock ≠ some g) (hx : ∀ g, x.ownBlock = some g → g < w.heap.size) (hat : y'.ownBlock = y.ownBlock ∨ y'.ownBlock = some z) (hz : w.heap.size ≤ z) : ∀ g, x.ownBlock = some g → y'.ownBlock ≠ some g := fun g hg e => by
  rcases hat with h1 | h1
  · exact h g hg (h1 ▸ e)
  · rw [h1] at e
    injection e with e
    have := hx g hg
    omega
theorem lastKey_at {p : List Ent} {e : Ent} (h : p[p.length - 1]? = some e) : lastKey p = e.key := by
  unfold lastKey
  rw [List.getLast?_eq_getElem?, h]
  rfl
set_option maxRecDepth 100000 in
set_option maxHeartbeats 4000000 in
theorem rrun_any (S : Nat → Prop) (v : Value) (ls : List (List Ent)) (mark : Int) (bottom : Bool) (size : Int) (w : World) (hv : Lists w S v ls) (hN : total ls * 64 ≤ 140737488355328) :
    Calls Try.prog 12 #[v, .int .i64 mark, .bool bottom, .int .i64 size] w fun r w' => ∃ v', r = .returned (.tuple #[v', .int .i64 (runN ls size)]) ∧ Lists w' (fun _ => True) v' (runL ls mark bottom size) ∧ Below w.heap.size w w' := by
  obtain ⟨i0, hi, hz0, hz1, hz2⟩ := info_parts info22
  have hby := Lib.hid hz2
  have hz1' := Lib.hid hz1
  clear hz2 hz1
  obtain ⟨i1, hi1, hy0, hy1, hy2⟩ := info_parts info26
  have hby1 := Lib.hid hy2
  have hy1' := Lib.hid hy1
  clear hy2 hy1
  have HM := Lib.hid (rmerge_any S v ls w hv hN)
  have HN := Lib.hid hN
  clear hv hN
  unfold runL runN
  by_cases hs : size < 1
  · rw [if_pos hs, if_pos hs]
    go_enter Try.func12, Try.ntmps12
    go_wp2
    refine bodyPost_ret (v := .tuple #[_, _]) (by simp [results, Try.results12, go_sem]; exact ⟨rfl, rfl⟩) rfl ?_
    exact ⟨_, rfl, Lists.nil _ _, Below.refl _ _⟩
  rw [if_neg hs, if_neg hs]
  have HM2 : Hid (Calls Try.prog 14 #[v] w fun r w' => ∃ v', r = .returned (.tuple #[v', .int .i64 (mergeC ls).2]) ∧ Ents w' (fun _ => True) v' (mergeC ls).1 ∧ Below w.heap.size w w') := Lib.hid (HM.out.mono fun r w' h => by
    obtain ⟨v', rs, n, rfl, h1, h2, h3⟩ := h
    have := merge_law h1
    rw [this]
    exact ⟨v', rfl, h2, h3⟩)
  clear HM
  obtain ⟨M, hM⟩ : ∃ M, mergeC ls = M := ⟨_, rfl⟩
  obtain ⟨rs, e⟩ := M
  have hmo : e = 0 → orderedE rs = true ∧ rs.length ≤ total ls := fun h => by have := merge_ordered (ls := ls); rw [hM] at this; exact this h
  rw [hM] at HM2 ⊢
  have HMO := Lib.hid hmo
  clear hM hmo
  by_cases he : e = 0
  case neg =>
    rw [if_neg he]
    have heb : (e == 0) = false := by simp [he]
    go_enter Try.func12, Try.ntmps12
    go_wp2_with fail
    refine HM2.out.mono ?_
    rintro r w1 ⟨v1, rfl, ho1, hb1⟩
    go_wp2
    refine bodyPost_ret (v := .tuple #[_, _]) (by simp [results, Try.results12, go_sem]; exact ⟨rfl, rfl⟩) rfl ?_
    exact ⟨_, rfl, Lists.nil _ _, hb1⟩
  case pos =>
    rw [if_pos he]
    subst he
    obtain ⟨hord, hlen⟩ := HMO.out rfl
    obtain ⟨T, hT⟩ : ∃ T, thinC mark bottom [] rs = T := ⟨_, rfl⟩
    have hTl : T.length ≤ rs.length := by rw [← hT]; exact (thinC_sub mark bottom rs []).length_le
    obtain ⟨n, hn⟩ : ∃ n, T.length = n := ⟨_, rfl⟩
    have hnb : n * 64 ≤ 140737488355328 := by have := HN.out; omega
    have HT : Hid (∀ v1 w1, Ents w1 (fun _ => True) v1 rs → Calls Try.prog 27 #[v1, .int .i64 mark, .bool bottom] w1 fun r w' => ∃ A c, r = .returned (.tuple #[.slice A n c, .int .i64 0]) ∧ Ents w' (fun _ => True) (.slice A n c) T ∧ Below w1.heap.size w1 w') := Lib.hid fun v1 w1 h1 => by
      have := rthin_any _ _ rs mark bottom w1 h1
      rw [if_pos hord, if_pos hord, ← thin_law hord, hT] at this
      refine this.mono ?_
      rintro r w' ⟨v', rfl, h2, h3⟩
      obtain ⟨A, c, rfl⟩ := ents_form h2
      rw [hn] at h2 ⊢
      exact ⟨A, c, rfl, h2, h3⟩
    rw [hT]
    have HN2 := Lib.hid hn
    clear hT hord hTl hn hlen HMO HN
    go_enter Try.func12, Try.ntmps12
    go_wp2_with fail
    refine HM2.out.mono ?_
    rintro r w1 ⟨v1, rfl, ho1, hb1⟩
    have HO1 := Lib.hid ho1
    have HB1 := Lib.hid hb1
    clear ho1 hb1 HM2
    go_wp2_with fail
    refine (HT.out _ _ HO1.out).mono ?_
    rintro r w2 ⟨A, c, rfl, ho2, hb2⟩
    have hz2 : w.heap.size ≤ w2.heap.size := Nat.le_trans HB1.out.size hb2.size
    have HB2 := Lib.hid (HB1.out.trans (hb2.mono HB1.out.size))
    obtain ⟨A', c', cs, hE, hc1, hc2, hc3, hrow, hcel⟩ := ho2.lt
    injection hE with e1 e2 e3
    subst e1 e3
    clear e2
    rw [HN2.out] at hrow
    obtain ⟨S0, hS0⟩ : ∃ S0 : Nat → Prop, S0 = fun i => i < w2.heap.size := ⟨_, rfl⟩
    rw [← hS0] at hrow hcel
    have HS0 := Lib.hid hS0
    have HROW := Lib.hid hrow
    have HCEL := Lib.hid hcel
    clear HT ho2 hb2 HO1 hrow hcel hc1 hc3 hS0
    go_wp2_with fail
    go_loopw [12, 13, 34] (fun x y t wr => ∃ (k : Nat) (P : List (List Ent)) (p : List Ent) (ys ps : List Value), k ≤ n ∧ t = .int .i64 k ∧ P.flatten ++ p = T.take k ∧ P ++ cutE size p (T.drop k) = cutE size [] T ∧ wr.ownsRow w2.heap.size 41 1 x P.length ys ∧ RefOut wr x y P ys ∧
      wr.ownsRow w2.heap.size 46 4 y p.length ps ∧ EntCells wr S0 ps p ∧ (∀ g, x.ownBlock = some g → y.ownBlock ≠ some g) ∧ Below w2.heap.size w2 wr) (fun _ _ t _ => n - (intOf t).toNat)
    case atStart => exact ⟨0, [], [], [], [], Nat.zero_le _, rfl, rfl, by simp, World.ownsRow_nil _ _ _ _, fun i p h => by simp at h, World.ownsRow_nil _ _ _ _, trivial, fun g h => by simp [Value.ownBlock] at h, Below.refl _ _⟩
    case round =>
      obtain ⟨k, P, p, ys, ps, hk, rfl, hfl, hcut, hown, hro, howp, hpc, hdis, hbel⟩ := hrel
      obtain ⟨A3, c3, rfl⟩ := own_form hown
      obtain ⟨A4, c4, rfl⟩ := own_form howp
      have HO := Lib.hid hown
      have HRO := Lib.hid hro
      have HOP := Lib.hid howp
      have HPC := Lib.hid hpc
      have HDIS := Lib.hid hdis
      have HB := Lib.hid hbel
      have HCUT := Lib.hid hcut
      have HFL := Lib.hid hfl
      have hpn : p.length ≤ k ∧ P.length ≤ k := by
        have h1 := pieces_len P (fun p hp => cutE_ne (by omega) (T := T) p (by rw [← hcut]; exact List.mem_append_left _ hp))
        have h2 := congrArg List.length hfl
        rw [List.length_append, List.length_take] at h2
        omega
      have hzr := hbel.size
      clear hown hbel hcut hfl hro howp hpc hdis
      by_cases hkn : k < n
      · obtain ⟨e, he⟩ : ∃ e, T[k]? = some e := ⟨_, List.getElem?_eq_getElem (by rw [HN2.out]; exact hkn)⟩
        obtain ⟨b1, o1, k1, u1, rfl, x0, x1, x2, x3, z1, z2, _, hS1⟩ := (HROW.out.below HB.out).ent (HCEL.out.below HB.out) HN2.out he
        obtain ⟨Ak, ck, rfl⟩ := slice_form z1
        obtain ⟨Au, cu, rfl⟩ := slice_form z2
        obtain ⟨m, hm⟩ : ∃ m, p.length = m := ⟨_, rfl⟩
        obtain ⟨dd, hdd⟩ : ∃ d, e.dead = d := ⟨_, rfl⟩
        rw [hdd] at x2
        rw [hm] at HOP HRO HDIS hpn ⊢
        have HSTEP := Lib.hid (cutE_step (size := size) he p)
        have HTK := Lib.hid (take_snoc he)
        have HM := Lib.hid hm
        have HDD := Lib.hid hdd
        have HKY := Lib.hid z1
        have HVL := Lib.hid z2
        have hbs : b1 < w2.heap.size := by rw [HS0.out] at hS1; exact hS1
        have hnO : ∀ g, (Value.slice A3 P.length c3).ownBlock = some g → ¬ g = b1 := fun g hg => by have := (HO.out.lt g hg).1; omega
        clear he z1 z2 hm hdd hS1
        have G0 : ∀ q : Ext wr, q.w.cell? { block := b1, off := o1 + k * 4 } = _ := fun q => q.h.cell x0
        have HCK : ∀ q : Ext wr, (convert 44 9 (.slice Ak e.key.length ck)).run Try.prog q.w = .ok (.string ⟨e.key.toArray⟩) q.w := fun q => (HKY.out.below q.h).convert
        by_cases hlen : size ≤ (m : Int)
        · obtain ⟨e', he'⟩ : ∃ e', p[m - 1]? = some e' := ⟨_, List.getElem?_eq_getElem (by rw [HM.out]; omega)⟩
          have hpe : Ents wr (fun j => (Value.slice A3 P.length c3).ownBlock ≠ some j) (.slice A4 m c4) p := Ents.of_row (by rw [HM.out]; exact HOP.out) (HPC.out.mono fun i hi e => by rw [HS0.out] at hi; have := (HO.out.lt i e).1; omega) (fun g hg e => HDIS.out g e hg) (by rw [HM.out]; omega)
          have HPE := Lib.hid hpe
          obtain ⟨A', c', cs', hE, _, _, _, hrow', hcel'⟩ := hpe
          injection hE with e1 e2 e3
          subst e1 e3
          clear e2
          obtain ⟨b2, o2, k2, u2, rfl, y0, y1, y2, y3, z3, z4, _, _⟩ := hrow'.ent hcel' rfl he'
          obtain ⟨Ak', ck', rfl⟩ := slice_form z3
          have HLK := Lib.hid (show lastKey p = e'.key from lastKey_at (by rw [HM.out]; exact he'))
          have F0 : ∀ q : Ext wr, q.w.cell? { block := b2, off := o2 + (m - 1) * 4 } = _ := fun q => q.h.cell y0
          clear hrow' hcel' y1 y2 y3 z4 he'
          by_cases hke : e'.key = e.key
          · have GCK : ∀ q : Ext wr, (convert 44 9 (.slice Ak' e'.key.length ck')).run Try.prog q.w = .ok (.string ⟨e.key.toArray⟩) q.w := fun q => by rw [(z3.below q.h).convert, hke]
            have HKE := Lib.hid hke
            clear hke y0 z3
            go_wp2_with fail
            (refine wp_region_quiet_ext (by kernel_rfl) (by kernel_rfl) ?_; (repeat (go_big_quiet_step (fail))); refine wpQuiet_nil ?_; intro wq hw'; obtain ⟨⟨_, hq⟩, hw''⟩ := hw'; subst hw'')
            have HB1 := Lib.hid (show Below wr.heap.size wr wq from hq)
            have C0 := hq.cell x0
            have C1 := hq.cell x1
            have C2 := hq.cell x2
            have C3 := hq.cell x3
            have hzq := hq.size
            clear hq G0 HCK F0 GCK x0 x1 x2 x3
            go_wp2_with (at_builtin; refine wpList_append_own_at _ rfl _ _ 41 rfl w2.heap.size 46 i1 _ 4 64 Try.underlying41 hi1 hy0 hy1'.out hby1.out rfl (by decide) _ _ _ rfl ((own_below HOP.out HB1.out).alloc _) ⟨wq.heap.size, 0, none⟩ 1 1 [.slice Ak e.key.length ck, .int .i64 e.seq, .bool dd, .slice Au e.val.length cu] rfl rfl (cell_four_new _ _ _ _ _ _) (by simp [Value.oneCell']) (by unfold maxLen; omega) (by omega) (by simp; omega) ?_; intro v' w3 hown' hgrow hnn hat; clear hnn)
            refine ⟨⟨k + 1, P, p ++ [e], ys, _, by omega, by go_num, ?_, ?_, own_only ((own_below HO.out HB1.out).alloc _) (Only.of_grown hgrow) (fun g hg e => HDIS.out g hg e), HRO.out.pushP HB1.out hgrow hat, by rw [List.length_append, HM.out]; exact hown', EntCells.pushOld (e := e) (d := dd) HDD.out HOP.out HPC.out HB1.out HKY.out HVL.out (fun i hs => by rw [HS0.out] at hs; exact hs) hgrow hat, row_apart HDIS.out (fun g hg => (HO.out.lt g hg).2) hat (by simp; omega), ((HB.out.trans (HB1.out.mono HB.out.size)).alloc (by omega) _).grown hgrow (by simp; omega) (fun j e => (HOP.out.lt j e).1)⟩, by simp [intOf]; omega⟩
            · rw [← List.append_assoc, HFL.out, HTK.out]
            rw [← HCUT.out, HSTEP.out, if_neg]
            unfold cutNow
            rw [HLK.out, HKE.out]
            simp
          · have hne1 : ¬ (⟨e'.key.toArray⟩ : ByteArray) = ⟨e.key.toArray⟩ := by simpa using hke
            have hne2 : decide ((⟨e'.key.toArray⟩ : ByteArray) = ⟨e.key.toArray⟩) = false := by simpa using hke
            have hne4 : (e'.key == e.key) = false := by simpa using hke
            have hne5 : decide (e'.key = e.key) = false := by simpa using hke
            have GCK : ∀ q : Ext wr, (convert 44 9 (.slice Ak' e'.key.length ck')).run Try.prog q.w = .ok (.string ⟨e'.key.toArray⟩) q.w := fun q => (z3.below q.h).convert
            clear y0 z3
            go_wp2_with fail
            (refine wp_region_quiet_ext (by kernel_rfl) (by kernel_rfl) ?_; (repeat (go_big_quiet_step (fail))); refine wpQuiet_nil ?_; intro wq hw'; obtain ⟨⟨_, hq⟩, hw''⟩ := hw'; subst hw'')
            have HB1 := Lib.hid (show Below wr.heap.size wr wq from hq)
            have C0 := hq.cell x0
            have C1 := hq.cell x1
            have C2 := hq.cell x2
            have C3 := hq.cell x3
            have hzq := hq.size
            clear hq G0 HCK F0 GCK x0 x1 x2 x3 hne1 hne2 hne4
            go_wp2_with (first
              | (at_builtin; refine wpList_append_own_at _ rfl _ _ 30 rfl w2.heap.size 41 i0 _ 1 24 Try.underlying30 hi hz0 hz1'.out hby.out rfl (by decide) _ _ _ rfl ((own_below HO.out HB1.out).alloc _) ⟨wq.heap.size, 0, none⟩ 1 1 [.slice (some ⟨b2, o2, none⟩) m c4] rfl rfl (cell_one_new _ _ _) (by simp [Value.oneCell']) (by unfold maxLen; omega) (by omega) (by simp; omega) ?_; intro v' w3 hown' hgrow hnn hat; clear hnn; have D0 := (fr.grown (fr.alloc fr.refl _) C0 C1 hgrow (fun e => hnO _ e rfl)).1; have D1 := (fr.grown (fr.alloc fr.refl _) C0 C1 hgrow (fun e => hnO _ e rfl)).2; have D2 := (fr.grown (fr.alloc fr.refl _) C2 C3 hgrow (fun e => hnO _ e rfl)).1; have D3 := (fr.grown (fr.alloc fr.refl _) C2 C3 hgrow (fun e => hnO _ e rfl)).2)
              | (at_builtin; refine wpList_append_own_at _ rfl _ _ 41 rfl w2.heap.size 46 i1 _ 4 64 Try.underlying41 hi1 hy0 hy1'.out hby1.out rfl (by decide) (.slice none 0 0) 0 [] rfl (World.ownsRow_nil _ _ _ _) ⟨w3.heap.size, 0, none⟩ 1 1 [.slice Ak e.key.length ck, .int .i64 e.seq, .bool dd, .slice Au e.val.length cu] rfl rfl (cell_four_new _ _ _ _ _ _) (by simp [Value.oneCell']) (by unfold maxLen; omega) (by omega) (by have := hgrow.size; simp at this ⊢; omega) ?_; intro v'' w4 hown2 hgrow2 hnn hat2; clear hnn))
            have hz3 := hgrow.size
            have hb4 : Below w3.heap.size w3 w4 := ((Below.refl _ _).alloc (Nat.le_refl _) _).grown hgrow2 (by simp) (fun j e => by simp [Value.ownBlock] at e)
            have hb3 : Below w2.heap.size w2 w3 := ((HB.out.trans (HB1.out.mono HB.out.size)).alloc (by omega) _).grown hgrow (by simp; omega) (fun j e => (HO.out.lt j e).1)
            have hyl : ys.length = P.length := by have := HO.out.1; omega
            refine ⟨⟨k + 1, P ++ [p], [e], _, _, by omega, by go_num, ?_, ?_, by rw [List.length_append]; exact own_below hown' hb4, (HRO.out.pushO hyl HB1.out hgrow hat HPE.out).pushP (Below.refl _ _) hgrow2 hat2, hown2, EntCells.pushOld (e := e) (d := dd) (es := []) HDD.out (World.ownsRow_nil w3 w2.heap.size 46 _) trivial (Below.refl _ _) (((Byt.below HKY.out HB1.out).below ((Below.refl _ _).alloc (Nat.le_refl _) _)).only (Only.of_grown hgrow) (fun i _ hs e => by rw [HS0.out] at hs; have := (HO.out.lt i e).1; omega)) (((Byt.below HVL.out HB1.out).below ((Below.refl _ _).alloc (Nat.le_refl _) _)).only (Only.of_grown hgrow) (fun i _ hs e => by rw [HS0.out] at hs; have := (HO.out.lt i e).1; omega)) (fun i hs => by rw [HS0.out] at hs; exact hs) hgrow2 hat2, row_apart (w := w3) (fun g _ e => by simp [Value.ownBlock] at e) (fun g hg => (hown'.lt g hg).2) hat2 (by simp), hb3.trans (hb4.mono hb3.size)⟩, by simp [intOf]; omega⟩
            · rw [List.flatten_append, List.flatten_singleton, HFL.out, HTK.out]
            · rw [← HCUT.out, HSTEP.out, if_pos (by unfold cutNow; rw [HLK.out, HM.out, hne5]; simpa using hlen)]
              simp
        · have hlb : decide (size ≤ (m : Int)) = false := by simpa using hlen
          go_wp2_with fail
          (refine wp_region_quiet_ext (by kernel_rfl) (by kernel_rfl) ?_; (repeat (go_big_quiet_step (fail))); refine wpQuiet_nil ?_; intro wq hw'; obtain ⟨⟨_, hq⟩, hw''⟩ := hw'; subst hw'')
          have HB1 := Lib.hid (show Below wr.heap.size wr wq from hq)
          have C0 := hq.cell x0
          have C1 := hq.cell x1
          have C2 := hq.cell x2
          have C3 := hq.cell x3
          have hzq := hq.size
          clear hq G0 HCK x0 x1 x2 x3
          go_wp2_with (at_builtin; refine wpList_append_own_at _ rfl _ _ 41 rfl w2.heap.size 46 i1 _ 4 64 Try.underlying41 hi1 hy0 hy1'.out hby1.out rfl (by decide) _ _ _ rfl ((own_below HOP.out HB1.out).alloc _) ⟨wq.heap.size, 0, none⟩ 1 1 [.slice Ak e.key.length ck, .int .i64 e.seq, .bool dd, .slice Au e.val.length cu] rfl rfl (cell_four_new _ _ _ _ _ _) (by simp [Value.oneCell']) (by unfold maxLen; omega) (by omega) (by simp; omega) ?_; intro v' w3 hown' hgrow hnn hat; clear hnn)
          refine ⟨⟨k + 1, P, p ++ [e], ys, _, by omega, by go_num, ?_, ?_, own_only ((own_below HO.out HB1.out).alloc _) (Only.of_grown hgrow) (fun g hg e => HDIS.out g hg e), HRO.out.pushP HB1.out hgrow hat, by rw [List.length_append, HM.out]; exact hown', EntCells.pushOld (e := e) (d := dd) HDD.out HOP.out HPC.out HB1.out HKY.out HVL.out (fun i hs => by rw [HS0.out] at hs; exact hs) hgrow hat, row_apart HDIS.out (fun g hg => (HO.out.lt g hg).2) hat (by simp; omega), ((HB.out.trans (HB1.out.mono HB.out.size)).alloc (by omega) _).grown hgrow (by simp; omega) (fun j e => (HOP.out.lt j e).1)⟩, by simp [intOf]; omega⟩
          · rw [← List.append_assoc, HFL.out, HTK.out]
          rw [← HCUT.out, HSTEP.out, if_neg]
          unfold cutNow
          rw [HM.out]
          simp only [Bool.and_eq_true, decide_eq_true_eq]
          omega
      · obtain rfl : k = n := by omega
        have hdk : T.drop k = [] := List.drop_eq_nil_of_le (by rw [HN2.out]; exact Nat.le_refl _)
        have hyl : ys.length = P.length := by have := HO.out.1; omega
        obtain ⟨m, hm⟩ : ∃ m, p.length = m := ⟨_, rfl⟩
        rw [hm] at HOP HRO HDIS hpn ⊢
        have HM := Lib.hid hm
        clear hm
        rcases Nat.eq_zero_or_pos m with h0 | h0
        · have hall : cutE size [] T = P := by rw [← HCUT.out, hdk, cutE_nil, if_pos (by rw [HM.out]; exact h0), List.append_nil]
          have HALL := Lib.hid hall
          have hd : decide ((0 : Int) < (m : Int)) = false := by simp; omega
          clear hall hdk
          go_wp2_with fail
          refine bodyPost_ret (v := .tuple #[_, _]) (by simp [results, Try.results12, go_sem]; exact ⟨rfl, rfl⟩) rfl ?_
          refine ⟨_, rfl, ?_, HB2.out.trans (HB.out.mono hz2)⟩
          rw [HALL.out]
          exact HRO.out.lists HO.out (by omega)
        · have hall : cutE size [] T = P ++ [p] := by rw [← HCUT.out, hdk, cutE_nil, if_neg (by rw [HM.out]; omega)]
          have HALL := Lib.hid hall
          have hd : decide ((0 : Int) < (m : Int)) = true := by simp; omega
          have HPE : Hid (Ents wr (fun j => (Value.slice A3 P.length c3).ownBlock ≠ some j) (.slice A4 m c4) p) := Lib.hid (Ents.of_row (by rw [HM.out]; exact HOP.out) (HPC.out.mono fun i hi e => by rw [HS0.out] at hi; have := (HO.out.lt i e).1; omega) (fun g hg e => HDIS.out g e hg) (by rw [HM.out]; omega))
          clear hall hdk
          go_wp2_with (at_builtin; refine wpList_append_own_at _ rfl _ _ 30 rfl w2.heap.size 41 i0 _ 1 24 Try.underlying30 hi hz0 hz1'.out hby.out rfl (by decide) _ _ _ rfl (own_below HO.out ((Below.refl _ _).alloc (Nat.le_refl _) _)) ⟨wr.heap.size, 0, none⟩ 1 1 [.slice A4 m c4] rfl rfl (cell_one_new _ _ _) (by simp [Value.oneCell']) (by unfold maxLen; omega) (by omega) (by simp; omega) ?_; intro v' w3 hown' hgrow hnn hat; clear hnn)
          have hb3 : Below w2.heap.size w2 w3 := (HB.out.alloc (by omega) _).grown hgrow (by simp; omega) (fun j e => (HO.out.lt j e).1)
          refine bodyPost_ret (v := .tuple #[_, _]) (by simp [results, Try.results12, go_sem]; exact ⟨rfl, rfl⟩) rfl ?_
          refine ⟨_, rfl, ?_, HB2.out.trans (hb3.mono hz2)⟩
          rw [HALL.out]
          have hR := HRO.out.pushO hyl (Below.refl _ _) hgrow hat HPE.out
          obtain ⟨A5, c5, rfl⟩ := own_form hown'
          have hpl : (P ++ [p]).length = P.length + 1 := by simp
          rw [← hpl] at hown' hR ⊢
          exact hR.lists hown' (by omega)
end Go.Proofs.Ytacdhkkelkplnaa
end
section
namespace Go.Proofs.Ytacdhkkelkplnaa
open Go.RowKit Go.BigFrame
attribute [local go_sem ↓] Go.wp_at_zero Go.wp_at_succ
set_option maxRecDepth 100000 in
set_option maxHeartbeats 2000000 in
theorem rsame_any (S S' : Nat → Prop) (v v' : Value) (xs ys : List (List Ent)) (w : World) (hx : Lists w S v xs) (hy : Lists w S' v' ys) :
    Calls Try.prog 13 #[v, v'] w fun r w' => r = .returned (.bool (decide (xs = ys))) ∧ Below w.heap.size w w' := by
  obtain ⟨A, c, vs, rfl, hc, hcm, hl, hr, he⟩ := hx
  obtain ⟨A', c', vs', rfl, hc', hcm', hl', hr', he'⟩ := hy
  obtain ⟨n, hn⟩ : ∃ n, xs.length = n := ⟨_, rfl⟩
  obtain ⟨m, hm⟩ : ∃ m, ys.length = m := ⟨_, rfl⟩
  rw [hn] at hl hc hr ⊢
  rw [hm] at hl' hc' hr' ⊢
  have HN := Lib.hid hn
  have HM := Lib.hid hm
  have HE := Lib.hid he
  have HE' := Lib.hid he'
  have HR := Lib.hid hr
  have HR' := Lib.hid hr'
  clear hn hm he he' hr hr'
  by_cases hnm : n = m
  case neg =>
    have hd : ((n : Int) == (m : Int)) = false := by simpa using fun h : (n : Int) = m => hnm (by omega)
    have HF := Lib.hid (show decide (xs = ys) = false from decide_eq_false fun e => hnm (by rw [← HN.out, ← HM.out, e]))
    rw [HF.out]
    go_enter Try.func13, Try.ntmps13
    go_wp2
    refine bodyPost_ret (v := .bool false) (by simp [results, Try.results13, go_sem]) rfl ?_
    exact ⟨rfl, Below.refl _ _⟩
  case pos =>
    subst hnm
    go_enter Try.func13, Try.ntmps13
    go_wp2
    go_loopw [13] (fun t wr => ∃ k : Nat, k ≤ n ∧ t = .int .i64 k ∧ xs.take k = ys.take k ∧ Below w.heap.size w wr) (fun t _ => n - (intOf t).toNat)
    case atStart => exact ⟨0, Nat.zero_le _, rfl, by simp, Below.refl _ _⟩
    case round =>
      obtain ⟨k, hk, rfl, heq, hbel⟩ := hrel
      have HEQ := Lib.hid heq
      have HB := Lib.hid hbel
      clear heq hbel
      by_cases hkn : k < n
      · obtain ⟨l, hlk⟩ : ∃ l, xs[k]? = some l := ⟨_, List.getElem?_eq_getElem (by rw [HN.out]; exact hkn)⟩
        obtain ⟨l', hlk'⟩ : ∃ l, ys[k]? = some l := ⟨_, List.getElem?_eq_getElem (by rw [HM.out]; exact hkn)⟩
        obtain ⟨x, hx, hxe⟩ := HE.out k l hlk
        obtain ⟨x', hx', hxe'⟩ := HE'.out k l' hlk'
        obtain ⟨b, o, u, rfl, _, _, hu, hcell⟩ := (HR.out.below HB.out).at_ hkn
        obtain ⟨b', o', u', rfl, _, _, hu', hcell'⟩ := (HR'.out.below HB.out).at_ hkn
        obtain rfl : u = x := by rw [hx] at hu; injection hu with hu; exact hu.symm
        obtain rfl : u' = x' := by rw [hx'] at hu'; injection hu' with hu'; exact hu'.symm
        have F0 : ∀ q : Ext wr, q.w.cell? { block := b, off := o + k } = _ := fun q => q.h.cell hcell
        have F1 : ∀ q : Ext wr, q.w.cell? { block := b', off := o' + k } = _ := fun q => q.h.cell hcell'
        have CC : Hid (∀ q : Ext wr, Calls Try.prog 19 #[u, u'] q.w fun r w'' => r = .returned (.bool (decide (l = l'))) ∧ ∃ q' : Ext wr, w'' = q'.w) := Lib.hid fun q => Ext.calls (sameE_any _ _ _ _ _ _ _ ((hxe.below HB.out).below q.h) ((hxe'.below HB.out).below q.h))
        have HT := Lib.hid (take_snoc hlk)
        have HT' := Lib.hid (take_snoc hlk')
        have HLK := Lib.hid hlk
        have HLK' := Lib.hid hlk'
        clear hx hx' hxe hxe' hu hu' hcell hcell' hlk hlk'
        by_cases hll : l = l'
        · rw [decide_eq_true hll] at CC
          go_wp2_with fail
          (refine wp_region_quiet_ext (by kernel_rfl) (by kernel_rfl) ?_; (repeat (go_big_quiet_step ((go_at_call 19; exact CC.out _)))); refine wpQuiet_nil ?_; intro wq hw'; obtain ⟨⟨_, hq⟩, hw''⟩ := hw'; subst hw'')
          go_wp2_with fail
          refine ⟨⟨k + 1, by omega, by go_num, ?_, HB.out.trans (Below.mono hq HB.out.size)⟩, by simp [intOf]; omega⟩
          rw [HT.out, HT'.out, HEQ.out, hll]
        · rw [decide_eq_false hll] at CC
          have HF := Lib.hid (show decide (xs = ys) = false from decide_eq_false fun e => hll (by have h1 := HLK.out; rw [e, HLK'.out] at h1; injection h1 with h1; exact h1.symm))
          go_wp2_with fail
          (refine wp_region_quiet_ext (by kernel_rfl) (by kernel_rfl) ?_; (repeat (go_big_quiet_step ((go_at_call 19; exact CC.out _)))); refine wpQuiet_nil ?_; intro wq hw'; obtain ⟨⟨_, hq⟩, hw''⟩ := hw'; subst hw'')
          go_wp2_with fail
          refine bodyPost_ret (v := .bool false) (by simp [results, Try.results13, go_sem]) rfl ?_
          exact ⟨by rw [HF.out], HB.out.trans (Below.mono hq HB.out.size)⟩
      · obtain rfl : k = n := by omega
        have HF := Lib.hid (show decide (xs = ys) = true from decide_eq_true (by have := HEQ.out; rwa [List.take_of_length_le (by rw [HN.out]; exact Nat.le_refl _), List.take_of_length_le (by rw [HM.out]; exact Nat.le_refl _)] at this))
        go_wp2_with fail
        refine bodyPost_ret (v := .bool true) (by simp [results, Try.results13, go_sem]) rfl ?_
        exact ⟨by rw [HF.out], HB.out⟩
end Go.Proofs.Ytacdhkkelkplnaa
end
section
namespace Go.Proofs.Ytacdhkkelkplnaa
open Go.RowKit Go.BigFrame
attribute [local go_sem ↓] Go.wp_at_zero Go.wp_at_succ
def bounds5 (m s b f : Int) (h : Nat) : List (Int × Int × Int) := [(m, 1, 4096), (s, 1, 4096), (b, 1, 1024), (f, 2, 16), ((h : Int), 0, 64)]
def inB (x : Int × Int × Int) : Bool := !(decide (x.1 < x.2.1) || decide (x.2.2 < x.1))
def chk (m s b f : Int) (h : Nat) : Int := if (bounds5 m s b f h).all inB then 0 else 2
set_option maxRecDepth 100000 in
set_option maxHeartbeats 2000000 in
theorem check_any (m s b f : Int) (H : Option Addr) (h c : Nat) (w : World) :
    Calls Try.prog 8 #[.agg #[.int .i64 m, .int .i64 s, .int .i64 b, .int .i64 f, .slice H h c]] w fun r w' => r = .returned (.int .i64 (chk m s b f h)) ∧ Below w.heap.size w w' := by
  go_enter Try.func8, Try.ntmps8
  go_wp2
  go_loopw [23] (fun t wr => ∃ k : Nat, k ≤ 5 ∧ t = .int .i64 k ∧ ((bounds5 m s b f h).take k).all inB = true ∧ wr.heap[w.heap.size + 1]? = some (.cells #[.int .i64 m, .int .i64 1, .int .i64 4096, .int .i64 s, .int .i64 1, .int .i64 4096, .int .i64 b, .int .i64 1, .int .i64 1024, .int .i64 f, .int .i64 2, .int .i64 16, .int .i64 h, .int .i64 0, .int .i64 64] 65) ∧ w.heap.size + 1 < wr.heap.size ∧ Below w.heap.size w wr) (fun t _ => 5 - (intOf t).toNat)
  case atStart =>
    refine ⟨0, Nat.zero_le _, rfl, rfl, ?_, by simp, ((Below.refl _ _).alloc (Nat.le_refl _) _).alloc (by simp) _⟩
    exact heap_at_new _ trivial (by simp)
  case round =>
    obtain ⟨k, hk, rfl, hall, hblk, hlt, hbel⟩ := hrel
    have HA := Lib.hid hall
    have HB := Lib.hid hbel
    have HBK := Lib.hid hblk
    have hz := hbel.size
    clear hall hblk hbel
    rcases (by omega : k = 0 ∨ k = 1 ∨ k = 2 ∨ k = 3 ∨ k = 4 ∨ k = 5) with rfl | rfl | rfl | rfl | rfl | rfl
    · have c0 : wr.cell? ⟨w.heap.size + 1, 0, none⟩ = some (.int .i64 m) := cell_of_row wr _ 0 _ _ _ HBK.out
      have c1 : wr.cell? ⟨w.heap.size + 1, 1, none⟩ = some (.int .i64 1) := cell_of_row wr _ 1 _ _ _ HBK.out
      have c2 : wr.cell? ⟨w.heap.size + 1, 2, none⟩ = some (.int .i64 4096) := cell_of_row wr _ 2 _ _ _ HBK.out
      by_cases h1 : m < 1
      · have d1 : decide (m < 1) = true := by simpa using h1
        go_wp2
        refine bodyPost_ret (v := .int .i64 2) (by simp [results, Try.results8, go_sem]) rfl ?_
        exact ⟨ret_int (by unfold chk bounds5; rw [if_neg (by simp [inB]; omega)]), HB.out.alloc hz _⟩
      · have d1 : decide (m < 1) = false := by simpa using h1
        by_cases h2 : 4096 < m
        · have d2 : decide (4096 < m) = true := by simpa using h2
          go_wp2
          refine bodyPost_ret (v := .int .i64 2) (by simp [results, Try.results8, go_sem]) rfl ?_
          exact ⟨ret_int (by unfold chk bounds5; rw [if_neg (by simp [inB]; omega)]), HB.out.alloc hz _⟩
        · have d2 : decide (4096 < m) = false := by simpa using h2
          go_wp2
          refine ⟨⟨1, by omega, by go_num, ?_, ?_, by simp; omega, HB.out.alloc hz _⟩, by simp [intOf]⟩
          · have h3 := HA.out
            revert h3
            simp [bounds5, inB]
            omega
          · rw [Below.heap_alloc _ _ _ hlt]; exact HBK.out
    · have c0 : wr.cell? ⟨w.heap.size + 1, 3, none⟩ = some (.int .i64 s) := cell_of_row wr _ 3 _ _ _ HBK.out
      have c1 : wr.cell? ⟨w.heap.size + 1, 4, none⟩ = some (.int .i64 1) := cell_of_row wr _ 4 _ _ _ HBK.out
      have c2 : wr.cell? ⟨w.heap.size + 1, 5, none⟩ = some (.int .i64 4096) := cell_of_row wr _ 5 _ _ _ HBK.out
      by_cases h1 : s < 1
      · have d1 : decide (s < 1) = true := by simpa using h1
        go_wp2
        refine bodyPost_ret (v := .int .i64 2) (by simp [results, Try.results8, go_sem]) rfl ?_
        exact ⟨ret_int (by unfold chk bounds5; rw [if_neg (by simp [inB]; omega)]), HB.out.alloc hz _⟩
      · have d1 : decide (s < 1) = false := by simpa using h1
        by_cases h2 : 4096 < s
        · have d2 : decide (4096 < s) = true := by simpa using h2
          go_wp2
          refine bodyPost_ret (v := .int .i64 2) (by simp [results, Try.results8, go_sem]) rfl ?_
          exact ⟨ret_int (by unfold chk bounds5; rw [if_neg (by simp [inB]; omega)]), HB.out.alloc hz _⟩
        · have d2 : decide (4096 < s) = false := by simpa using h2
          go_wp2
          refine ⟨⟨2, by omega, by go_num, ?_, ?_, by simp; omega, HB.out.alloc hz _⟩, by simp [intOf]⟩
          · have h3 := HA.out
            revert h3
            simp [bounds5, inB]
            omega
          · rw [Below.heap_alloc _ _ _ hlt]; exact HBK.out
    · have c0 : wr.cell? ⟨w.heap.size + 1, 6, none⟩ = some (.int .i64 b) := cell_of_row wr _ 6 _ _ _ HBK.out
      have c1 : wr.cell? ⟨w.heap.size + 1, 7, none⟩ = some (.int .i64 1) := cell_of_row wr _ 7 _ _ _ HBK.out
      have c2 : wr.cell? ⟨w.heap.size + 1, 8, none⟩ = some (.int .i64 1024) := cell_of_row wr _ 8 _ _ _ HBK.out
      by_cases h1 : b < 1
      · have d1 : decide (b < 1) = true := by simpa using h1
        go_wp2
        refine bodyPost_ret (v := .int .i64 2) (by simp [results, Try.results8, go_sem]) rfl ?_
        exact ⟨ret_int (by unfold chk bounds5; rw [if_neg (by simp [inB]; omega)]), HB.out.alloc hz _⟩
      · have d1 : decide (b < 1) = false := by simpa using h1
        by_cases h2 : 1024 < b
        · have d2 : decide (1024 < b) = true := by simpa using h2
          go_wp2
          refine bodyPost_ret (v := .int .i64 2) (by simp [results, Try.results8, go_sem]) rfl ?_
          exact ⟨ret_int (by unfold chk bounds5; rw [if_neg (by simp [inB]; omega)]), HB.out.alloc hz _⟩
        · have d2 : decide (1024 < b) = false := by simpa using h2
          go_wp2
          refine ⟨⟨3, by omega, by go_num, ?_, ?_, by simp; omega, HB.out.alloc hz _⟩, by simp [intOf]⟩
          · have h3 := HA.out
            revert h3
            simp [bounds5, inB]
            omega
          · rw [Below.heap_alloc _ _ _ hlt]; exact HBK.out
    · have c0 : wr.cell? ⟨w.heap.size + 1, 9, none⟩ = some (.int .i64 f) := cell_of_row wr _ 9 _ _ _ HBK.out
      have c1 : wr.cell? ⟨w.heap.size + 1, 10, none⟩ = some (.int .i64 2) := cell_of_row wr _ 10 _ _ _ HBK.out
      have c2 : wr.cell? ⟨w.heap.size + 1, 11, none⟩ = some (.int .i64 16) := cell_of_row wr _ 11 _ _ _ HBK.out
      by_cases h1 : f < 2
      · have d1 : decide (f < 2) = true := by simpa using h1
        go_wp2
        refine bodyPost_ret (v := .int .i64 2) (by simp [results, Try.results8, go_sem]) rfl ?_
        exact ⟨ret_int (by unfold chk bounds5; rw [if_neg (by simp [inB]; omega)]), HB.out.alloc hz _⟩
      · have d1 : decide (f < 2) = false := by simpa using h1
        by_cases h2 : 16 < f
        · have d2 : decide (16 < f) = true := by simpa using h2
          go_wp2
          refine bodyPost_ret (v := .int .i64 2) (by simp [results, Try.results8, go_sem]) rfl ?_
          exact ⟨ret_int (by unfold chk bounds5; rw [if_neg (by simp [inB]; omega)]), HB.out.alloc hz _⟩
        · have d2 : decide (16 < f) = false := by simpa using h2
          go_wp2
          refine ⟨⟨4, by omega, by go_num, ?_, ?_, by simp; omega, HB.out.alloc hz _⟩, by simp [intOf]⟩
          · have h3 := HA.out
            revert h3
            simp [bounds5, inB]
            omega
          · rw [Below.heap_alloc _ _ _ hlt]; exact HBK.out
    · have c0 : wr.cell? ⟨w.heap.size + 1, 12, none⟩ = some (.int .i64 (h : Int)) := cell_of_row wr _ 12 _ _ _ HBK.out
      have c1 : wr.cell? ⟨w.heap.size + 1, 13, none⟩ = some (.int .i64 0) := cell_of_row wr _ 13 _ _ _ HBK.out
      have c2 : wr.cell? ⟨w.heap.size + 1, 14, none⟩ = some (.int .i64 64) := cell_of_row wr _ 14 _ _ _ HBK.out
      · have d1 : decide ((h : Int) < 0) = false := decide_eq_false (by omega)
        by_cases h2 : 64 < (h : Int)
        · have d2 : decide (64 < (h : Int)) = true := by simpa using h2
          go_wp2
          refine bodyPost_ret (v := .int .i64 2) (by simp [results, Try.results8, go_sem]) rfl ?_
          exact ⟨ret_int (by unfold chk bounds5; rw [if_neg (by simp [inB]; omega)]), HB.out.alloc hz _⟩
        · have d2 : decide (64 < (h : Int)) = false := by simpa using h2
          go_wp2
          refine ⟨⟨5, by omega, by go_num, ?_, ?_, by simp; omega, HB.out.alloc hz _⟩, by simp [intOf]⟩
          · have h3 := HA.out
            revert h3
            simp [bounds5, inB]
            omega
          · rw [Below.heap_alloc _ _ _ hlt]; exact HBK.out
    · go_wp2
      refine bodyPost_ret (v := .int .i64 0) (by simp [results, Try.results8, go_sem]) rfl ?_
      exact ⟨ret_int (by unfold chk; rw [if_pos (by have := HA.out; unfold bounds5 at this ⊢; exact this)]), HB.out⟩
set_option maxRecDepth 100000 in
set_option maxHeartbeats 2000000 in
theorem rcheck_any (m s b f : Int) (H : Option Addr) (h c : Nat) (w : World) :
    Calls Try.prog 9 #[.agg #[.int .i64 m, .int .i64 s, .int .i64 b, .int .i64 f, .slice H h c]] w fun r w' => r = .returned (.int .i64 (chk m s b f h)) ∧ Below w.heap.size w w' := by
  by_cases h1 : m < 1
  · have d1 : decide (m < 1) = true := by simpa using h1
    go_enter Try.func9, Try.ntmps9
    go_wp2
    refine bodyPost_ret (v := .int .i64 2) (by simp [results, Try.results9, go_sem]) rfl ?_
    exact ⟨ret_int (by unfold chk bounds5; rw [if_neg (by simp [inB]; omega)]), (Below.refl _ _).alloc (Nat.le_refl _) _⟩
  have d1 : decide (m < 1) = false := by simpa using h1
  by_cases h2 : 4096 < m
  · have d2 : decide (4096 < m) = true := by simpa using h2
    go_enter Try.func9, Try.ntmps9
    go_wp2
    refine bodyPost_ret (v := .int .i64 2) (by simp [results, Try.results9, go_sem]) rfl ?_
    exact ⟨ret_int (by unfold chk bounds5; rw [if_neg (by simp [inB]; omega)]), (Below.refl _ _).alloc (Nat.le_refl _) _⟩
  have d2 : decide (4096 < m) = false := by simpa using h2
  by_cases h3 : s < 1
  · have d3 : decide (s < 1) = true := by simpa using h3
    go_enter Try.func9, Try.ntmps9
    go_wp2
    refine bodyPost_ret (v := .int .i64 2) (by simp [results, Try.results9, go_sem]) rfl ?_
    exact ⟨ret_int (by unfold chk bounds5; rw [if_neg (by simp [inB]; omega)]), (Below.refl _ _).alloc (Nat.le_refl _) _⟩
  have d3 : decide (s < 1) = false := by simpa using h3
  by_cases h4 : 4096 < s
  · have d4 : decide (4096 < s) = true := by simpa using h4
    go_enter Try.func9, Try.ntmps9
    go_wp2
    refine bodyPost_ret (v := .int .i64 2) (by simp [results, Try.results9, go_sem]) rfl ?_
    exact ⟨ret_int (by unfold chk bounds5; rw [if_neg (by simp [inB]; omega)]), (Below.refl _ _).alloc (Nat.le_refl _) _⟩
  have d4 : decide (4096 < s) = false := by simpa using h4
  by_cases h5 : b < 1
  · have d5 : decide (b < 1) = true := by simpa using h5
    go_enter Try.func9, Try.ntmps9
    go_wp2
    refine bodyPost_ret (v := .int .i64 2) (by simp [results, Try.results9, go_sem]) rfl ?_
    exact ⟨ret_int (by unfold chk bounds5; rw [if_neg (by simp [inB]; omega)]), (Below.refl _ _).alloc (Nat.le_refl _) _⟩
  have d5 : decide (b < 1) = false := by simpa using h5
  by_cases h6 : 1024 < b
  · have d6 : decide (1024 < b) = true := by simpa using h6
    go_enter Try.func9, Try.ntmps9
    go_wp2
    refine bodyPost_ret (v := .int .i64 2) (by simp [results, Try.results9, go_sem]) rfl ?_
    exact ⟨ret_int (by unfold chk bounds5; rw [if_neg (by simp [inB]; omega)]), (Below.refl _ _).alloc (Nat.le_refl _) _⟩
  have d6 : decide (1024 < b) = false := by simpa using h6
  by_cases h7 : f < 2
  · have d7 : decide (f < 2) = true := by simpa using h7
    go_enter Try.func9, Try.ntmps9
    go_wp2
    refine bodyPost_ret (v := .int .i64 2) (by simp [results, Try.results9, go_sem]) rfl ?_
    exact ⟨ret_int (by unfold chk bounds5; rw [if_neg (by simp [inB]; omega)]), (Below.refl _ _).alloc (Nat.le_refl _) _⟩
  have d7 : decide (f < 2) = false := by simpa using h7
  by_cases h8 : 16 < f
  · have d8 : decide (16 < f) = true := by simpa using h8
    go_enter Try.func9, Try.ntmps9
    go_wp2
    refine bodyPost_ret (v := .int .i64 2) (by simp [results, Try.results9, go_sem]) rfl ?_
    exact ⟨ret_int (by unfold chk bounds5; rw [if_neg (by simp [inB]; omega)]), (Below.refl _ _).alloc (Nat.le_refl _) _⟩
  have d8 : decide (16 < f) = false := by simpa using h8
  by_cases h9 : 64 < (h : Int)
  · have d9 : decide (64 < (h : Int)) = true := by simpa using h9
    go_enter Try.func9, Try.ntmps9
    go_wp2
    refine bodyPost_ret (v := .int .i64 2) (by simp [results, Try.results9, go_sem]) rfl ?_
    exact ⟨ret_int (by unfold chk bounds5; rw [if_neg (by simp [inB]; omega)]), (Below.refl _ _).alloc (Nat.le_refl _) _⟩
  have d9 : decide (64 < (h : Int)) = false := by simpa using h9
  go_enter Try.func9, Try.ntmps9
  go_wp2
  refine bodyPost_ret (v := .int .i64 0) (by simp [results, Try.results9, go_sem]) rfl ?_
  exact ⟨ret_int (by unfold chk bounds5; rw [if_pos (by simp [inB]; omega)]), (Below.refl _ _).alloc (Nat.le_refl _) _⟩
end Go.Proofs.Ytacdhkkelkplnaa
end
