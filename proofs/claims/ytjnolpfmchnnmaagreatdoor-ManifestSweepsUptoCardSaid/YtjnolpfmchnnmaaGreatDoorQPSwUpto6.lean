/-
manifest.Fold.
-/
import Derived.Test.YtjnolpfmchnnmaaGreatDoorQPSwUpto4
import Derived.Test.YtjnolpfmchnnmaaGreatDoorQPSwUpto5
section
namespace Go.Proofs.YtjnolpfmchnnmaaGreatDoor
set_option maxRecDepth 100000
open Go.RowKit Go.BigFrame Go.Sort Go.Shelf Go.Lib
attribute [local go_sem ↓] Go.wp_at_zero Go.wp_at_succ
abbrev zeroVer : Value := .agg #[.slice none 0 0, .int .i64 0, .int .i64 0, .int .i64 0]
def FoldR (w w' : World) (v : Ver) (e : Edt) (sortT : List Tbl → List Tbl) (r : Ending) : Prop :=
  ∃ R, r = .returned (.tuple #[R, .int .i64 (foldE v e)]) ∧ (if foldE v e = 0 then ∃ x, R = .agg #[x, .int .i64 e.lg, .int .i64 e.sq, .int .i64 (foldN v e)] ∧ OwnTabs w' w.heap.size x (sortT (foldT v e)) else R = zeroVer) ∧ fr w w'
theorem setCell_same {w : World} {g i : Nat} {u : Value} (h : w.cell? ⟨g, i, none⟩ = some u) : w.setCell ⟨g, i, none⟩ u = w := by
  unfold World.cell? at h
  unfold World.setCell
  have e : (w.heap.modify g fun o => match o with
      | .cells c elem frozen => .cells (c.setIfInBounds i u) elem frozen
      | o => o) = w.heap := by
    apply Array.ext_getElem?
    intro j
    rw [Array.getElem?_modify]
    split
    · rename_i hj
      subst hj
      simp only at h
      cases hq : w.heap[g]? with
      | none => rfl
      | some o =>
        rw [hq] at h
        cases o with
        | cells c elem fz =>
          simp at h
          have : c.setIfInBounds i u = c := by
            apply Array.ext_getElem?
            intro k
            rw [Array.getElem?_setIfInBounds]
            split
            · rename_i hk
              subst hk
              split
              · exact h.symm
              · rename_i hk; exact (Array.getElem?_eq_none (by omega)).symm
            · rfl
          simp [this]
        | _ => simp at h
    · rfl
  exact congrArg (fun h => ({ w with heap := h } : World)) e
theorem zero_same {w : World} {g : Nat} {T : TypeId} (h : w.heap[g]? = some (.cells #[.slice none 0 0, .int .i64 0, .int .i64 0, .int .i64 0] T (0, 0))) :
    ((((w.setCell ⟨g, 0, none⟩ (.slice none 0 0)).setCell ⟨g, 1, none⟩ (.int .i64 0)).setCell ⟨g, 2, none⟩ (.int .i64 0)).setCell ⟨g, 3, none⟩ (.int .i64 0)) = w := by
  have c0 : w.cell? ⟨g, 0, none⟩ = some (.slice none 0 0) := cell_of_row _ _ 0 _ _ _ h
  have c1 : w.cell? ⟨g, 1, none⟩ = some (.int .i64 0) := cell_of_row _ _ 1 _ _ _ h
  have c2 : w.cell? ⟨g, 2, none⟩ = some (.int .i64 0) := cell_of_row _ _ 2 _ _ _ h
  have c3 : w.cell? ⟨g, 3, none⟩ = some (.int .i64 0) := cell_of_row _ _ 3 _ _ _ h
  rw [setCell_same c0, setCell_same c1, setCell_same c2, setCell_same c3]
theorem tb_one {w : World} {S : Nat → Prop} {ls : List Tbl} {css : List (List Value)} (h : All2 (tbR w S) ls css) : ∀ u ∈ css.flatten, u.oneCell' = true := by
  induction h with
  | nil => intro u hu; simp at hu
  | cons h _ ih =>
    intro u hu
    rw [List.flatten_cons, List.mem_append] at hu
    rcases hu with hu | hu
    · obtain ⟨a, b, rfl, ha, hb⟩ := h
      obtain ⟨A1, c1, rfl⟩ := slice_form ha
      obtain ⟨A2, c2, rfl⟩ := slice_form hb
      simp only [List.mem_cons, List.not_mem_nil, or_false] at hu
      rcases hu with rfl | rfl | rfl | rfl | rfl <;> rfl
    · exact ih u hu
theorem all2_app {α β : Type} {P : α → β → Prop} {l m : List α} {c d : List β} (h1 : All2 P l c) (h2 : All2 P m d) : All2 P (l ++ m) (c ++ d) := by
  induction h1 with
  | nil => exact h2
  | cons h _ ih => exact .cons h ih
theorem Only.fresh {S S' : Nat → Prop} {a b c : World} (h : Only S a b) (g : Only S' b c) (hS : ∀ i, S' i → S i ∨ a.heap.size ≤ i) : Only S a c :=
  ⟨g.os.trans h.os, g.tape.trans h.tape, g.output.trans h.output, Nat.le_trans h.size g.size, fun i hi hn => (g.block i (Nat.lt_of_lt_of_le hi h.size) (fun hs => (hS i hs).elim hn (fun _ => by omega))).trans (h.block i hi hn)⟩
theorem boxRowFr {w w' : World} {b : Nat} {o : Obj} (h : w.heap[b]? = some o) (hf : fr w w') : w'.heap[b]? = some o := (Below.block hf b (Array.getElem?_eq_some_iff.1 h).1).trans h
theorem fr.stepR {W X Y : World} (h : fr W X) (g : fr X Y) : fr W Y := fr.step h g
theorem fr.putE {W X : World} {pb j : Nat} {u : Value} (h : fr W X) (hp : W.heap.size ≤ pb) : fr W (X.setCell ⟨pb, j, none⟩ u) := RowKit.Below.setCell h hp u
theorem OwnRows.onlyF {α : Type} {R : Rd α} {k : Nat} (hR : Fine R k) {t : TypeId} {w w' : World} {base : Nat} {v : Value} {xs : List α} {S : Nat → Prop} (h : OwnRows R k t w base v xs) (ho : Only S w w') (hS : ∀ i, base ≤ i → i < w.heap.size → ¬ S i) : OwnRows R k t w' base v xs := by
  obtain ⟨css, h1, h2⟩ := h
  refine ⟨css, own_only h1 ho (fun g hg => hS g (h1.lt g hg).1 (h1.lt g hg).2), h2.imp fun _ _ hx => hR.keep hx fun _ _ _ _ hr => ?_⟩
  exact (hr.only ho fun i hi ht => hS i ht.1 hi).mono fun i hi => ⟨hi.1, hi.2.1, hi.2.2.only ho (hS i hi.1 hi.2.2.lt)⟩
theorem clone_fr (S : Nat → Prop) (A : Option Addr) (n c : Nat) (bs : List UInt8) (w : World) (h : Byt w S (.slice A n c) bs) (wx : World) (hx : fr w wx) : Calls Tryz.prog 89 #[.slice A n c] wx fun r w' => ∃ A c, r = .returned (.slice A bs.length c) ∧ BytL w' wx.heap.size (.slice A bs.length c) bs ∧ fr wx w' := by
  refine (bcloneL_any _ _ bs wx (h.below hx)).mono ?_
  rintro r w' ⟨v, rfl, h, f⟩
  obtain ⟨A, c, rfl⟩ := slice_form h
  exact ⟨A, c, rfl, h, f⟩
theorem table_box {wL wH : World} {x l1 l2 kL kH : Nat} {AL AH : Option Addr} {t : Tbl} (hL : BytL wL l1 (.slice AL t.lo.length kL) t.lo) (hH : BytL wH l2 (.slice AH t.hi.length kH) t.hi) (g : fr wL wH) (h1 : x < l1) (h2 : x < l2) :
    tbR ((wH.setCell ⟨x, 3, none⟩ (.slice AL t.lo.length kL)).setCell ⟨x, 4, none⟩ (.slice AH t.hi.length kH)) (fun i => x ≤ i ∧ Loose ((wH.setCell ⟨x, 3, none⟩ (.slice AL t.lo.length kL)).setCell ⟨x, 4, none⟩ (.slice AH t.hi.length kH)) i) t [.int .i64 t.id, .int .i64 t.level, .int .i64 t.count, .slice AL t.lo.length kL, .slice AH t.hi.length kH] := by
  have ha : Only (fun i => i = x) wH ((wH.setCell ⟨x, 3, none⟩ (.slice AL t.lo.length kL)).setCell ⟨x, 4, none⟩ (.slice AH t.hi.length kH)) := (only_set _ _ _ _).trans (only_set _ _ _ _)
  exact ⟨_, _, rfl, (BytL.only hL ((Only.of_below g).trans ha) (fun i hi _ e => by omega)).mono (by omega), (BytL.only hH ha (fun i hi _ e => by omega)).mono (by omega)⟩
theorem OwnRows.rebaseF {α : Type} {R : Rd α} {k : Nat} (hR : Fine R k) {t : TypeId} {w : World} {base base' : Nat} {v : Value} {xs : List α} (h : OwnRows R k t w base v xs) (hb : base' ≤ base) : OwnRows R k t w base' v xs := by
  obtain ⟨css, h1, h2⟩ := h
  refine ⟨css, ?_, h2.imp fun _ _ hx => hR.keep hx fun _ _ _ _ hr => hr.mono fun i hi => ⟨Nat.le_trans hb hi.1, hi.2⟩⟩
  refine ⟨h1.1, ?_⟩
  rcases h1.2 with h | ⟨g, cap, cur, h2, h3, h4⟩
  · exact .inl h
  · exact .inr ⟨g, cap, cur, h2, Nat.le_trans hb h3, h4⟩
def Sorts (sortT : List Tbl → List Tbl) (l : List Tbl) : Prop :=
  ∀ (w : World) (base : Nat) (x : Value), OwnTabs w base x l → Calls Tryz.prog 125 #[x, .func (.func 126) #[] #[]] w fun r w' => r = .returned (.tuple #[]) ∧ OwnTabs w' base x (sortT l) ∧ Only (fun i => x.ownBlock = some i) w w'
abbrev put4 (W : World) (g : Nat) (a b c d : Value) : World := (((W.setCell ⟨g, 0, none⟩ a).setCell ⟨g, 1, none⟩ b).setCell ⟨g, 2, none⟩ c).setCell ⟨g, 3, none⟩ d
theorem put4_row {W : World} {g : Nat} {T : TypeId} {x0 x1 x2 x3 a b c d : Value} (h : W.heap[g]? = some (.cells #[x0, x1, x2, x3] T (0, 0))) : (put4 W g a b c d).heap[g]? = some (.cells #[a, b, c, d] T (0, 0)) :=
  heap_setCell_same _ g 3 _ _ _ (heap_setCell_same _ g 2 _ _ _ (heap_setCell_same _ g 1 _ _ _ (heap_setCell_same _ g 0 _ _ _ h)))
theorem put4_only {W : World} {g : Nat} {a b c d : Value} : Only (fun i => i = g) W (put4 W g a b c d) := (((only_set _ _ _ _).trans (only_set _ _ _ _)).trans (only_set _ _ _ _)).trans (only_set _ _ _ _)
structure FoldB (W : World) (z : Nat) (x y d : Value) (lg sq nx lg' sq' : Int) : Prop where
  b0 : W.heap[z]? = some (.cells #[x, .int .i64 lg, .int .i64 sq, .int .i64 nx] 50 (0, 0))
  b1 : W.heap[z + 1]? = some (.cells #[y, d, .int .i64 lg', .int .i64 sq'] 45 (0, 0))
  b2 : W.heap[z + 1 + 1]? = some (.cells #[.slice none 0 0, .int .i64 0, .int .i64 0, .int .i64 0] 50 (0, 0))
theorem FoldB.only {W W' : World} {z : Nat} {x y d : Value} {lg sq nx lg' sq' : Int} {S : Nat → Prop} (h : FoldB W z x y d lg sq nx lg' sq') (ho : Only S W W') (hS : ∀ i, S i → i < z ∨ z + 2 < i) : FoldB W' z x y d lg sq nx lg' sq' :=
  ⟨(ho.block _ (Array.getElem?_eq_some_iff.1 h.b0).1 fun hs => by have := hS _ hs; omega).trans h.b0, (ho.block _ (Array.getElem?_eq_some_iff.1 h.b1).1 fun hs => by have := hS _ hs; omega).trans h.b1, (ho.block _ (Array.getElem?_eq_some_iff.1 h.b2).1 fun hs => by have := hS _ hs; omega).trans h.b2⟩
theorem FoldB.below {W W' : World} {z : Nat} {x y d : Value} {lg sq nx lg' sq' : Int} (h : FoldB W z x y d lg sq nx lg' sq') (hf : fr W W') : FoldB W' z x y d lg sq nx lg' sq' := h.only (S := fun _ => False) (Only.of_below hf) fun _ h => h.elim
theorem FoldB.new (w : World) (x y d : Value) (lg sq nx lg' sq' : Int) : FoldB (((w.alloc (.cells #[x, .int .i64 lg, .int .i64 sq, .int .i64 nx] 50)).alloc (.cells #[y, d, .int .i64 lg', .int .i64 sq'] 45)).alloc (.cells #[.slice none 0 0, .int .i64 0, .int .i64 0, .int .i64 0] 50)) w.heap.size x y d lg sq nx lg' sq' :=
  ⟨(Below.heap_alloc _ _ _ (by simp; omega)).trans ((Below.heap_alloc _ _ _ (by simp)).trans (heap_alloc_new w _)), (Below.heap_alloc _ _ _ (by simp)).trans (heap_at_new _ trivial (by simp)), heap_at_new _ trivial (by simp)⟩
set_option maxRecDepth 100000 in
set_option maxHeartbeats 4000000 in
theorem fold_if (sortT : List Tbl → List Tbl) (S : Nat → Prop) (vt at_ dr : Value) (v : Ver) (e : Edt) (w : World) (hv : TabsV w S vt v.tabs) (ha : TabsV w S at_ e.add) (hd : IntsIn w S dr e.drop) (hnd : (idsT v.tabs).Nodup) (hvl : v.tabs.length ≤ 1073741824) (hsort : foldE v e = 0 → Sorts sortT (foldT v e)) :
    Calls Tryz.prog 74 #[.agg #[vt, .int .i64 v.lg, .int .i64 v.sq, .int .i64 v.nx], .agg #[at_, dr, .int .i64 e.lg, .int .i64 e.sq]] w fun r w' => FoldR w w' v e sortT r := by
  have HSORT := Lib.hid hsort
  clear hsort
  obtain ⟨Av, cv, rfl⟩ := hv.form
  obtain ⟨Aa, ca, rfl⟩ := ha.form
  obtain ⟨nv, hnv⟩ : ∃ n, v.tabs.length = n := ⟨_, rfl⟩
  obtain ⟨na, hna⟩ : ∃ n, e.add.length = n := ⟨_, rfl⟩
  obtain ⟨nd, hnd'⟩ : ∃ n, e.drop.length = n := ⟨_, rfl⟩
  obtain ⟨Ad, cd, rfl⟩ : ∃ A c, dr = .slice A e.drop.length c := by obtain ⟨A, c, h, _⟩ := hd; exact ⟨A, c, h⟩
  rw [hnv] at hv hvl ⊢
  rw [hna] at ha ⊢
  rw [hnd'] at hd ⊢
  have HV : Hid (TabsV w (fun i => i < w.heap.size) (.slice Av nv cv) v.tabs) := Lib.hid (Rows.lt tbFine hv)
  have HA : Hid (TabsV w (fun i => i < w.heap.size) (.slice Aa na ca) e.add) := Lib.hid (Rows.lt tbFine ha)
  have HD := Lib.hid hd
  have HNV := Lib.hid hnv
  have HNA := Lib.hid hna
  have HND := Lib.hid hnd'
  have HNO := Lib.hid hnd
  have hnv72 : nv * 72 ≤ 140737488355328 := by obtain ⟨_, _, _, _, _, _, h3, _⟩ := hv; rw [← hnv]; exact h3
  have hna72 : na * 72 ≤ 140737488355328 := by obtain ⟨_, _, _, _, _, _, h3, _⟩ := ha; rw [← hna]; exact h3
  clear hv ha hd hnv hna hnd' hnd
  go_enter Tryz.func74, Tryz.ntmps74
  go_upto_region 1 with (fail)
  have hb := FoldB.new w (.slice Av nv cv) (.slice Aa na ca) (.slice Ad nd cd) v.lg v.sq v.nx e.lg e.sq
  have hf1 : fr w (((w.alloc (.cells #[.slice Av nv cv, .int .i64 v.lg, .int .i64 v.sq, .int .i64 v.nx] 50)).alloc (.cells #[.slice Aa na ca, .slice Ad nd cd, .int .i64 e.lg, .int .i64 e.sq] 45)).alloc (.cells #[.slice none 0 0, .int .i64 0, .int .i64 0, .int .i64 0] 50)) := fr.alloc (fr.alloc (fr.alloc fr.refl _) _) _
  have hsz1 : (((w.alloc (.cells #[.slice Av nv cv, .int .i64 v.lg, .int .i64 v.sq, .int .i64 v.nx] 50)).alloc (.cells #[.slice Aa na ca, .slice Ad nd cd, .int .i64 e.lg, .int .i64 e.sq] 45)).alloc (.cells #[.slice none 0 0, .int .i64 0, .int .i64 0, .int .i64 0] 50)).heap.size = w.heap.size + 3 := by simp
  obtain ⟨z, hz⟩ : ∃ z, w.heap.size = z := ⟨_, rfl⟩
  have HZ := Lib.hid hz
  rw [hz] at hb hsz1 ⊢
  generalize ((w.alloc (.cells #[.slice Av nv cv, .int .i64 v.lg, .int .i64 v.sq, .int .i64 v.nx] 50)).alloc (.cells #[.slice Aa na ca, .slice Ad nd cd, .int .i64 e.lg, .int .i64 e.sq] 45)).alloc (.cells #[.slice none 0 0, .int .i64 0, .int .i64 0, .int .i64 0] 50) = w1 at hb hf1 hsz1 ⊢
  have HB := Lib.hid hb
  have HF1 := Lib.hid hf1
  have e0 := cell_of_row _ _ 0 _ _ _ hb.b1
  have e1 := cell_of_row _ _ 1 _ _ _ hb.b1
  clear hb hf1 hz
  by_cases hbig : 1024 < na ∨ 1024 < nd
  · have HE : Hid (foldE v e = 3) := Lib.hid (by unfold foldE; rw [if_pos (by rw [HNA.out, HND.out]; exact hbig)])
    have r0 := cell_of_row _ _ 0 _ _ _ HB.out.b2
    have r1 := cell_of_row _ _ 1 _ _ _ HB.out.b2
    have r2 := cell_of_row _ _ 2 _ _ _ HB.out.b2
    have r3 := cell_of_row _ _ 3 _ _ _ HB.out.b2
    have z0 := frozen_of_row _ _ 0 _ _ HB.out.b2
    have z1 := frozen_of_row _ _ 1 _ _ HB.out.b2
    have z2 := frozen_of_row _ _ 2 _ _ HB.out.b2
    have z3 := frozen_of_row _ _ 3 _ _ HB.out.b2
    rcases hbig with hbig | hbig
    · go_wp2_with (fail)
      rw [zero_same HB.out.b2]
      refine bodyPost_ret (v := .tuple #[zeroVer, .int .i64 3]) (by simp [results, Tryz.results74, go_sem, r0, r1, r2, r3]) rfl ?_
      exact ⟨_, by rw [HE.out], by rw [HE.out]; exact rfl, HF1.out⟩
    · have hd1 : decide ((1024 : Int) < (nd : Int)) = true := decide_eq_true (by omega)
      by_cases hb2 : 1024 < na
      · go_wp2_with (fail)
        rw [zero_same HB.out.b2]
        refine bodyPost_ret (v := .tuple #[zeroVer, .int .i64 3]) (by simp [results, Tryz.results74, go_sem, r0, r1, r2, r3]) rfl ?_
        exact ⟨_, by rw [HE.out], by rw [HE.out]; exact rfl, HF1.out⟩
      · have hd2 : decide ((1024 : Int) < (na : Int)) = false := decide_eq_false (by omega)
        go_wp2_with (fail)
        rw [zero_same HB.out.b2]
        refine bodyPost_ret (v := .tuple #[zeroVer, .int .i64 3]) (by simp [results, Tryz.results74, go_sem, r0, r1, r2, r3]) rfl ?_
        exact ⟨_, by rw [HE.out], by rw [HE.out]; exact rfl, HF1.out⟩
  have h1a : decide ((1024 : Int) < (na : Int)) = false := decide_eq_false (by omega)
  have h1d : decide ((1024 : Int) < (nd : Int)) = false := decide_eq_false (by omega)
  have hmk : (Instr.makeMap 211 none).run Tryz.prog w1 = .ok (.map (some w1.heap.size)) (w1.alloc (.map #[] 0)) := rfl
  have H1A : Hid (¬ (1024 < e.add.length ∨ 1024 < e.drop.length)) := Lib.hid (by rw [HNA.out, HND.out]; exact hbig)
  have hna : na ≤ 1024 ∧ nd ≤ 1024 := by omega
  clear hbig
  go_upto_region 4 with (rw [hmk]; simp only [Result.andThen_ok])
  have hmv := MarkV.new w1 0
  have hf2 : fr w (w1.alloc (.map #[] 0)) := fr.alloc HF1.out _
  have hb2 := HB.out.below (fr.alloc fr.refl (.map #[] 0))
  have hs2 : (w1.alloc (.map #[] 0)).heap.size = z + 4 := by rw [World.size_alloc, hsz1]
  rw [hsz1] at hmv
  generalize w1.alloc (.map #[] 0) = w2 at hmv hf2 hb2 hs2 ⊢
  have HB2 := Lib.hid hb2
  have HF2 := Lib.hid hf2
  have HM2 := Lib.hid hmv
  have v0 := cell_of_row _ _ 0 _ _ _ hb2.b0
  clear hb2 hf2 hmv e0 e1 hmk
  go_wp2_with (fail)
  go_loopw [38] (fun t wr => ∃ i : Nat, i ≤ nv ∧ t = .int .i64 i ∧ MarkV wr (z + 3) ((idsT v.tabs).take i) ∧ Only (fun j => j = z + 3) w2 wr) (fun t _ => nv - (intOf t).toNat)
  case atStart => exact ⟨0, Nat.zero_le _, rfl, HM2.out, Only.refl _ _⟩
  case round =>
    obtain ⟨i, hi, rfl, hmk, hon⟩ := hrel
    have HMK := Lib.hid hmk
    have HON := Lib.hid hon
    have hfw : fr w wr := HF2.out.trans (hon.below (Below.size HF2.out) fun j h => by have := HZ.out; omega)
    have HFW := Lib.hid hfw
    clear hmk hon hfw v0
    by_cases hin : i < nv
    · obtain ⟨t, hf⟩ : ∃ t, v.tabs[i]? = some t := ⟨_, List.getElem?_eq_getElem (by rw [HNV.out]; exact hin)⟩
      obtain ⟨b, o, cs, rfl, hblt, _, ⟨va, vb, rfl, hva, hvb⟩, hc⟩ := Rows.at_ tbFine (Rows.below tbFine HV.out HFW.out) hf
      obtain ⟨A1, c1, rfl⟩ := slice_form hva
      obtain ⟨A2, c2, rfl⟩ := slice_form hvb
      have x0 : wr.cell? ⟨b, o + i * 5, none⟩ = _ := hc 0 _ rfl
      have x1 : wr.cell? ⟨b, o + i * 5 + 1, none⟩ = _ := hc 1 _ rfl
      have x2 : wr.cell? ⟨b, o + i * 5 + 2, none⟩ = _ := hc 2 _ rfl
      have x3 : wr.cell? ⟨b, o + i * 5 + 3, none⟩ = _ := hc 3 _ rfl
      have x4 : wr.cell? ⟨b, o + i * 5 + 4, none⟩ = _ := hc 4 _ rfl
      have HT := Lib.hid hf
      clear hc hf hva hvb
      go_upto_region 7 with (fail)
      have hal : fr wr (wr.alloc (.cells #[.int .i64 t.id, .int .i64 t.level, .int .i64 t.count, .slice A1 t.lo.length c1, .slice A2 t.hi.length c2] 57)) := fr.alloc fr.refl _
      have pT := heap_alloc_new wr (.cells #[.int .i64 t.id, .int .i64 t.level, .int .i64 t.count, .slice A1 t.lo.length c1, .slice A2 t.hi.length c2] 57)
      have y0 := cell_of_row _ _ 0 _ _ _ pT
      generalize wr.alloc (.cells #[.int .i64 t.id, .int .i64 t.level, .int .i64 t.count, .slice A1 t.lo.length c1, .slice A2 t.hi.length c2] 57) = w3 at hal y0 ⊢
      have hidt : (idsT v.tabs)[i]? = some t.id := by unfold idsT; rw [List.getElem?_map, HT.out]; rfl
      have htk := take_snoc hidt
      obtain ⟨w4, hput, hm4, ho4⟩ := (HMK.out.below hal).put (i := t.id) (by
        have h := HNO.out
        have h2 : ((idsT v.tabs).take (i + 1)).Nodup := h.sublist (List.take_sublist _ _)
        rw [htk] at h2
        exact fun hm => (List.nodup_append.1 h2).2.2 _ hm _ List.mem_cons_self rfl)
      rw [← htk] at hm4
      clear pT htk hidt x0 x1 x2 x3 x4
      go_wp2_with (rw [hput]; simp only [Result.andThen_ok])
      exact ⟨⟨i + 1, by omega, by go_num, hm4, HON.out.trans ((Only.of_below hal).trans ho4)⟩, by simp [intOf]; omega⟩
    · obtain rfl : i = nv := by omega
      rw [List.take_of_length_le (by unfold idsT; rw [List.length_map, HNV.out]; exact Nat.le_refl _)] at HMK
      have hbw := HB2.out.only HON.out fun j h => by omega
      have HBW := Lib.hid hbw
      have e1 := cell_of_row _ _ 1 _ _ _ hbw.b1
      have hsw : z + 4 ≤ wr.heap.size := by have := HON.out.size; omega
      have hmk : (Instr.makeMap 211 none).run Tryz.prog wr = .ok (.map (some wr.heap.size)) (wr.alloc (.map #[] 0)) := rfl
      clear hbw
      go_upto_region 10 with (rw [hmk]; simp only [Result.andThen_ok])
      have hf5 : fr w (wr.alloc (.map #[] 0)) := fr.alloc HFW.out _
      have hg5 := MarkV.new wr 0
      have hm5 := HMK.out.below (fr.alloc fr.refl (.map #[] 0))
      have hb5 := HBW.out.below (fr.alloc fr.refl (.map #[] 0))
      have hs5 : (wr.alloc (.map #[] 0)).heap.size = wr.heap.size + 1 := World.size_alloc _ _
      obtain ⟨g, hg⟩ : ∃ g, wr.heap.size = g := ⟨_, rfl⟩
      rw [hg] at hg5 hs5 hsw ⊢
      generalize wr.alloc (.map #[] 0) = w5 at hf5 hg5 hm5 hb5 hs5 ⊢
      have HB5 := Lib.hid hb5
      have HF5 := Lib.hid hf5
      have HG5 := Lib.hid hg5
      have HM5 := Lib.hid hm5
      have e1' := cell_of_row _ _ 1 _ _ _ hb5.b1
      clear hf5 hg5 hm5 hb5 hmk e1 hg
      go_wp2_with (fail)
      go_loopw [51] (fun t wx => ∃ j : Nat, j ≤ nd ∧ t = .int .i64 j ∧ okD (idsT v.tabs) (e.drop.take j) = true ∧ MarkV wx g (e.drop.take j) ∧ Only (fun j => j = g) w5 wx) (fun t _ => nd - (intOf t).toNat)
      case atStart => exact ⟨0, Nat.zero_le _, rfl, rfl, HG5.out, Only.refl _ _⟩
      case round =>
        obtain ⟨j, hj, rfl, hok, hgk, hon⟩ := hrel
        obtain ⟨wb, hwb⟩ : ∃ x, x = wr := ⟨_, rfl⟩
        subst hwb
        have HOK := Lib.hid hok
        have HGK := Lib.hid hgk
        have HON2 := Lib.hid hon
        have HBX := Lib.hid (HB5.out.only hon fun k h => by omega)
        have HMX := Lib.hid (HM5.out.only hon fun h => by omega)
        have HFX : Hid (fr w wb) := Lib.hid (HF5.out.trans (hon.below (Below.size HF5.out) fun k h => by have := HZ.out; omega))
        clear hok hgk hon e1'
        by_cases hjn : j < nd
        · obtain ⟨d, hd⟩ : ∃ d, e.drop[j]? = some d := ⟨_, List.getElem?_eq_getElem (by rw [HND.out]; exact hjn)⟩
          obtain ⟨A', c', hE, _, _, hr⟩ := HD.out.below HFX.out
          injection hE with hE1 _ _
          subst hE1
          rw [HND.out] at hr
          obtain ⟨b, o, rfl, _, _, hc⟩ := hr.2 (by omega)
          have x0 : wb.cell? ⟨b, o + j, none⟩ = some (.int .i64 d) := hc j _ (by rw [List.getElem?_map, hd]; rfl)
          have HDD := Lib.hid hd
          clear hc hr hd
          go_upto_region 14 with (fail)
          have hf6 := fr.alloc HFX.out (.cells #[.int .i64 d] 213)
          have hm6 := HMX.out.below (fr.alloc fr.refl (.cells #[.int .i64 d] 213))
          have hg6 := HGK.out.below (fr.alloc fr.refl (.cells #[.int .i64 d] 213))
          have hb6 := HBX.out.below (fr.alloc fr.refl (.cells #[.int .i64 d] 213))
          have ho6 : Only (fun k => k = g) w5 (wb.alloc (.cells #[.int .i64 d] 213)) := HON2.out.trans (Only.of_below (fr.alloc fr.refl _))
          have y0 := cell_of_row _ _ 0 _ _ _ (heap_alloc_new wb (.cells #[.int .i64 d] 213))
          generalize wb.alloc (.cells #[.int .i64 d] 213) = w6 at hf6 hm6 hg6 hb6 ho6 y0 ⊢
          have HF6 := Lib.hid hf6
          have HB6 := Lib.hid hb6
          have hl1 := hm6.look d
          have hl2 := hg6.look d
          have HG6 := Lib.hid hg6
          have HO6 := Lib.hid ho6
          clear hf6 hm6 hg6 hb6 ho6 x0
          by_cases hin1 : d ∈ idsT v.tabs
          · rw [decide_eq_true hin1] at hl1
            by_cases hin2 : d ∈ e.drop.take j
            · rw [decide_eq_true hin2] at hl2
              have HE : Hid (foldE v e = 12) := Lib.hid (by unfold foldE; rw [if_neg H1A.out, if_pos (okD_bad HDD.out (.inr hin2))])
              clear hin1 hin2
              have r0 := cell_of_row _ _ 0 _ _ _ HB6.out.b2
              have r1 := cell_of_row _ _ 1 _ _ _ HB6.out.b2
              have r2 := cell_of_row _ _ 2 _ _ _ HB6.out.b2
              have r3 := cell_of_row _ _ 3 _ _ _ HB6.out.b2
              have z0 := frozen_of_row _ _ 0 _ _ HB6.out.b2
              have z1 := frozen_of_row _ _ 1 _ _ HB6.out.b2
              have z2 := frozen_of_row _ _ 2 _ _ HB6.out.b2
              have z3 := frozen_of_row _ _ 3 _ _ HB6.out.b2
              go_wp2_with (first | (rw [hl1]; simp only [Result.andThen_ok]) | (rw [hl2]; simp only [Result.andThen_ok]))
              rw [zero_same HB6.out.b2]
              refine bodyPost_ret (v := .tuple #[zeroVer, .int .i64 12]) (by simp [results, Tryz.results74, go_sem, r0, r1, r2, r3]) rfl ?_
              exact ⟨_, by rw [HE.out], by rw [HE.out]; exact rfl, HF6.out⟩
            · rw [decide_eq_false hin2] at hl2
              obtain ⟨w7, hput, hm7, ho7⟩ := HG6.out.put hin2
              have hk7 := okD_step HDD.out HOK.out hin1 hin2
              have htk := take_snoc HDD.out
              rw [← htk] at hm7
              clear hin1 hin2 htk
              go_wp2_with (first | (rw [hl1]; simp only [Result.andThen_ok]) | (rw [hl2]; simp only [Result.andThen_ok]) | (rw [hput]; simp only [Result.andThen_ok]))
              exact ⟨⟨j + 1, by omega, by go_num, hk7, hm7, HO6.out.trans ho7⟩, by simp [intOf]; omega⟩
          · rw [decide_eq_false hin1] at hl1
            have HE : Hid (foldE v e = 12) := Lib.hid (by unfold foldE; rw [if_neg H1A.out, if_pos (okD_bad HDD.out (.inl hin1))])
            clear hin1
            have r0 := cell_of_row _ _ 0 _ _ _ HB6.out.b2
            have r1 := cell_of_row _ _ 1 _ _ _ HB6.out.b2
            have r2 := cell_of_row _ _ 2 _ _ _ HB6.out.b2
            have r3 := cell_of_row _ _ 3 _ _ _ HB6.out.b2
            have z0 := frozen_of_row _ _ 0 _ _ HB6.out.b2
            have z1 := frozen_of_row _ _ 1 _ _ HB6.out.b2
            have z2 := frozen_of_row _ _ 2 _ _ HB6.out.b2
            have z3 := frozen_of_row _ _ 3 _ _ HB6.out.b2
            go_wp2_with (first | (rw [hl1]; simp only [Result.andThen_ok]))
            rw [zero_same HB6.out.b2]
            refine bodyPost_ret (v := .tuple #[zeroVer, .int .i64 12]) (by simp [results, Tryz.results74, go_sem, r0, r1, r2, r3]) rfl ?_
            exact ⟨_, by rw [HE.out], by rw [HE.out]; exact rfl, HF6.out⟩
        · obtain rfl : j = nd := by omega
          rw [List.take_of_length_le (by rw [HND.out]; exact Nat.le_refl _)] at HOK HGK
          have e0 := cell_of_row _ _ 0 _ _ _ HBX.out.b1
          have hsb : g + 1 ≤ wb.heap.size := by have := HON2.out.size; omega
          go_wp2_with (fail)
          obtain ⟨wc, hwc⟩ : ∃ x, x = wb := ⟨_, rfl⟩
          subst hwc
          go_loopw [73] (fun t wx => ∃ j : Nat, j ≤ na ∧ t = .int .i64 j ∧ (e.add.take j).all okR = true ∧ fr wc wx) (fun t _ => na - (intOf t).toNat)
          case atStart => exact ⟨0, Nat.zero_le _, rfl, rfl, fr.refl⟩
          case round =>
            obtain ⟨j, hj, rfl, hall, hfx⟩ := hrel
            have HALL := Lib.hid hall
            have HFR := Lib.hid hfx
            have HFY := Lib.hid (fr.step HFX.out hfx)
            have HBY := Lib.hid (HBX.out.below hfx)
            clear hall hfx e0
            by_cases hin : j < na
            · obtain ⟨t, hf⟩ : ∃ t, e.add[j]? = some t := ⟨_, List.getElem?_eq_getElem (by rw [HNA.out]; exact hin)⟩
              obtain ⟨b, o, cs, rfl, hblt, _, ⟨va, vb, rfl, hva, hvb⟩, hc⟩ := Rows.at_ tbFine (Rows.below tbFine HA.out HFY.out) hf
              obtain ⟨A1, c1, rfl⟩ := slice_form hva
              obtain ⟨A2, c2, rfl⟩ := slice_form hvb
              have x0 : wr.cell? ⟨b, o + j * 5, none⟩ = _ := hc 0 _ rfl
              have x1 : wr.cell? ⟨b, o + j * 5 + 1, none⟩ = _ := hc 1 _ rfl
              have x2 : wr.cell? ⟨b, o + j * 5 + 2, none⟩ = _ := hc 2 _ rfl
              have x3 : wr.cell? ⟨b, o + j * 5 + 3, none⟩ = _ := hc 3 _ rfl
              have x4 : wr.cell? ⟨b, o + j * 5 + 4, none⟩ = _ := hc 4 _ rfl
              have HT := Lib.hid hf
              clear hc hf hva hvb
              go_upto_region 21 with (fail)
              have hal : fr wr (wr.alloc (.cells #[.int .i64 t.id, .int .i64 t.level, .int .i64 t.count, .slice A1 t.lo.length c1, .slice A2 t.hi.length c2] 57)) := fr.alloc fr.refl _
              have pT := heap_alloc_new wr (.cells #[.int .i64 t.id, .int .i64 t.level, .int .i64 t.count, .slice A1 t.lo.length c1, .slice A2 t.hi.length c2] 57)
              have y0 := cell_of_row _ _ 0 _ _ _ pT
              have y1 := cell_of_row _ _ 1 _ _ _ pT
              have y2 := cell_of_row _ _ 2 _ _ _ pT
              have HB8 := Lib.hid (HBY.out.below hal)
              have HF8 := Lib.hid (fr.step HFY.out hal)
              have HF8' := Lib.hid (fr.step HFR.out hal)
              generalize wr.alloc (.cells #[.int .i64 t.id, .int .i64 t.level, .int .i64 t.count, .slice A1 t.lo.length c1, .slice A2 t.hi.length c2] 57) = w8 at hal y0 y1 y2 HB8 HF8 HF8' ⊢
              clear pT hal x0 x1 x2 x3 x4
              by_cases q0 : t.id < 1
              · have p0 : decide (t.id < 1) = true := decide_eq_true q0
                have HE : Hid (foldE v e = 2) := Lib.hid (by unfold foldE; rw [if_neg H1A.out, if_neg (by rw [HOK.out]; decide), if_pos (all_bad HT.out (by unfold okR; simp only [Bool.and_eq_false_iff, decide_eq_false_iff_not]; omega))])
                clear q0
                have r0 := cell_of_row _ _ 0 _ _ _ HB8.out.b2
                have r1 := cell_of_row _ _ 1 _ _ _ HB8.out.b2
                have r2 := cell_of_row _ _ 2 _ _ _ HB8.out.b2
                have r3 := cell_of_row _ _ 3 _ _ _ HB8.out.b2
                have z0 := frozen_of_row _ _ 0 _ _ HB8.out.b2
                have z1 := frozen_of_row _ _ 1 _ _ HB8.out.b2
                have z2 := frozen_of_row _ _ 2 _ _ HB8.out.b2
                have z3 := frozen_of_row _ _ 3 _ _ HB8.out.b2
                go_wp2_with (fail)
                rw [zero_same HB8.out.b2]
                refine bodyPost_ret (v := .tuple #[zeroVer, .int .i64 2]) (by simp [results, Tryz.results74, go_sem, r0, r1, r2, r3]) rfl ?_
                exact ⟨_, by rw [HE.out], by rw [HE.out]; exact rfl, HF8.out⟩
              · by_cases q1 : (999999 : Int) < t.id
                · have p1 : decide ((999999 : Int) < t.id) = true := decide_eq_true q1
                  have p0 : decide (t.id < 1) = false := decide_eq_false q0
                  have HE : Hid (foldE v e = 2) := Lib.hid (by unfold foldE; rw [if_neg H1A.out, if_neg (by rw [HOK.out]; decide), if_pos (all_bad HT.out (by unfold okR; simp only [Bool.and_eq_false_iff, decide_eq_false_iff_not]; omega))])
                  clear q0 q1
                  have r0 := cell_of_row _ _ 0 _ _ _ HB8.out.b2
                  have r1 := cell_of_row _ _ 1 _ _ _ HB8.out.b2
                  have r2 := cell_of_row _ _ 2 _ _ _ HB8.out.b2
                  have r3 := cell_of_row _ _ 3 _ _ _ HB8.out.b2
                  have z0 := frozen_of_row _ _ 0 _ _ HB8.out.b2
                  have z1 := frozen_of_row _ _ 1 _ _ HB8.out.b2
                  have z2 := frozen_of_row _ _ 2 _ _ HB8.out.b2
                  have z3 := frozen_of_row _ _ 3 _ _ HB8.out.b2
                  go_wp2_with (fail)
                  rw [zero_same HB8.out.b2]
                  refine bodyPost_ret (v := .tuple #[zeroVer, .int .i64 2]) (by simp [results, Tryz.results74, go_sem, r0, r1, r2, r3]) rfl ?_
                  exact ⟨_, by rw [HE.out], by rw [HE.out]; exact rfl, HF8.out⟩
                · by_cases q2 : t.level < 0
                  · have p2 : decide (t.level < 0) = true := decide_eq_true q2
                    have p0 : decide (t.id < 1) = false := decide_eq_false q0
                    have p1 : decide ((999999 : Int) < t.id) = false := decide_eq_false q1
                    have HE : Hid (foldE v e = 2) := Lib.hid (by unfold foldE; rw [if_neg H1A.out, if_neg (by rw [HOK.out]; decide), if_pos (all_bad HT.out (by unfold okR; simp only [Bool.and_eq_false_iff, decide_eq_false_iff_not]; omega))])
                    clear q0 q1 q2
                    have r0 := cell_of_row _ _ 0 _ _ _ HB8.out.b2
                    have r1 := cell_of_row _ _ 1 _ _ _ HB8.out.b2
                    have r2 := cell_of_row _ _ 2 _ _ _ HB8.out.b2
                    have r3 := cell_of_row _ _ 3 _ _ _ HB8.out.b2
                    have z0 := frozen_of_row _ _ 0 _ _ HB8.out.b2
                    have z1 := frozen_of_row _ _ 1 _ _ HB8.out.b2
                    have z2 := frozen_of_row _ _ 2 _ _ HB8.out.b2
                    have z3 := frozen_of_row _ _ 3 _ _ HB8.out.b2
                    go_wp2_with (fail)
                    rw [zero_same HB8.out.b2]
                    refine bodyPost_ret (v := .tuple #[zeroVer, .int .i64 2]) (by simp [results, Tryz.results74, go_sem, r0, r1, r2, r3]) rfl ?_
                    exact ⟨_, by rw [HE.out], by rw [HE.out]; exact rfl, HF8.out⟩
                  · by_cases q3 : (3 : Int) < t.level
                    · have p3 : decide ((3 : Int) < t.level) = true := decide_eq_true q3
                      have p0 : decide (t.id < 1) = false := decide_eq_false q0
                      have p1 : decide ((999999 : Int) < t.id) = false := decide_eq_false q1
                      have p2 : decide (t.level < 0) = false := decide_eq_false q2
                      have HE : Hid (foldE v e = 2) := Lib.hid (by unfold foldE; rw [if_neg H1A.out, if_neg (by rw [HOK.out]; decide), if_pos (all_bad HT.out (by unfold okR; simp only [Bool.and_eq_false_iff, decide_eq_false_iff_not]; omega))])
                      clear q0 q1 q2 q3
                      have r0 := cell_of_row _ _ 0 _ _ _ HB8.out.b2
                      have r1 := cell_of_row _ _ 1 _ _ _ HB8.out.b2
                      have r2 := cell_of_row _ _ 2 _ _ _ HB8.out.b2
                      have r3 := cell_of_row _ _ 3 _ _ _ HB8.out.b2
                      have z0 := frozen_of_row _ _ 0 _ _ HB8.out.b2
                      have z1 := frozen_of_row _ _ 1 _ _ HB8.out.b2
                      have z2 := frozen_of_row _ _ 2 _ _ HB8.out.b2
                      have z3 := frozen_of_row _ _ 3 _ _ HB8.out.b2
                      go_wp2_with (fail)
                      rw [zero_same HB8.out.b2]
                      refine bodyPost_ret (v := .tuple #[zeroVer, .int .i64 2]) (by simp [results, Tryz.results74, go_sem, r0, r1, r2, r3]) rfl ?_
                      exact ⟨_, by rw [HE.out], by rw [HE.out]; exact rfl, HF8.out⟩
                    · by_cases q4 : t.count < 1
                      · have p4 : decide (t.count < 1) = true := decide_eq_true q4
                        have p0 : decide (t.id < 1) = false := decide_eq_false q0
                        have p1 : decide ((999999 : Int) < t.id) = false := decide_eq_false q1
                        have p2 : decide (t.level < 0) = false := decide_eq_false q2
                        have p3 : decide ((3 : Int) < t.level) = false := decide_eq_false q3
                        have HE : Hid (foldE v e = 2) := Lib.hid (by unfold foldE; rw [if_neg H1A.out, if_neg (by rw [HOK.out]; decide), if_pos (all_bad HT.out (by unfold okR; simp only [Bool.and_eq_false_iff, decide_eq_false_iff_not]; omega))])
                        clear q0 q1 q2 q3 q4
                        have r0 := cell_of_row _ _ 0 _ _ _ HB8.out.b2
                        have r1 := cell_of_row _ _ 1 _ _ _ HB8.out.b2
                        have r2 := cell_of_row _ _ 2 _ _ _ HB8.out.b2
                        have r3 := cell_of_row _ _ 3 _ _ _ HB8.out.b2
                        have z0 := frozen_of_row _ _ 0 _ _ HB8.out.b2
                        have z1 := frozen_of_row _ _ 1 _ _ HB8.out.b2
                        have z2 := frozen_of_row _ _ 2 _ _ HB8.out.b2
                        have z3 := frozen_of_row _ _ 3 _ _ HB8.out.b2
                        go_wp2_with (fail)
                        rw [zero_same HB8.out.b2]
                        refine bodyPost_ret (v := .tuple #[zeroVer, .int .i64 2]) (by simp [results, Tryz.results74, go_sem, r0, r1, r2, r3]) rfl ?_
                        exact ⟨_, by rw [HE.out], by rw [HE.out]; exact rfl, HF8.out⟩
                      · have p0 : decide (t.id < 1) = false := decide_eq_false q0
                        have p1 : decide ((999999 : Int) < t.id) = false := decide_eq_false q1
                        have p2 : decide (t.level < 0) = false := decide_eq_false q2
                        have p3 : decide ((3 : Int) < t.level) = false := decide_eq_false q3
                        have p4 : decide (t.count < 1) = false := decide_eq_false q4
                        have hk := all_step HT.out HALL.out (by unfold okR; simp only [Bool.and_eq_true, decide_eq_true_eq]; omega)
                        clear q0 q1 q2 q3 q4
                        go_wp2_with (fail)
                        exact ⟨⟨j + 1, by omega, by go_num, hk, HF8'.out⟩, by simp [intOf]; omega⟩
            · obtain rfl : j = na := by omega
              rw [List.take_of_length_le (by rw [HNA.out]; exact Nat.le_refl _)] at HALL
              have e2 := cell_of_row _ _ 2 _ _ _ HBY.out.b1
              have e3 := cell_of_row _ _ 3 _ _ _ HBY.out.b1
              have v1 := cell_of_row _ _ 1 _ _ _ HBY.out.b0
              have v2 := cell_of_row _ _ 2 _ _ _ HBY.out.b0
              have e0 := cell_of_row _ _ 0 _ _ _ HBY.out.b1
              have HMY := Lib.hid (HMX.out.below HFR.out)
              have HGY := Lib.hid (HGK.out.below HFR.out)
              have hsr : g + 1 ≤ wr.heap.size := by have := Below.size HFR.out; omega
              by_cases s1 : e.lg < v.lg
              · have p1 : decide (e.lg < v.lg) = true := decide_eq_true s1
                have HE : Hid (foldE v e = 2) := Lib.hid (by unfold foldE; rw [if_neg H1A.out, if_neg (by rw [HOK.out]; decide), if_neg (by rw [HALL.out]; decide), if_pos (.inl s1)])
                clear s1
                have r0 := cell_of_row _ _ 0 _ _ _ HBY.out.b2
                have r1 := cell_of_row _ _ 1 _ _ _ HBY.out.b2
                have r2 := cell_of_row _ _ 2 _ _ _ HBY.out.b2
                have r3 := cell_of_row _ _ 3 _ _ _ HBY.out.b2
                have z0 := frozen_of_row _ _ 0 _ _ HBY.out.b2
                have z1 := frozen_of_row _ _ 1 _ _ HBY.out.b2
                have z2 := frozen_of_row _ _ 2 _ _ HBY.out.b2
                have z3 := frozen_of_row _ _ 3 _ _ HBY.out.b2
                go_wp2_with (fail)
                rw [zero_same HBY.out.b2]
                refine bodyPost_ret (v := .tuple #[zeroVer, .int .i64 2]) (by simp [results, Tryz.results74, go_sem, r0, r1, r2, r3]) rfl ?_
                exact ⟨_, by rw [HE.out], by rw [HE.out]; exact rfl, HFY.out⟩
              have p1 : decide (e.lg < v.lg) = false := decide_eq_false s1
              by_cases s2 : e.sq < v.sq
              · have p2 : decide (e.sq < v.sq) = true := decide_eq_true s2
                have HE : Hid (foldE v e = 2) := Lib.hid (by unfold foldE; rw [if_neg H1A.out, if_neg (by rw [HOK.out]; decide), if_neg (by rw [HALL.out]; decide), if_pos (.inr s2)])
                clear s2
                have r0 := cell_of_row _ _ 0 _ _ _ HBY.out.b2
                have r1 := cell_of_row _ _ 1 _ _ _ HBY.out.b2
                have r2 := cell_of_row _ _ 2 _ _ _ HBY.out.b2
                have r3 := cell_of_row _ _ 3 _ _ _ HBY.out.b2
                have z0 := frozen_of_row _ _ 0 _ _ HBY.out.b2
                have z1 := frozen_of_row _ _ 1 _ _ HBY.out.b2
                have z2 := frozen_of_row _ _ 2 _ _ HBY.out.b2
                have z3 := frozen_of_row _ _ 3 _ _ HBY.out.b2
                go_wp2_with (fail)
                rw [zero_same HBY.out.b2]
                refine bodyPost_ret (v := .tuple #[zeroVer, .int .i64 2]) (by simp [results, Tryz.results74, go_sem, r0, r1, r2, r3]) rfl ?_
                exact ⟨_, by rw [HE.out], by rw [HE.out]; exact rfl, HFY.out⟩
              have p2 : decide (e.sq < v.sq) = false := decide_eq_false s2
              have HS12 : Hid (¬ (e.lg < v.lg ∨ e.sq < v.sq)) := Lib.hid (fun h => h.elim s1 s2)
              clear s1 s2
              go_wp2_with (fail)
              clear p1 p2 e2 e3 v1 v2
              obtain ⟨wd, hwd⟩ : ∃ x, x = wr := ⟨_, rfl⟩
              subst hwd
              go_loopw [118] (fun t wx => ∃ j' : Nat, j' ≤ j ∧ t = .int .i64 j' ∧ (e.add.take j').all okK = true ∧ fr wd wx) (fun t _ => j - (intOf t).toNat)
              case atStart => exact ⟨0, Nat.zero_le _, rfl, rfl, fr.refl⟩
              case round =>
                obtain ⟨i, hi, rfl, hall, hfx⟩ := hrel
                have HALK := Lib.hid hall
                have HFS := Lib.hid hfx
                have HFZ := Lib.hid (fr.step HFY.out hfx)
                have HBZ := Lib.hid (HBY.out.below hfx)
                clear hall hfx e0
                by_cases hin : i < j
                · obtain ⟨t, hf⟩ : ∃ t, e.add[i]? = some t := ⟨_, List.getElem?_eq_getElem (by rw [HNA.out]; exact hin)⟩
                  obtain ⟨b, o, cs, rfl, hblt, _, ⟨va, vb, rfl, hva, hvb⟩, hc⟩ := Rows.at_ tbFine (Rows.below tbFine HA.out HFZ.out) hf
                  obtain ⟨A1, c1, rfl⟩ := slice_form hva
                  obtain ⟨A2, c2, rfl⟩ := slice_form hvb
                  have x0 : wr.cell? ⟨b, o + i * 5, none⟩ = _ := hc 0 _ rfl
                  have x1 : wr.cell? ⟨b, o + i * 5 + 1, none⟩ = _ := hc 1 _ rfl
                  have x2 : wr.cell? ⟨b, o + i * 5 + 2, none⟩ = _ := hc 2 _ rfl
                  have x3 : wr.cell? ⟨b, o + i * 5 + 3, none⟩ = _ := hc 3 _ rfl
                  have x4 : wr.cell? ⟨b, o + i * 5 + 4, none⟩ = _ := hc 4 _ rfl
                  have HT := Lib.hid hf
                  go_upto_region 29 with (fail)
                  have hal : fr wr (wr.alloc (.cells #[.int .i64 t.id, .int .i64 t.level, .int .i64 t.count, .slice A1 t.lo.length c1, .slice A2 t.hi.length c2] 57)) := fr.alloc fr.refl _
                  have HVA := Lib.hid (hva.below hal)
                  have HVB := Lib.hid (hvb.below hal)
                  have pT := heap_alloc_new wr (.cells #[.int .i64 t.id, .int .i64 t.level, .int .i64 t.count, .slice A1 t.lo.length c1, .slice A2 t.hi.length c2] 57)
                  have y3 := cell_of_row _ _ 3 _ _ _ pT
                  have y4 := cell_of_row _ _ 4 _ _ _ pT
                  have HB8 := Lib.hid (HBZ.out.below hal)
                  have HF8 := Lib.hid (fr.step HFZ.out hal)
                  have HF8' := Lib.hid (fr.step HFS.out hal)
                  generalize wr.alloc (.cells #[.int .i64 t.id, .int .i64 t.level, .int .i64 t.count, .slice A1 t.lo.length c1, .slice A2 t.hi.length c2] 57) = w8 at hal y3 y4 HB8 HF8 HF8' HVA HVB ⊢
                  clear pT hal x0 x1 x2 x3 x4 hc hf hva hvb
                  by_cases q0 : t.lo.length = 0
                  · have p0 : ((t.lo.length : Int) == 0) = true := by simpa using q0
                    have HE : Hid (foldE v e = 30) := Lib.hid (by unfold foldE; rw [if_neg H1A.out, if_neg (by rw [HOK.out]; decide), if_neg (by rw [HALL.out]; decide), if_neg HS12.out, if_pos (all_bad HT.out (by unfold okK; simp only [Bool.and_eq_false_iff, decide_eq_false_iff_not]; exact .inl (.inl (.inl fun h => h (List.eq_nil_of_length_eq_zero q0)))))])
                    clear q0
                    have r0 := cell_of_row _ _ 0 _ _ _ HB8.out.b2
                    have r1 := cell_of_row _ _ 1 _ _ _ HB8.out.b2
                    have r2 := cell_of_row _ _ 2 _ _ _ HB8.out.b2
                    have r3 := cell_of_row _ _ 3 _ _ _ HB8.out.b2
                    have z0 := frozen_of_row _ _ 0 _ _ HB8.out.b2
                    have z1 := frozen_of_row _ _ 1 _ _ HB8.out.b2
                    have z2 := frozen_of_row _ _ 2 _ _ HB8.out.b2
                    have z3 := frozen_of_row _ _ 3 _ _ HB8.out.b2
                    go_wp2_with (go_at_call 111; refine (bcompare_any _ _ _ _ t.lo t.hi _ HVA.out HVB.out).mono ?_; rintro r w9 ⟨rfl, rfl⟩)
                    rw [zero_same HB8.out.b2]
                    refine bodyPost_ret (v := .tuple #[zeroVer, .int .i64 30]) (by simp [results, Tryz.results74, go_sem, r0, r1, r2, r3]) rfl ?_
                    exact ⟨_, by rw [HE.out], by rw [HE.out]; exact rfl, HF8.out⟩
                  · by_cases q1 : (200 : Int) < (t.lo.length : Int)
                    · have p1 : decide ((200 : Int) < (t.lo.length : Int)) = true := decide_eq_true q1
                      have p0 : ((t.lo.length : Int) == 0) = false := by simpa using q0
                      have HE : Hid (foldE v e = 30) := Lib.hid (by unfold foldE; rw [if_neg H1A.out, if_neg (by rw [HOK.out]; decide), if_neg (by rw [HALL.out]; decide), if_neg HS12.out, if_pos (all_bad HT.out (by unfold okK; simp only [Bool.and_eq_false_iff, decide_eq_false_iff_not]; exact .inl (.inl (.inr (by omega)))))])
                      clear q0 q1
                      have r0 := cell_of_row _ _ 0 _ _ _ HB8.out.b2
                      have r1 := cell_of_row _ _ 1 _ _ _ HB8.out.b2
                      have r2 := cell_of_row _ _ 2 _ _ _ HB8.out.b2
                      have r3 := cell_of_row _ _ 3 _ _ _ HB8.out.b2
                      have z0 := frozen_of_row _ _ 0 _ _ HB8.out.b2
                      have z1 := frozen_of_row _ _ 1 _ _ HB8.out.b2
                      have z2 := frozen_of_row _ _ 2 _ _ HB8.out.b2
                      have z3 := frozen_of_row _ _ 3 _ _ HB8.out.b2
                      go_wp2_with (go_at_call 111; refine (bcompare_any _ _ _ _ t.lo t.hi _ HVA.out HVB.out).mono ?_; rintro r w9 ⟨rfl, rfl⟩)
                      rw [zero_same HB8.out.b2]
                      refine bodyPost_ret (v := .tuple #[zeroVer, .int .i64 30]) (by simp [results, Tryz.results74, go_sem, r0, r1, r2, r3]) rfl ?_
                      exact ⟨_, by rw [HE.out], by rw [HE.out]; exact rfl, HF8.out⟩
                    · by_cases q2 : (200 : Int) < (t.hi.length : Int)
                      · have p2 : decide ((200 : Int) < (t.hi.length : Int)) = true := decide_eq_true q2
                        have p0 : ((t.lo.length : Int) == 0) = false := by simpa using q0
                        have p1 : decide ((200 : Int) < (t.lo.length : Int)) = false := decide_eq_false q1
                        have HE : Hid (foldE v e = 30) := Lib.hid (by unfold foldE; rw [if_neg H1A.out, if_neg (by rw [HOK.out]; decide), if_neg (by rw [HALL.out]; decide), if_neg HS12.out, if_pos (all_bad HT.out (by unfold okK; simp only [Bool.and_eq_false_iff, decide_eq_false_iff_not]; exact .inl (.inr (by omega))))])
                        clear q0 q1 q2
                        have r0 := cell_of_row _ _ 0 _ _ _ HB8.out.b2
                        have r1 := cell_of_row _ _ 1 _ _ _ HB8.out.b2
                        have r2 := cell_of_row _ _ 2 _ _ _ HB8.out.b2
                        have r3 := cell_of_row _ _ 3 _ _ _ HB8.out.b2
                        have z0 := frozen_of_row _ _ 0 _ _ HB8.out.b2
                        have z1 := frozen_of_row _ _ 1 _ _ HB8.out.b2
                        have z2 := frozen_of_row _ _ 2 _ _ HB8.out.b2
                        have z3 := frozen_of_row _ _ 3 _ _ HB8.out.b2
                        go_wp2_with (go_at_call 111; refine (bcompare_any _ _ _ _ t.lo t.hi _ HVA.out HVB.out).mono ?_; rintro r w9 ⟨rfl, rfl⟩)
                        rw [zero_same HB8.out.b2]
                        refine bodyPost_ret (v := .tuple #[zeroVer, .int .i64 30]) (by simp [results, Tryz.results74, go_sem, r0, r1, r2, r3]) rfl ?_
                        exact ⟨_, by rw [HE.out], by rw [HE.out]; exact rfl, HF8.out⟩
                      · by_cases q3 : (0 : Int) < cmpB t.lo t.hi
                        · have p3 : decide ((0 : Int) < cmpB t.lo t.hi) = true := decide_eq_true q3
                          have p0 : ((t.lo.length : Int) == 0) = false := by simpa using q0
                          have p1 : decide ((200 : Int) < (t.lo.length : Int)) = false := decide_eq_false q1
                          have p2 : decide ((200 : Int) < (t.hi.length : Int)) = false := decide_eq_false q2
                          have HE : Hid (foldE v e = 30) := Lib.hid (by unfold foldE; rw [if_neg H1A.out, if_neg (by rw [HOK.out]; decide), if_neg (by rw [HALL.out]; decide), if_neg HS12.out, if_pos (all_bad HT.out (by unfold okK; simp only [Bool.and_eq_false_iff, decide_eq_false_iff_not]; exact .inr (by omega)))])
                          clear q0 q1 q2 q3
                          have r0 := cell_of_row _ _ 0 _ _ _ HB8.out.b2
                          have r1 := cell_of_row _ _ 1 _ _ _ HB8.out.b2
                          have r2 := cell_of_row _ _ 2 _ _ _ HB8.out.b2
                          have r3 := cell_of_row _ _ 3 _ _ _ HB8.out.b2
                          have z0 := frozen_of_row _ _ 0 _ _ HB8.out.b2
                          have z1 := frozen_of_row _ _ 1 _ _ HB8.out.b2
                          have z2 := frozen_of_row _ _ 2 _ _ HB8.out.b2
                          have z3 := frozen_of_row _ _ 3 _ _ HB8.out.b2
                          go_wp2_with (go_at_call 111; refine (bcompare_any _ _ _ _ t.lo t.hi _ HVA.out HVB.out).mono ?_; rintro r w9 ⟨rfl, rfl⟩)
                          rw [zero_same HB8.out.b2]
                          refine bodyPost_ret (v := .tuple #[zeroVer, .int .i64 30]) (by simp [results, Tryz.results74, go_sem, r0, r1, r2, r3]) rfl ?_
                          exact ⟨_, by rw [HE.out], by rw [HE.out]; exact rfl, HF8.out⟩
                        · have p0 : ((t.lo.length : Int) == 0) = false := by simpa using q0
                          have p1 : decide ((200 : Int) < (t.lo.length : Int)) = false := decide_eq_false q1
                          have p2 : decide ((200 : Int) < (t.hi.length : Int)) = false := decide_eq_false q2
                          have p3 : decide ((0 : Int) < cmpB t.lo t.hi) = false := decide_eq_false q3
                          have hk := all_step HT.out HALK.out (by unfold okK; simp only [Bool.and_eq_true, decide_eq_true_eq]; exact ⟨⟨⟨fun h => q0 (by rw [h]; rfl), by omega⟩, by omega⟩, by omega⟩)
                          clear q0 q1 q2 q3
                          go_wp2_with (go_at_call 111; refine (bcompare_any _ _ _ _ t.lo t.hi _ HVA.out HVB.out).mono ?_; rintro r w9 ⟨rfl, rfl⟩)
                          exact ⟨⟨i + 1, by omega, by go_num, hk, HF8'.out⟩, by simp [intOf]; omega⟩
                · obtain rfl : i = j := by omega
                  rw [List.take_of_length_le (by rw [HNA.out]; exact Nat.le_refl _)] at HALK
                  have e0 := cell_of_row _ _ 0 _ _ _ HBZ.out.b1
                  have e2 := cell_of_row _ _ 2 _ _ _ HBZ.out.b1
                  have e3 := cell_of_row _ _ 3 _ _ _ HBZ.out.b1
                  have v3 := cell_of_row _ _ 3 _ _ _ HBZ.out.b0
                  have HMZ := Lib.hid (HMY.out.below HFS.out)
                  have HGZ := Lib.hid (HGY.out.below HFS.out)
                  have hsr : g + 1 ≤ wr.heap.size := by have := Below.size HFS.out; omega
                  go_upto_region 33 with (fail)
                  have hal : fr wr (wr.alloc (.cells #[.slice none 0 0, .int .i64 e.lg, .int .i64 e.sq, .int .i64 (max v.nx 1)] 50)) := fr.alloc fr.refl _
                  have hrow := heap_alloc_new wr (.cells #[.slice none 0 0, .int .i64 e.lg, .int .i64 e.sq, .int .i64 (max v.nx 1)] 50)
                  have hb10 := HBZ.out.below hal
                  have hm10 := HMZ.out.below hal
                  have hg10 := HGZ.out.below hal
                  have hf10 := fr.step HFZ.out hal
                  have hs10 : (wr.alloc (.cells #[.slice none 0 0, .int .i64 e.lg, .int .i64 e.sq, .int .i64 (max v.nx 1)] 50)).heap.size = wr.heap.size + 1 := World.size_alloc _ _
                  obtain ⟨q, hq⟩ : ∃ q, wr.heap.size = q := ⟨_, rfl⟩
                  rw [hq] at hrow hs10 hsr ⊢
                  generalize wr.alloc (.cells #[.slice none 0 0, .int .i64 e.lg, .int .i64 e.sq, .int .i64 (max v.nx 1)] 50) = w10 at hal hrow hb10 hm10 hg10 hf10 hs10 ⊢
                  have HB10 := Lib.hid hb10
                  have HM10 := Lib.hid hm10
                  have HG10 := Lib.hid hg10
                  have HF10 := Lib.hid hf10
                  have HR10 := Lib.hid hrow
                  have e0' := cell_of_row _ _ 0 _ _ _ hb10.b1
                  clear hal hrow hb10 hm10 hg10 hf10 e0 e2 e3 v3 hq
                  go_wp2_with (fail)
                  go_loopw [159] (fun t wx => ∃ j' : Nat, j' ≤ i ∧ t = .int .i64 j' ∧ MarkV wx (z + 3) (idsT v.tabs ++ (idsT e.add).take j') ∧ (idsT v.tabs ++ (idsT e.add).take j').Nodup ∧ wx.heap[q]? = some (.cells #[.slice none 0 0, .int .i64 e.lg, .int .i64 e.sq, .int .i64 (nextF (max v.nx 1) (e.add.take j'))] 50 (0, 0)) ∧ Only (fun k => k = z + 3 ∨ k = q) w10 wx) (fun t _ => i - (intOf t).toNat)
                  case atStart => exact ⟨0, Nat.zero_le _, rfl, by rw [List.take_zero, List.append_nil]; exact HM10.out, by rw [List.take_zero, List.append_nil]; exact HNO.out, HR10.out, Only.refl _ _⟩
                  case round =>
                    obtain ⟨j', hj', rfl, hmk, hno, hrow, hon⟩ := hrel
                    obtain ⟨wy, hwy⟩ : ∃ x, x = wr := ⟨_, rfl⟩
                    subst hwy
                    have HMK' := Lib.hid hmk
                    have HNO' := Lib.hid hno
                    have HROW := Lib.hid hrow
                    have HON' := Lib.hid hon
                    have HB11 := Lib.hid (HB10.out.only hon fun k h => by omega)
                    have HF11 : Hid (fr w wy) := Lib.hid (HF10.out.trans (hon.below (Below.size HF10.out) fun k h => by have := HZ.out; omega))
                    have hqy : q < wy.heap.size := (Array.getElem?_eq_some_iff.1 hrow).1
                    clear hmk hno hrow hon e0'
                    by_cases hin : j' < i
                    · obtain ⟨t, hf⟩ : ∃ t, e.add[j']? = some t := ⟨_, List.getElem?_eq_getElem (by rw [HNA.out]; exact hin)⟩
                      obtain ⟨b, o, cs, rfl, hblt, _, ⟨va, vb, rfl, hva, hvb⟩, hc⟩ := Rows.at_ tbFine (Rows.below tbFine HA.out HF11.out) hf
                      obtain ⟨A1, c1, rfl⟩ := slice_form hva
                      obtain ⟨A2, c2, rfl⟩ := slice_form hvb
                      have x0 : wy.cell? ⟨b, o + j' * 5, none⟩ = _ := hc 0 _ rfl
                      have x1 : wy.cell? ⟨b, o + j' * 5 + 1, none⟩ = _ := hc 1 _ rfl
                      have x2 : wy.cell? ⟨b, o + j' * 5 + 2, none⟩ = _ := hc 2 _ rfl
                      have x3 : wy.cell? ⟨b, o + j' * 5 + 3, none⟩ = _ := hc 3 _ rfl
                      have x4 : wy.cell? ⟨b, o + j' * 5 + 4, none⟩ = _ := hc 4 _ rfl
                      have HT := Lib.hid hf
                      have hidr : 1 ≤ t.id ∧ t.id ≤ 999999 := by
                        have := List.all_eq_true.1 HALL.out t (List.mem_of_getElem? hf)
                        unfold okR at this
                        simp only [Bool.and_eq_true, decide_eq_true_eq] at this
                        omega
                      go_upto_region 37 with (fail)
                      have hal : fr wy ((wy.alloc (.cells #[.int .i64 t.id, .int .i64 t.level, .int .i64 t.count, .slice A1 t.lo.length c1, .slice A2 t.hi.length c2] 57)).alloc (.cells #[.int .i64 t.id] 213)) := fr.alloc (fr.alloc fr.refl _) _
                      have pT := (Below.heap_alloc (wy.alloc (.cells #[.int .i64 t.id, .int .i64 t.level, .int .i64 t.count, .slice A1 t.lo.length c1, .slice A2 t.hi.length c2] 57)) (.cells #[.int .i64 t.id] 213) wy.heap.size (by simp)).trans (heap_alloc_new wy (.cells #[.int .i64 t.id, .int .i64 t.level, .int .i64 t.count, .slice A1 t.lo.length c1, .slice A2 t.hi.length c2] 57))
                      have y0 := cell_of_row _ _ 0 _ _ _ pT
                      have m0 := cell_of_row _ _ 0 _ _ _ (heap_alloc_new (wy.alloc (.cells #[.int .i64 t.id, .int .i64 t.level, .int .i64 t.count, .slice A1 t.lo.length c1, .slice A2 t.hi.length c2] 57)) (.cells #[.int .i64 t.id] 213))
                      have hs12 : ((wy.alloc (.cells #[.int .i64 t.id, .int .i64 t.level, .int .i64 t.count, .slice A1 t.lo.length c1, .slice A2 t.hi.length c2] 57)).alloc (.cells #[.int .i64 t.id] 213)).heap.size = wy.heap.size + 2 := by simp
                      rw [World.size_alloc] at m0
                      generalize (wy.alloc (.cells #[.int .i64 t.id, .int .i64 t.level, .int .i64 t.count, .slice A1 t.lo.length c1, .slice A2 t.hi.length c2] 57)).alloc (.cells #[.int .i64 t.id] 213) = w12 at hal y0 m0 hs12 ⊢
                      have HB12 := Lib.hid (HB11.out.below hal)
                      have HF12 := Lib.hid (fr.step HF11.out hal)
                      have hm12 := HMK'.out.below hal
                      have hl := hm12.look t.id
                      have hr12 := (Below.block hal _ hqy).trans HROW.out
                      have HO12 := Lib.hid (HON'.out.trans (Only.of_below hal))
                      have hidt : (idsT e.add)[j']? = some t.id := by unfold idsT; rw [List.getElem?_map, hf]; rfl
                      have HID := Lib.hid hidt
                      clear pT hal x0 x1 x2 x3 x4 hc hf hva hvb hidt
                      by_cases hmem : t.id ∈ idsT v.tabs ++ (idsT e.add).take j'
                      · rw [decide_eq_true hmem] at hl
                        have HE : Hid (foldE v e = 31) := Lib.hid (by unfold foldE; rw [if_neg H1A.out, if_neg (by rw [HOK.out]; decide), if_neg (by rw [HALL.out]; decide), if_neg HS12.out, if_neg (by rw [HALK.out]; decide), if_pos (okA_bad HID.out (List.mem_append.1 hmem))])
                        clear hmem
                        have r0 := cell_of_row _ _ 0 _ _ _ HB12.out.b2
                        have r1 := cell_of_row _ _ 1 _ _ _ HB12.out.b2
                        have r2 := cell_of_row _ _ 2 _ _ _ HB12.out.b2
                        have r3 := cell_of_row _ _ 3 _ _ _ HB12.out.b2
                        have z0 := frozen_of_row _ _ 0 _ _ HB12.out.b2
                        have z1 := frozen_of_row _ _ 1 _ _ HB12.out.b2
                        have z2 := frozen_of_row _ _ 2 _ _ HB12.out.b2
                        have z3 := frozen_of_row _ _ 3 _ _ HB12.out.b2
                        go_wp2_with (rw [hl]; simp only [Result.andThen_ok])
                        rw [zero_same HB12.out.b2]
                        refine bodyPost_ret (v := .tuple #[zeroVer, .int .i64 31]) (by simp [results, Tryz.results74, go_sem, r0, r1, r2, r3]) rfl ?_
                        exact ⟨_, by rw [HE.out], by rw [HE.out]; exact rfl, HF12.out⟩
                      · rw [decide_eq_false hmem] at hl
                        obtain ⟨w13, hput, hm13, ho13⟩ := hm12.put hmem
                        have htk := take_snoc HID.out
                        have hno13 : (idsT v.tabs ++ (idsT e.add).take (j' + 1)).Nodup := by
                          rw [htk, ← List.append_assoc]
                          exact List.nodup_append.2 ⟨HNO'.out, List.pairwise_singleton _ _, fun a ha c hc => by rw [List.mem_singleton.1 hc]; exact fun e => hmem (e ▸ ha)⟩
                        rw [List.append_assoc, ← htk] at hm13
                        have hr13 := (ho13.block q (Array.getElem?_eq_some_iff.1 hr12).1 (by omega)).trans hr12
                        have n3 := cell_of_row _ _ 3 _ _ _ hr13
                        have f3 := frozen_of_row _ _ 3 _ _ hr13
                        have y13 := ho13.cellOf y0 (by omega)
                        have HM13 := Lib.hid hm13
                        have HO13 := Lib.hid (HO12.out.trans (ho13.mono fun k h => .inl h))
                        have hnx := nextF_snoc (max v.nx 1) (e.add.take j') t
                        rw [← take_snoc HT.out] at hnx
                        have HNX := Lib.hid hnx
                        have HR13 := Lib.hid hr13
                        have HN13 := Lib.hid hno13
                        clear hmem htk hno13 hm13 hr13 hr12 hm12 ho13 hnx y0
                        go_wp2_with (first | (rw [hl]; simp only [Result.andThen_ok]) | (rw [hput]; simp only [Result.andThen_ok]))
                        refine ⟨⟨j' + 1, by omega, by go_num, HM13.out.only (only_set _ _ _ _) (fun h => by omega), HN13.out, ?_, HO13.out.trans ((only_set _ _ _ _).mono fun k h => .inr h)⟩, by simp [intOf]; omega⟩
                        rw [HNX.out]
                        exact heap_setCell_same _ q 3 _ _ _ HR13.out
                    · obtain rfl : j' = i := by omega
                      have htk : (idsT e.add).take j' = idsT e.add := List.take_of_length_le (by unfold idsT; rw [List.length_map, HNA.out]; exact Nat.le_refl _)
                      have htk2 : e.add.take j' = e.add := List.take_of_length_le (by rw [HNA.out]; exact Nat.le_refl _)
                      rw [htk] at HNO'
                      rw [htk2] at HROW
                      have HE0 : Hid (foldE v e = 0) := Lib.hid (by
                        have hn := List.nodup_append.1 HNO'.out
                        unfold foldE
                        rw [if_neg H1A.out, if_neg (by rw [HOK.out]; decide), if_neg (by rw [HALL.out]; decide), if_neg HS12.out, if_neg (by rw [HALK.out]; decide), if_neg (by rw [okA_all hn.2.1 fun d hd hd' => hn.2.2 d hd' d hd rfl]; decide)])
                      have HG11 := Lib.hid (HG10.out.only HON'.out fun h => by omega)
                      obtain ⟨nx, hnx⟩ : ∃ n, nextF (max v.nx 1) e.add = n := ⟨_, rfl⟩
                      have HNXF := Lib.hid hnx
                      rw [hnx] at HROW
                      have e0 := cell_of_row _ _ 0 _ _ _ HB11.out.b1
                      have v0 := cell_of_row _ _ 0 _ _ _ HB11.out.b0
                      obtain ⟨A1', c1', css1, hE1, _, _, _, hr1, hal1⟩ := Rows.below tbFine HV.out HF11.out
                      obtain ⟨A2', c2', css2, hE2, _, _, _, hr2, hal2⟩ := Rows.below tbFine HA.out HF11.out
                      obtain ⟨rfl, rfl⟩ : Av = A1' ∧ cv = c1' := by injection hE1 with h1 _ h3; exact ⟨h1, h3⟩
                      obtain ⟨rfl, rfl⟩ : Aa = A2' ∧ ca = c2' := by injection hE2 with h1 _ h3; exact ⟨h1, h3⟩
                      clear hE1 hE2
                      rw [HNV.out] at hr1
                      rw [HNA.out] at hr2
                      have HR1 := Lib.hid hr1
                      have HR2 := Lib.hid hr2
                      have HA1 := Lib.hid hal1
                      have HA2 := Lib.hid hal2
                      clear htk htk2 hnx hr1 hr2 hal1 hal2
                      have hcel : ∀ {T : Nat → Prop} {ls : List Tbl} {css : List (List Value)}, All2 (tbR wy T) ls css → ∀ u ∈ css.flatten, u.oneCell' = true := fun h => tb_one h
                      have O1 := Lib.hid (hcel HA1.out)
                      have O2 := Lib.hid (hcel HA2.out)
                      clear hcel
                      have HCC : Hid (∀ (wx : World), fr wy wx → wx.heap[wy.heap.size]? = some (.cells #[.slice Av i cv, .slice Aa j' ca] 43 (0, 0)) → Calls Tryz.prog 124 #[.slice (some ⟨wy.heap.size, 0, none⟩) 2 2] wx fun r w' => ∃ A c, r = .returned (.slice A (i + j') c) ∧ OwnC w' wx.heap.size (.slice A (i + j') c) (i + j') (css1.flatten ++ css2.flatten) ∧ fr wx w') := Lib.hid fun wx hx hr =>
                        concatT_any wy.heap.size _ _ _ _ _ _ _ _ _ _ wx hr (HR1.out.below hx) (HR2.out.below hx) O1.out O2.out (by omega)
                      go_upto_region 43 with (go_at_call 124; refine (HCC.out _ (fr.alloc fr.refl _) (heap_alloc_new wy _)).mono ?_; rintro r w15 ⟨A15, c15, rfl, ho15, f15⟩)
                      have hf15 : fr wy w15 := fr.step (fr.alloc fr.refl _) f15
                      have HFY15 := Lib.hid hf15
                      have HB15 := Lib.hid (HB11.out.below hf15)
                      have HG15 := Lib.hid (HG11.out.below hf15)
                      have HF15 := Lib.hid (fr.step HF11.out hf15)
                      have HR15 := Lib.hid ((Below.block hf15 q (Array.getElem?_eq_some_iff.1 HROW.out).1).trans HROW.out)
                      have HO15 := Lib.hid ho15
                      have hall : All2 (tbR w15 fun i => i < w.heap.size) (v.tabs ++ e.add) (css1 ++ css2) := by
                        have g1 := HA1.out.imp fun _ _ hx => tbFine.keep (S' := fun i => i < w.heap.size) hx fun _ _ _ _ hr => hr.below hf15
                        have g2 := HA2.out.imp fun _ _ hx => tbFine.keep (S' := fun i => i < w.heap.size) hx fun _ _ _ _ hr => hr.below hf15
                        exact all2_app g1 g2
                      have HAL := Lib.hid hall
                      have hs15 := Below.size hf15
                      obtain ⟨n, hn⟩ : ∃ n, i + j' = n := ⟨_, rfl⟩
                      have HLN : Hid ((v.tabs ++ e.add).length = n) := Lib.hid (by rw [List.length_append, HNV.out, HNA.out]; exact hn)
                      rw [hn] at HO15 ⊢
                      have hnb : n ≤ 1073742848 := by omega
                      have hqw : w.heap.size ≤ q ∧ q < wy.heap.size := ⟨by have := HZ.out; omega, hqy⟩
                      have HRW : Hid (TabsV w15 (fun i => i < w.heap.size ∨ (wy.heap.size ≤ i ∧ i < w15.heap.size)) (.slice A15 n c15) (v.tabs ++ e.add)) := Lib.hid (Rows.mono tbFine (rows_of_ownT (by rw [List.flatten_append]; exact HO15.out) HAL.out HLN.out (by omega)) fun i hi => hi.imp id fun h => ⟨by have := h.1; rw [World.size_alloc] at this; omega, h.2⟩)
                      obtain ⟨tl, htl⟩ : ∃ l, v.tabs ++ e.add = l := ⟨_, rfl⟩
                      have HTL := Lib.hid htl
                      rw [htl] at HLN HRW
                      clear ho15 f15 hf15 hall e0 v0 htl
                      go_wp2_with (fail)
                      go_loopw [187] (fun t wx => ∃ (k : Nat) (x : Value), k ≤ n ∧ t = .int .i64 k ∧ wx.heap[q]? = some (.cells #[x, .int .i64 e.lg, .int .i64 e.sq, .int .i64 nx] 50 (0, 0)) ∧ OwnTabs wx w15.heap.size x ((tl.take k).filter fun t => !decide (t.id ∈ e.drop)) ∧ Only (fun b => b = q) w15 wx) (fun t _ => n - (intOf t).toNat)
                      case atStart => exact ⟨0, _, Nat.zero_le _, rfl, HR15.out, OwnRows.nil _ _ _, Only.refl _ _⟩
                      case round =>
                        obtain ⟨k, x, hk, rfl, hrow, how, hon⟩ := hrel
                        have HROW6 := Lib.hid hrow
                        have HOW6 := Lib.hid how
                        have HON6 := Lib.hid hon
                        have HF16 : Hid (fr w wr) := Lib.hid (HF15.out.trans (hon.below (Below.size HF15.out) fun b h => by omega))
                        have hsz6 := hon.size
                        obtain ⟨css6, hown6, hall6⟩ := how
                        obtain ⟨A6, c6, rfl⟩ := own_form hown6
                        clear hrow hon hown6 hall6
                        by_cases hin : k < n
                        · obtain ⟨t, hf⟩ : ∃ t, tl[k]? = some t := ⟨_, List.getElem?_eq_getElem (by rw [HLN.out]; exact hin)⟩
                          obtain ⟨b, o, cs, rfl, hblt, _, ⟨va, vb, rfl, hva, hvb⟩, hc⟩ := Rows.at_ tbFine (Rows.only tbFine HRW.out HON6.out (fun b hb e => by subst e; omega)) hf
                          obtain ⟨A1, c1, rfl⟩ := slice_form hva
                          obtain ⟨A2, c2, rfl⟩ := slice_form hvb
                          have x0 : wr.cell? ⟨b, o + k * 5, none⟩ = _ := hc 0 _ rfl
                          have x1 : wr.cell? ⟨b, o + k * 5 + 1, none⟩ = _ := hc 1 _ rfl
                          have x2 : wr.cell? ⟨b, o + k * 5 + 2, none⟩ = _ := hc 2 _ rfl
                          have x3 : wr.cell? ⟨b, o + k * 5 + 3, none⟩ = _ := hc 3 _ rfl
                          have x4 : wr.cell? ⟨b, o + k * 5 + 4, none⟩ = _ := hc 4 _ rfl
                          have HT := Lib.hid hf
                          have HVA := Lib.hid hva
                          have HVB := Lib.hid hvb
                          clear hc hf hva hvb
                          go_upto_region 45 with (fail)
                          have hal : fr wr (wr.alloc (.cells #[.int .i64 t.id, .int .i64 t.level, .int .i64 t.count, .slice A1 t.lo.length c1, .slice A2 t.hi.length c2] 57)) := fr.alloc fr.refl _
                          have pT := heap_alloc_new wr (.cells #[.int .i64 t.id, .int .i64 t.level, .int .i64 t.count, .slice A1 t.lo.length c1, .slice A2 t.hi.length c2] 57)
                          have y0 := cell_of_row _ _ 0 _ _ _ pT
                          have hs17 : (wr.alloc (.cells #[.int .i64 t.id, .int .i64 t.level, .int .i64 t.count, .slice A1 t.lo.length c1, .slice A2 t.hi.length c2] 57)).heap.size = wr.heap.size + 1 := World.size_alloc _ _
                          generalize wr.alloc (.cells #[.int .i64 t.id, .int .i64 t.level, .int .i64 t.count, .slice A1 t.lo.length c1, .slice A2 t.hi.length c2] 57) = w17 at hal pT y0 hs17 ⊢
                          have hl := ((HG15.out.only HON6.out fun h => by omega).below hal).look t.id
                          have HAL17 := Lib.hid hal
                          have HPT := Lib.hid pT
                          have hft := take_snoc HT.out
                          clear x0 x1 x2 x3 x4 hal pT
                          by_cases hgone : t.id ∈ e.drop
                          · rw [decide_eq_true hgone] at hl
                            have HFT : Hid ((tl.take (k + 1)).filter (fun t => !decide (t.id ∈ e.drop)) = (tl.take k).filter (fun t => !decide (t.id ∈ e.drop))) := Lib.hid (by rw [hft, List.filter_append]; simp [hgone])
                            clear hgone hft
                            go_wp2_with (rw [hl]; simp only [Result.andThen_ok])
                            refine ⟨⟨k + 1, _, by omega, by go_num, (Below.block HAL17.out q (Array.getElem?_eq_some_iff.1 HROW6.out).1).trans HROW6.out, ?_, HON6.out.trans (Only.of_below HAL17.out)⟩, by simp [intOf]; omega⟩
                            rw [HFT.out]
                            exact OwnRows.below tbFine HOW6.out HAL17.out
                          · rw [decide_eq_false hgone] at hl
                            have HFT : Hid ((tl.take (k + 1)).filter (fun t => !decide (t.id ∈ e.drop)) = (tl.take k).filter (fun t => !decide (t.id ∈ e.drop)) ++ [t]) := Lib.hid (by rw [hft, List.filter_append]; simp [hgone])
                            clear hgone hft
                            go_upto_region 46 with (rw [hl]; simp only [Result.andThen_ok])
                            obtain ⟨fs, hfs⟩ : ∃ l, (tl.take k).filter (fun t => !decide (t.id ∈ e.drop)) = l := ⟨_, rfl⟩
                            have hfl : fs.length ≤ k := by rw [← hfs]; exact Nat.le_trans (List.length_filter_le _ _) (by rw [List.length_take]; omega)
                            rw [hfs] at HFT HOW6 HROW6
                            obtain ⟨lk, hlk⟩ : ∃ n, fs.length = n := ⟨_, rfl⟩
                            rw [hlk] at HOW6 HROW6 hfl
                            have HLK := Lib.hid hlk
                            have hfd : fr wr w17.drew := fr.drew HAL17.out
                            have HFD := Lib.hid hfd
                            have HDR : Hid (fr w17 w17.drew) := Lib.hid (fr.drew fr.refl)
                            have hpd : w17.drew.heap[wr.heap.size]? = some (.cells #[.int .i64 t.id, .int .i64 t.level, .int .i64 t.count, .slice A1 t.lo.length c1, .slice A2 t.hi.length c2] 57 (0, 0)) := HPT.out
                            have HPD := Lib.hid hpd
                            have y3 := cell_of_row _ _ 3 _ _ _ HPT.out
                            have y4 := cell_of_row _ _ 4 _ _ _ HPT.out
                            have Y3 := cell_of_row _ _ 3 _ _ _ hpd
                            have Y4 := cell_of_row _ _ 4 _ _ _ hpd
                            have HCL := Lib.hid (clone_fr _ _ _ _ _ _ (HVA.out.below HAL17.out))
                            have HCH := Lib.hid (clone_fr _ _ _ _ _ _ (HVB.out.below HAL17.out))
                            have hzd : w17.drew.heap.size = wr.heap.size + 1 := hs17
                            clear hl hfs hlk hfd hpd y0
                            go_region_with (first
                              | (go_at_call 89; (with_reducible refine Calls.mono (HCL.out _ ?_) ?_); (focus (with_reducible exact HDR.out)); rintro r wL ⟨AL, kL, rfl, hbL, gL⟩; have pL := boxRowFr HPD.out gL; have yL := cell_of_row _ _ 4 _ _ _ pL)
                              | (go_at_call 89; (with_reducible refine Calls.mono (HCH.out _ ?_) ?_); (focus (with_reducible exact fr.stepR HDR.out gL)); rintro r wH ⟨AH, kH, rfl, hbH, gH⟩; have pH := boxRowFr pL gH; have zH := frozen_of_row wH _ 3 _ _ pH; have p6 : (wH.setCell ⟨wr.heap.size, 3, none⟩ (.slice AL t.lo.length kL)).heap[wr.heap.size]? = some (.cells #[.int .i64 t.id, .int .i64 t.level, .int .i64 t.count, .slice AL t.lo.length kL, .slice A2 t.hi.length c2] 57 (0, 0)) := heap_setCell_same wH _ _ _ _ _ pH; have z6 := frozen_of_row _ _ 4 _ _ p6; have cH := cell_of_row _ _ 3 _ _ _ pH; have c6 := cell_of_row _ _ 4 _ _ _ p6))
                            all_goals
                              have hs8 := Below.size gL
                              have HX := Lib.hid (table_box hbL hbH gH (x := wr.heap.size) (by omega) (by omega))
                              have P8 : ((wH.setCell ⟨wr.heap.size, 3, none⟩ (.slice AL t.lo.length kL)).setCell ⟨wr.heap.size, 4, none⟩ (.slice AH t.hi.length kH)).heap[wr.heap.size]? = some (.cells #[.int .i64 t.id, .int .i64 t.level, .int .i64 t.count, .slice AL t.lo.length kL, .slice AH t.hi.length kH] 57 (0, 0)) := heap_setCell_same _ _ _ _ _ _ p6
                              have F8 := fr.putE (fr.putE (fr.stepR (fr.stepR HFD.out gL) gH) (Nat.le_refl wr.heap.size) (j := 3) (u := .slice AL t.lo.length kL)) (Nat.le_refl wr.heap.size) (j := 4) (u := .slice AH t.hi.length kH)
                              generalize ((wH.setCell ⟨wr.heap.size, 3, none⟩ (.slice AL t.lo.length kL)).setCell ⟨wr.heap.size, 4, none⟩ (.slice AH t.hi.length kH)) = w8 at HX P8 F8 ⊢
                              clear yL cH c6 zH p6 z6 pL pH hbL hbH gL gH y3 y4 Y3 Y4 hs8 hzd
                              have x0 := cell_of_row _ _ 0 _ _ _ P8
                              have x1 := cell_of_row _ _ 1 _ _ _ P8
                              have x2 := cell_of_row _ _ 2 _ _ _ P8
                              have x3 := cell_of_row _ _ 3 _ _ _ P8
                              have x4 := cell_of_row _ _ 4 _ _ _ P8
                              have R8 := boxRowFr HROW6.out F8
                              have q0 := cell_of_row _ _ 0 _ _ _ R8
                              have HF8 := Lib.hid F8
                              obtain ⟨css6, hown6, hys6⟩ := HOW6.out
                              have hno : (Value.slice A6 lk c6).ownBlock ≠ some q := fun h => by
                                have := (hown6.lt q h).1
                                omega
                              rw [HLK.out] at hown6
                              have HOWN := Lib.hid hown6
                              have HYS := Lib.hid hys6
                              have HNO6 := Lib.hid hno
                              have HR8 := Lib.hid R8
                              obtain ⟨i0, hi, hz0, hz1, hz2⟩ := info_parts infoT
                              have hby := Lib.hid hz2
                              have hz1' := Lib.hid hz1
                              have hm2 : lk + 1 ≤ maxLen := by unfold maxLen; omega
                              have hm3 : (lk + 1) * 72 ≤ 140737488355328 := by omega
                              have hsz8 := Below.size F8
                              clear hz2 hz1 hown6 hys6 hno P8 F8 R8
                              go_wp2_with (at_builtin; refine wpList_append_own_at _ rfl _ _ 43 rfl w15.heap.size 57 i0 _ 5 72 Tryz.underlying43 hi hz0 hz1'.out hby.out rfl (by decide) _ _ _ rfl ((own_below HOWN.out HF8.out).alloc _) ⟨w8.heap.size, 0, none⟩ 1 1 [.int .i64 t.id, .int .i64 t.level, .int .i64 t.count, .slice AL t.lo.length kL, .slice AH t.hi.length kH] rfl rfl (cells_at rfl (by simp)) (by simp [Value.oneCell']) hm2 hm3 (by simp; omega) ?_; intro v' w9 hown' hgrow hnn hat; clear hnn; obtain ⟨A9, c9, rfl⟩ := own_form hown'; have hq9 := ((Only.of_grown hgrow).block q (by simp; omega) (fun h => HNO6.out h)).trans ((Below.heap_alloc _ _ _ (by omega)).trans HR8.out); have z9 := frozen_of_row w9 _ 0 _ _ hq9; have cq9 := cell_of_row w9 _ 0 _ _ _ hq9)
                              have hpush := OwnRows.push tbFine (by rw [HLK.out]; exact HOWN.out) HYS.out HF8.out HX.out HON6.out.size hgrow hat (by rw [HLK.out]; exact hown')
                              rw [← HFT.out] at hpush
                              refine ⟨⟨k + 1, _, by omega, by go_num, heap_setCell_same w9 q 0 _ _ _ hq9, OwnRows.onlyF tbFine hpush (only_set w9 q 0 _) (fun i hi _ e => by omega), ?_⟩, by simp [intOf]; omega⟩
                              exact (((HON6.out.trans (Only.of_below HF8.out)).alloc _).fresh (Only.of_grown hgrow) (fun i e => .inr (HOWN.out.lt i e).1)).trans (only_set w9 q 0 _)
                        · obtain rfl : k = n := by omega
                          have htk : tl.take k = tl := List.take_of_length_le (by rw [HLN.out]; exact Nat.le_refl _)
                          have hT : foldT v e = tl.filter fun t => !decide (t.id ∈ e.drop) := by unfold foldT; rw [HTL.out]
                          rw [htk, ← hT] at HOW6 HROW6
                          clear htk
                          obtain ⟨lk, hlk⟩ : ∃ n, (foldT v e).length = n := ⟨_, rfl⟩
                          rw [hlk] at HOW6 HROW6
                          have q0 := cell_of_row _ _ 0 _ _ _ HROW6.out
                          have hno : (Value.slice A6 lk c6).ownBlock ≠ some q := fun h => by
                            obtain ⟨css, h1, _⟩ := HOW6.out
                            have := (h1.lt q h).1
                            omega
                          have hfs : ∀ i, (Value.slice A6 lk c6).ownBlock = some i → w15.heap.size ≤ i := fun i h => by
                            obtain ⟨css, h1, _⟩ := HOW6.out
                            exact (h1.lt i h).1
                          have HNO6 := Lib.hid hno
                          have HFS := Lib.hid hfs
                          have HB16 := Lib.hid (HB15.out.only HON6.out fun b h => by omega)
                          clear hT hlk hno hfs
                          go_upto_region 50 with (go_at_call 125; refine (HSORT.out HE0.out _ _ _ HOW6.out).mono ?_; rintro r w19 ⟨rfl, how9, hon9⟩; have hr9 := (hon9.block q (Array.getElem?_eq_some_iff.1 HROW6.out).1 HNO6.out).trans HROW6.out)
                          have hw15 := Below.size HF15.out
                          have hz15 : z + 1 + 1 < w15.heap.size := (Array.getElem?_eq_some_iff.1 HB15.out.b2).1
                          have hb19 := (hon9.block (z + 1 + 1) (Array.getElem?_eq_some_iff.1 HB16.out.b2).1 (fun h => by have := HFS.out _ h; omega)).trans HB16.out.b2
                          have hf19 : fr w w19 := HF16.out.trans (hon9.below (Below.size HF16.out) fun b h => by have := HFS.out b h; omega)
                          have q1 := cell_of_row _ _ 1 _ _ _ hr9
                          have q2 := cell_of_row _ _ 2 _ _ _ hr9
                          have q3 := cell_of_row _ _ 3 _ _ _ hr9
                          have q0' := cell_of_row _ _ 0 _ _ _ hr9
                          have r0 := cell_of_row _ _ 0 _ _ _ hb19
                          have r1 := cell_of_row _ _ 1 _ _ _ hb19
                          have r2 := cell_of_row _ _ 2 _ _ _ hb19
                          have r3 := cell_of_row _ _ 3 _ _ _ hb19
                          have z0 := frozen_of_row _ _ 0 _ _ hb19
                          have z1 := frozen_of_row _ _ 1 _ _ hb19
                          have z2 := frozen_of_row _ _ 2 _ _ hb19
                          have z3 := frozen_of_row _ _ 3 _ _ hb19
                          have HW9 := Lib.hid how9
                          have HB19 := Lib.hid hb19
                          have HF19 := Lib.hid hf19
                          clear how9 hon9 hr9 hb19 hf19 q0
                          go_wp2_with (fail)
                          have P := put4_row HB19.out (a := .slice A6 lk c6) (b := .int .i64 e.lg) (c := .int .i64 e.sq) (d := .int .i64 nx)
                          have O := put4_only (W := w19) (g := z + 1 + 1) (a := .slice A6 lk c6) (b := .int .i64 e.lg) (c := .int .i64 e.sq) (d := .int .i64 nx)
                          have HO := OwnRows.rebaseF tbFine (OwnRows.onlyF tbFine HW9.out O (fun i hi _ e => by omega)) hw15
                          have HF : fr w _ := HF19.out.trans (O.below (Below.size HF19.out) fun b h => by have := HZ.out; omega)
                          unfold put4 at P O HO HF
                          generalize (((w19.setCell ⟨z + 1 + 1, 0, none⟩ (.slice A6 lk c6)).setCell ⟨z + 1 + 1, 1, none⟩ (.int .i64 e.lg)).setCell ⟨z + 1 + 1, 2, none⟩ (.int .i64 e.sq)).setCell ⟨z + 1 + 1, 3, none⟩ (.int .i64 nx) = w20 at P O HO HF ⊢
                          have s0 := cell_of_row _ _ 0 _ _ _ P
                          have s1 := cell_of_row _ _ 1 _ _ _ P
                          have s2 := cell_of_row _ _ 2 _ _ _ P
                          have s3 := cell_of_row _ _ 3 _ _ _ P
                          refine bodyPost_ret (v := .tuple #[.agg #[.slice A6 lk c6, .int .i64 e.lg, .int .i64 e.sq, .int .i64 nx], .int .i64 0]) (by simp [results, Tryz.results74, go_sem, s0, s1, s2, s3]) rfl ?_
                          refine ⟨_, by rw [HE0.out], ?_, HF⟩
                          rw [HE0.out, if_pos rfl]
                          exact ⟨_, by unfold foldN; rw [HNXF.out], HO⟩
theorem fold_any (sortT : List Tbl → List Tbl) (S : Nat → Prop) (vt at_ dr : Value) (v : Ver) (e : Edt) (w : World) (hv : TabsV w S vt v.tabs) (ha : TabsV w S at_ e.add) (hd : IntsIn w S dr e.drop) (hnd : (idsT v.tabs).Nodup) (hvl : v.tabs.length ≤ 1073741824) (hsort : Sorts sortT (foldT v e)) :
    Calls Tryz.prog 74 #[.agg #[vt, .int .i64 v.lg, .int .i64 v.sq, .int .i64 v.nx], .agg #[at_, dr, .int .i64 e.lg, .int .i64 e.sq]] w fun r w' => FoldR w w' v e sortT r :=
  fold_if sortT S vt at_ dr v e w hv ha hd hnd hvl fun _ => hsort
end Go.Proofs.YtjnolpfmchnnmaaGreatDoor
end
