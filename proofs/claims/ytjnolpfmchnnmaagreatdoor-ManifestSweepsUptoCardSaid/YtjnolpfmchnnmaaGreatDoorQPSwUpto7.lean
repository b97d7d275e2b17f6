/-
frame.frames, of frames that were put.
-/
import Derived.Test.YtjnolpfmchnnmaaGreatDoorQPSwUpto5
import Derived.StillTailTactics
import Derived.BigRegion
import Derived.Deep.QuietTactic
import Derived.BigQuiet
import Derived.Test.YtjnolpfmchnnmaaGreatDoorQPSwUpto6
import Derived.Test.YtjnolpfmchnnmaaGreatDoorQPSwUpto4
import Derived.Test.YtjnolpfmchnnmaaGreatDoorQPSwUpto0
import Derived.StillTail
import Derived.Deep.Quiet
import Derived.Test.YtjnolpfmchnnmaaGreatDoorQPSwUpto3
import Derived.Shelf.Abstract
import Derived.Shelf.RegionOpen
import Derived.WalkKit
import Derived.OwnWalkIn
import Derived.TacticsInMore
import Derived.LoopNIn
import Derived.LoopIn
import Derived.IntWalk
section
namespace Go.Proofs.YtjnolpfmchnnmaaGreatDoor
set_option maxRecDepth 100000
open Go.RowKit Go.BigFrame
attribute [local go_sem ↓] Go.wp_at_zero Go.wp_at_succ
def cmpT (x y : Int) : Int := if x < y then -1 else if y < x then 1 else 0
set_option maxRecDepth 100000 in
theorem isnanT_any (x : Int) (w : World) : Calls Tryz.prog 196 #[.int .i64 x] w fun r w' => r = .returned (.bool false) ∧ w' = w := by
  go_enter Tryz.func196, Tryz.ntmps196
  go_wp2
  refine bodyPost_ret (v := .bool false) (by simp [results, Tryz.results196, go_sem]) rfl ?_
  exact ⟨rfl, rfl⟩
set_option maxRecDepth 100000 in
theorem compareT_any (x y : Int) (w : World) : Calls Tryz.prog 127 #[.int .i64 x, .int .i64 y] w fun r w' => r = .returned (.int .i64 (cmpT x y)) ∧ w' = w := by
  have HC : Hid (∀ (x : Int) (w : World), Calls Tryz.prog 196 #[.int .i64 x] w fun r w' => r = .returned (.bool false) ∧ w' = w) := Lib.hid isnanT_any
  have t0 : x < y ∨ (¬ x < y ∧ y < x) ∨ (¬ x < y ∧ ¬ y < x) := by omega
  rcases t0 with h | ⟨h, h2⟩ | ⟨h, h2⟩
  · have HE : Hid (cmpT x y = -1) := Lib.hid (by unfold cmpT; rw [if_pos h])
    go_enter Tryz.func127, Tryz.ntmps127
    go_wp2_with (go_at_call 196; refine (HC.out _ _).mono ?_; rintro r w1 ⟨rfl, rfl⟩)
    refine bodyPost_ret (v := .int .i64 (-1)) (by simp [results, Tryz.results127, go_sem]) rfl ?_
    exact ⟨by rw [HE.out], rfl⟩
  · have HE : Hid (cmpT x y = 1) := Lib.hid (by unfold cmpT; rw [if_neg h, if_pos h2])
    go_enter Tryz.func127, Tryz.ntmps127
    go_wp2_with (go_at_call 196; refine (HC.out _ _).mono ?_; rintro r w1 ⟨rfl, rfl⟩)
    refine bodyPost_ret (v := .int .i64 1) (by simp [results, Tryz.results127, go_sem]) rfl ?_
    exact ⟨by rw [HE.out], rfl⟩
  · have HE : Hid (cmpT x y = 0) := Lib.hid (by unfold cmpT; rw [if_neg h, if_neg h2])
    go_enter Tryz.func127, Tryz.ntmps127
    go_wp2_with (go_at_call 196; refine (HC.out _ _).mono ?_; rintro r w1 ⟨rfl, rfl⟩)
    refine bodyPost_ret (v := .int .i64 0) (by simp [results, Tryz.results127, go_sem]) rfl ?_
    exact ⟨by rw [HE.out], rfl⟩
set_option maxRecDepth 100000 in
theorem lessT_any (x y x1 x2 y1 y2 : Int) (a1 a2 b1 b2 : Value) (w : World) (ha : ∃ A n c, a1 = .slice A n c) (hb : ∃ A n c, a2 = .slice A n c) (hc : ∃ A n c, b1 = .slice A n c) (hd : ∃ A n c, b2 = .slice A n c) :
    Calls Tryz.prog 126 #[.agg #[.int .i64 x, .int .i64 x1, .int .i64 x2, a1, a2], .agg #[.int .i64 y, .int .i64 y1, .int .i64 y2, b1, b2]] w fun r w' => r = .returned (.int .i64 (cmpT x y)) ∧ fr w w' := by
  obtain ⟨A1, n1, c1, rfl⟩ := ha
  obtain ⟨A2, n2, c2, rfl⟩ := hb
  obtain ⟨A3, n3, c3, rfl⟩ := hc
  obtain ⟨A4, n4, c4, rfl⟩ := hd
  go_enter Tryz.func126, Tryz.ntmps126
  go_wp2_with (go_at_call 127; refine (compareT_any _ _ _).mono ?_; rintro r w1 ⟨rfl, rfl⟩)
  refine bodyPost_ret (v := .int .i64 (cmpT x y)) (by simp [results, Tryz.results126, go_sem]) rfl ?_
  exact ⟨rfl, fr.alloc (fr.alloc fr.refl _) _⟩
end Go.Proofs.YtjnolpfmchnnmaaGreatDoor
end
section
namespace Go.Proofs.YtjnolpfmchnnmaaGreatDoor
set_option maxRecDepth 100000
open Go.RowKit Go.BigFrame
attribute [local go_sem ↓] Go.wp_at_zero Go.wp_at_succ
abbrev lessTV : Value := .func (.func 126) #[] #[]
def OrdOn (l : List Tbl) (a b : Nat) : Prop := ∀ p q x y, a ≤ p → p < q → q < b → l[p]? = some x → l[q]? = some y → x.id ≤ y.id
def OrdBut (l : List Tbl) (a i j : Nat) : Prop := ∀ p q x y, a ≤ p → p < q → q ≤ i → q ≠ j → l[p]? = some x → l[q]? = some y → x.id ≤ y.id
structure Moved (a b : Nat) (l l' : List Tbl) : Prop where
  perm : l'.Perm l
  out : ∀ p, p < a ∨ b ≤ p → l'[p]? = l[p]?
theorem Moved.refl (a b : Nat) (l : List Tbl) : Moved a b l l := ⟨List.Perm.refl _, fun _ _ => rfl⟩
theorem Moved.trans {a b : Nat} {l m k : List Tbl} (h : Moved a b l m) (g : Moved a b m k) : Moved a b l k := ⟨g.perm.trans h.perm, fun p hp => (g.out p hp).trans (h.out p hp)⟩
theorem swT_get {l : List Tbl} {j : Nat} {x y : Tbl} (hx : l[j]? = some x) (hy : l[j + 1]? = some y) (p : Nat) : ((l.set (j + 1) x).set j y)[p]? = if p = j then some y else if p = j + 1 then some x else l[p]? := by
  have h1 := (List.getElem?_eq_some_iff.1 hx).1
  have h2 := (List.getElem?_eq_some_iff.1 hy).1
  rw [List.getElem?_set]
  by_cases e : p = j
  · subst e
    rw [if_pos rfl, if_pos (by rw [List.length_set]; omega), if_pos rfl]
  · rw [if_neg (fun h => e h.symm), if_neg e, List.getElem?_set]
    by_cases e2 : p = j + 1
    · subst e2
      rw [if_pos rfl, if_pos h2, if_pos rfl]
    · rw [if_neg (fun h => e2 h.symm), if_neg e2]
theorem swT_perm {l : List Tbl} {j : Nat} {x y : Tbl} (hx : l[j]? = some x) (hy : l[j + 1]? = some y) : ((l.set (j + 1) x).set j y).Perm l := by
  obtain ⟨h1, e1⟩ := List.getElem?_eq_some_iff.1 hx
  obtain ⟨h2, e2⟩ := List.getElem?_eq_some_iff.1 hy
  subst e1 e2
  exact List.set_set_perm h2 h1
theorem swT_moved {l : List Tbl} {a b j : Nat} {x y : Tbl} (hx : l[j]? = some x) (hy : l[j + 1]? = some y) (ha : a ≤ j) (hb : j + 1 < b) : Moved a b l ((l.set (j + 1) x).set j y) :=
  ⟨swT_perm hx hy, fun p hp => by rw [swT_get hx hy, if_neg (by omega), if_neg (by omega)]⟩
theorem ord_step {l : List Tbl} {a i j : Nat} {x y : Tbl} (h : OrdBut l a i (j + 1)) (hx : l[j]? = some x) (hy : l[j + 1]? = some y) (hl : y.id ≤ x.id) (ha : a ≤ j) : OrdBut ((l.set (j + 1) x).set j y) a i j := by
  intro p q u v hp hpq hq hqj hu hv
  rw [swT_get hx hy] at hu hv
  rw [if_neg hqj] at hv
  by_cases e1 : q = j + 1
  · rw [if_pos e1] at hv
    obtain rfl := Option.some.inj hv
    by_cases e2 : p = j
    · rw [if_pos e2] at hu
      obtain rfl := Option.some.inj hu
      exact hl
    · rw [if_neg e2, if_neg (by omega)] at hu
      exact h p j u _ hp (by omega) (by omega) (by omega) hu hx
  · rw [if_neg e1] at hv
    by_cases e2 : p = j
    · rw [if_pos e2] at hu
      obtain rfl := Option.some.inj hu
      exact h (j + 1) q _ v (by omega) (by omega) hq e1 hy hv
    · rw [if_neg e2] at hu
      by_cases e3 : p = j + 1
      · rw [if_pos e3] at hu
        obtain rfl := Option.some.inj hu
        exact h j q _ v (by omega) (by omega) hq e1 hx hv
      · rw [if_neg e3] at hu
        exact h p q u v hp hpq hq e1 hu hv
theorem ord_end {l : List Tbl} {a i j : Nat} (h : OrdBut l a i j) (hj : j ≤ a ∨ ∃ k x y, j = k + 1 ∧ l[k]? = some x ∧ l[k + 1]? = some y ∧ x.id ≤ y.id) : OrdOn l a (i + 1) := by
  intro p q u v hp hpq hq hu hv
  by_cases e : q = j
  · rcases hj with hj | ⟨k, x, y, rfl, hx, hy, hl⟩
    · omega
    · subst e
      obtain rfl : y = v := Option.some.inj (hy.symm.trans hv)
      by_cases e2 : p = k
      · subst e2
        obtain rfl : x = u := Option.some.inj (hx.symm.trans hu)
        exact hl
      · have := h p k u x hp (by omega) (by omega) (by omega) hu hx
        omega
  · exact h p q u v hp hpq (by omega) e hu hv
theorem ord_begin {l : List Tbl} {a i : Nat} (h : OrdOn l a i) : OrdBut l a i i := fun p q x y hp hpq hq hne hx hy => h p q x y hp hpq (by omega) hx hy
theorem tbT_len {w : World} {S : Nat → Prop} {ls : List Tbl} {css : List (List Value)} (h : All2 (tbR w S) ls css) : ∀ cs ∈ css, cs.length = 5 := by
  induction h with
  | nil => intro cs h; simp at h
  | cons h _ ih =>
    intro cs hm
    rcases List.mem_cons.1 hm with rfl | hm
    · exact tbFine.len h
    · exact ih _ hm
theorem ownT_cell {w : World} {base g n c j : Nat} {T : TypeId} {xs : List Value} {u : Value} (h : w.ownsRow base T 5 (.slice (some ⟨g, 0, none⟩) n c) n xs) (hu : xs[j]? = some u) : w.cell? ⟨g, j, none⟩ = some u := by
  have := h.cells (g := g) rfl j u hu
  rwa [Addr.add_lit, Nat.zero_add] at this
theorem flat_set5 {css : List (List Value)} (h : ∀ cs ∈ css, cs.length = 5) {i : Nat} (hi : i < css.length) (a b c d e : Value) :
    (((((css.flatten.set (i * 5) a).set (i * 5 + 1) b).set (i * 5 + 2) c).set (i * 5 + 3) d).set (i * 5 + 4) e) = (css.set i [a, b, c, d, e]).flatten := by
  induction css generalizing i with
  | nil => simp at hi
  | cons cs r ih =>
    have h5 := h cs List.mem_cons_self
    match cs, h5 with
    | [p0, p1, p2, p3, p4], _ =>
      cases i with
      | zero => simp
      | succ i =>
        have := ih (fun c hc => h c (List.mem_cons_of_mem _ hc)) (i := i) (by simpa using hi)
        rw [List.set_cons_succ, List.flatten_cons, List.flatten_cons, ← this]
        have e0 : (i + 1) * 5 = i * 5 + 5 := by omega
        rw [e0]
        rfl
theorem all2T_set {α β : Type} {P : α → β → Prop} {l : List α} {c : List β} {x : α} {y : β} (h : All2 P l c) (hx : P x y) (i : Nat) : All2 P (l.set i x) (c.set i y) := by
  induction h generalizing i with
  | nil => exact .nil
  | cons h1 h2 ih =>
    cases i with
    | zero => exact .cons hx h2
    | succ i => exact .cons h1 (ih i)
abbrev put5 (W : World) (g o : Nat) (a b c d e : Value) : World := ((((W.setCell ⟨g, o, none⟩ a).setCell ⟨g, o + 1, none⟩ b).setCell ⟨g, o + 2, none⟩ c).setCell ⟨g, o + 3, none⟩ d).setCell ⟨g, o + 4, none⟩ e
theorem put5_only (W : World) (g o : Nat) (a b c d e : Value) : Only (fun i => i = g) W (put5 W g o a b c d e) :=
  ((((only_set _ _ _ _).trans (only_set _ _ _ _)).trans (only_set _ _ _ _)).trans (only_set _ _ _ _)).trans (only_set _ _ _ _)
theorem put5_own {W : World} {base g n c0 i : Nat} {T : TypeId} {css : List (List Value)} (h : W.ownsRow base T 5 (.slice (some ⟨g, 0, none⟩) n c0) n css.flatten) (hall : ∀ cs ∈ css, cs.length = 5) (hi : i < css.length) (a b c d e : Value) :
    (put5 W g (i * 5) a b c d e).ownsRow base T 5 (.slice (some ⟨g, 0, none⟩) n c0) n (css.set i [a, b, c, d, e]).flatten := by
  rw [← flat_set5 hall hi]
  exact ((((((h.stored _ a).1).stored _ b).1.stored _ c).1.stored _ d).1.stored _ e).1
theorem tabs_swap {wr w3 : World} {base g n c0 k c1 c2 c3 c4 : Nat} {A1 A2 A3 A4 : Option Addr} {l : List Tbl} {css : List (List Value)} {x y : Tbl} (hf : fr wr w3) (hown : wr.ownsRow base 57 5 (.slice (some ⟨g, 0, none⟩) n c0) n css.flatten)
    (hys : All2 (tbR wr (freshL wr base (.slice (some ⟨g, 0, none⟩) n c0))) l css) (hcx : css[k]? = some [.int .i64 x.id, .int .i64 x.level, .int .i64 x.count, .slice A1 x.lo.length c1, .slice A2 x.hi.length c2])
    (hcy : css[k + 1]? = some [.int .i64 y.id, .int .i64 y.level, .int .i64 y.count, .slice A3 y.lo.length c3, .slice A4 y.hi.length c4]) (hx : l[k]? = some x) (hy : l[k + 1]? = some y) (hn : l.length = n) :
    OwnTabs (put5 (put5 w3 g ((k + 1) * 5) (.int .i64 x.id) (.int .i64 x.level) (.int .i64 x.count) (.slice A1 x.lo.length c1) (.slice A2 x.hi.length c2)) g (k * 5) (.int .i64 y.id) (.int .i64 y.level) (.int .i64 y.count) (.slice A3 y.lo.length c3) (.slice A4 y.hi.length c4)) base (.slice (some ⟨g, 0, none⟩) n c0) ((l.set (k + 1) x).set k y) := by
  have hall := tbT_len hys
  have hk := (List.getElem?_eq_some_iff.1 hcy).1
  have ho : Only (fun i => i = g) w3 _ := (put5_only w3 g ((k + 1) * 5) (.int .i64 x.id) (.int .i64 x.level) (.int .i64 x.count) (.slice A1 x.lo.length c1) (.slice A2 x.hi.length c2)).trans (put5_only _ g (k * 5) (.int .i64 y.id) (.int .i64 y.level) (.int .i64 y.count) (.slice A3 y.lo.length c3) (.slice A4 y.hi.length c4))
  have o1 := put5_own (own_below hown hf) hall (i := k + 1) hk (.int .i64 x.id) (.int .i64 x.level) (.int .i64 x.count) (.slice A1 x.lo.length c1) (.slice A2 x.hi.length c2)
  have hall2 : ∀ cs ∈ css.set (k + 1) [.int .i64 x.id, .int .i64 x.level, .int .i64 x.count, .slice A1 x.lo.length c1, .slice A2 x.hi.length c2], cs.length = 5 := fun cs hm => by
    rcases List.mem_or_eq_of_mem_set hm with h | h
    · exact hall _ h
    · rw [h]; rfl
  have o2 := put5_own o1 hall2 (i := k) (by rw [List.length_set]; omega) (.int .i64 y.id) (.int .i64 y.level) (.int .i64 y.count) (.slice A3 y.lo.length c3) (.slice A4 y.hi.length c4)
  generalize hW : put5 (put5 w3 g ((k + 1) * 5) _ _ _ _ _) g (k * 5) _ _ _ _ _ = W at ho o2 ⊢
  have hys2 : All2 (tbR W (freshL W base (.slice (some ⟨g, 0, none⟩) n c0))) l css := hys.imp fun _ _ hz => tbFine.keep hz fun _ _ _ _ hr =>
    ((hr.below hf).only ho fun i _ hi e => hi.2.1 (by rw [e]; rfl)).mono fun i hi => ⟨hi.1, hi.2.1, (hi.2.2.below hf).only ho fun e => hi.2.1 (by rw [e]; rfl)⟩
  obtain ⟨tx, htx, rx⟩ := hys2.at_ hx
  obtain ⟨ty, hty, ry⟩ := hys2.at_ hy
  rw [hcx] at htx
  rw [hcy] at hty
  obtain rfl := Option.some.inj htx
  obtain rfl := Option.some.inj hty
  exact ⟨_, by rw [List.length_set, List.length_set, hn]; exact o2, all2T_set (all2T_set hys2 rx _) ry _⟩
theorem frT_drewN {w : World} {k : Nat} : fr w (w.drewN k) := ⟨rfl, rfl, rfl, Nat.le_refl _, fun _ _ => rfl⟩
theorem cmpT_lt {x y : Int} : decide (cmpT x y < 0) = decide (x < y) := by
  unfold cmpT
  by_cases h : x < y
  · rw [if_pos h]; simp [h]
  · rw [if_neg h]; by_cases h2 : y < x <;> simp [h, h2]
set_option maxRecDepth 100000 in
set_option maxHeartbeats 800000 in
theorem insertion_any (base a b n : Nat) (v : Value) (l : List Tbl) (w : World) (h : OwnTabs w base v l) (hn : l.length = n) (hab : a ≤ b) (hb : b ≤ n) (hbig : n ≤ 1073742848) :
    Calls Tryz.prog 238 #[v, .int .i64 a, .int .i64 b, lessTV] w fun r w' => r = .returned (.tuple #[]) ∧ ∃ l', OwnTabs w' base v l' ∧ Moved a b l l' ∧ OrdOn l' a b ∧ Only (fun i => v.ownBlock = some i) w w' := by
  obtain ⟨A, c, rfl⟩ := (show ∃ A c, v = .slice A l.length c by obtain ⟨css, h, _⟩ := h; exact own_form h)
  rw [hn] at h ⊢
  have H := Lib.hid h
  have HN := Lib.hid hn
  clear h hn
  go_enter Tryz.func238, Tryz.ntmps238
  go_wp2
  go_loopw [8] (fun t wx => ∃ (i : Nat) (l1 : List Tbl), a ≤ i ∧ (i < b ∨ b ≤ i) ∧ t = .int .i64 ((i : Int) + 1) ∧ OwnTabs wx base (.slice A n c) l1 ∧ Moved a b l l1 ∧ OrdOn l1 a (i + 1) ∧ Only (fun i => (Value.slice A n c).ownBlock = some i) w wx) (fun t _ => b - (intOf t).toNat)
  case atStart => exact ⟨a, l, Nat.le_refl _, by omega, rfl, H.out, Moved.refl _ _ _, fun p q x y hp hpq hq => by omega, Only.refl _ _⟩
  case round =>
    obtain ⟨i, l1, hai, _, rfl, how, hmv, hord, hon⟩ := hrel
    have HOW := Lib.hid how
    have HMV := Lib.hid hmv
    have HORD := Lib.hid hord
    have HON := Lib.hid hon
    clear how hmv hord hon
    by_cases hin : i + 1 < b
    · obtain ⟨wy, hwy⟩ : ∃ x, x = wr := ⟨_, rfl⟩
      subst hwy
      obtain ⟨g, rfl⟩ : ∃ g, A = some ⟨g, 0, none⟩ := by
        obtain ⟨css, h, _⟩ := HOW.out
        rcases h.2 with ⟨h1, h2⟩ | ⟨g, cap, cur, h1, _⟩
        · injection h1 with _ h3 _
          omega
        · injection h1 with h3 _ _
          exact ⟨g, h3⟩
      have hd0 : decide ((i : Int) + 1 < (b : Int)) = true := decide_eq_true (by omega)
      go_wp2_with (fail)
      go_loopw [9] (fun t wx => ∃ (j : Nat) (l2 : List Tbl), a ≤ j ∧ j ≤ i + 1 ∧ t = .int .i64 j ∧ OwnTabs wx base (.slice (some ⟨g, 0, none⟩) n c) l2 ∧ Moved a b l l2 ∧ OrdBut l2 a (i + 1) j ∧ Only (fun i => g = i) wy wx) (fun t _ => (intOf t).toNat)
      case atStart => exact ⟨i + 1, l1, by omega, Nat.le_refl _, by go_num, HOW.out, HMV.out, ord_begin HORD.out, Only.refl _ _⟩
      case round =>
        obtain ⟨j, l2, haj, hji, rfl, how, hmv, hord, hon⟩ := hrel
        have HOW2 := Lib.hid how
        have HMV2 := Lib.hid hmv
        have HORD2 := Lib.hid hord
        have HON2 := Lib.hid hon
        clear how hmv hord hon
        by_cases hja : a < j
        · obtain ⟨k, rfl⟩ : ∃ k, j = k + 1 := ⟨j - 1, by omega⟩
          have hlen2 : l2.length = n := by rw [HMV2.out.perm.length_eq, HN.out]
          obtain ⟨css, hown, hys⟩ := HOW2.out
          rw [hlen2] at hown
          obtain ⟨x, hx⟩ : ∃ x, l2[k]? = some x := ⟨_, List.getElem?_eq_getElem (by omega)⟩
          obtain ⟨y, hy⟩ : ∃ y, l2[k + 1]? = some y := ⟨_, List.getElem?_eq_getElem (by omega)⟩
          obtain ⟨cx, hcx, a1, a2, rfl, ha1, ha2⟩ := hys.at_ hx
          obtain ⟨cy, hcy, b1, b2, rfl, hb1, hb2⟩ := hys.at_ hy
          obtain ⟨A1, c1, rfl⟩ := slice_form ha1
          obtain ⟨A2, c2, rfl⟩ := slice_form ha2
          obtain ⟨A3, c3, rfl⟩ := slice_form hb1
          obtain ⟨A4, c4, rfl⟩ := slice_form hb2
          have hall := tbT_len hys
          have x0 : wr.cell? ⟨g, k * 5, none⟩ = some (.int .i64 x.id) := ownT_cell hown (flat_at (j := 0) hall hcx rfl)
          have x1 : wr.cell? ⟨g, k * 5 + 1, none⟩ = some (.int .i64 x.level) := ownT_cell hown (flat_at (j := 1) hall hcx rfl)
          have x2 : wr.cell? ⟨g, k * 5 + 2, none⟩ = some (.int .i64 x.count) := ownT_cell hown (flat_at (j := 2) hall hcx rfl)
          have x3 : wr.cell? ⟨g, k * 5 + 3, none⟩ = some (.slice A1 x.lo.length c1) := ownT_cell hown (flat_at (j := 3) hall hcx rfl)
          have x4 : wr.cell? ⟨g, k * 5 + 4, none⟩ = some (.slice A2 x.hi.length c2) := ownT_cell hown (flat_at (j := 4) hall hcx rfl)
          have y0 : wr.cell? ⟨g, (k + 1) * 5, none⟩ = some (.int .i64 y.id) := ownT_cell hown (flat_at (j := 0) hall hcy rfl)
          have y1 : wr.cell? ⟨g, (k + 1) * 5 + 1, none⟩ = some (.int .i64 y.level) := ownT_cell hown (flat_at (j := 1) hall hcy rfl)
          have y2 : wr.cell? ⟨g, (k + 1) * 5 + 2, none⟩ = some (.int .i64 y.count) := ownT_cell hown (flat_at (j := 2) hall hcy rfl)
          have y3 : wr.cell? ⟨g, (k + 1) * 5 + 3, none⟩ = some (.slice A3 y.lo.length c3) := ownT_cell hown (flat_at (j := 3) hall hcy rfl)
          have y4 : wr.cell? ⟨g, (k + 1) * 5 + 4, none⟩ = some (.slice A4 y.hi.length c4) := ownT_cell hown (flat_at (j := 4) hall hcy rfl)
          have HOWN := Lib.hid hown
          have HYS := Lib.hid hys
          have HX := Lib.hid hx
          have HCX := Lib.hid hcx
          have HCY := Lib.hid hcy
          have HLEN := Lib.hid hlen2
          have HY := Lib.hid hy
          have HALL := Lib.hid hall
          have hd1 : decide ((a : Int) < ((k : Int) + 1)) = true := decide_eq_true (by omega)
          have hkn : k + 1 < n := by omega
          have hk1 : (k : Int) + 1 < (n : Int) := by omega
          have hk0 : (0 : Int) ≤ (k : Int) + 1 := by omega
          have hk2 : (k : Int) < (n : Int) := by omega
          have hkt : ((k : Int) + 1).toNat = k + 1 := by omega
          have hkw : IntKind.i64.wrap (k : Int) = (k : Int) := by simp [IntKind.wrap, IntKind.signed, IntKind.bits]; omega
          clear hx hy hcx hcy ha1 ha2 hb1 hb2 hown hys hall hlen2
          by_cases hlt : y.id < x.id
          · have hc : decide (cmpT y.id x.id < 0) = true := by rw [cmpT_lt]; exact decide_eq_true hlt
            go_upto_region 4 with (fail)
            go_still_tail 14, (by kernel_rfl)
            go_wp2_with ((first | go_at_call 126 | go_at_fn 126); refine (lessT_any _ _ _ _ _ _ _ _ _ _ _ ⟨_, _, _, rfl⟩ ⟨_, _, _, rfl⟩ ⟨_, _, _, rfl⟩ ⟨_, _, _, rfl⟩).mono ?_; rintro r w3 ⟨rfl, f3⟩)
            have F3 : fr wr w3 := fr.step (fr.drew fr.refl) f3
            have HF3 := Lib.hid F3
            have HO3 := Lib.hid (own_below HOWN.out F3)
            have X0 := fr.cell F3 x0
            have Y0 := fr.cell F3 y0
            have X1 := fr.cell F3 x1
            have Y1 := fr.cell F3 y1
            have X2 := fr.cell F3 x2
            have Y2 := fr.cell F3 y2
            have X3 := fr.cell F3 x3
            have Y3 := fr.cell F3 y3
            have X4 := fr.cell F3 x4
            have Y4 := fr.cell F3 y4
            have p0 := HO3.out.frozenAt (k * 5)
            have q0 := HO3.out.frozenAt ((k + 1) * 5)
            have p1 := HO3.out.frozenAt (k * 5 + 1)
            have q1 := HO3.out.frozenAt ((k + 1) * 5 + 1)
            have p2 := HO3.out.frozenAt (k * 5 + 2)
            have q2 := HO3.out.frozenAt ((k + 1) * 5 + 2)
            have p3 := HO3.out.frozenAt (k * 5 + 3)
            have q3 := HO3.out.frozenAt ((k + 1) * 5 + 3)
            have p4 := HO3.out.frozenAt (k * 5 + 4)
            have q4 := HO3.out.frozenAt ((k + 1) * 5 + 4)
            clear x0 x1 x2 x3 x4 y0 y1 y2 y3 y4 F3 f3
            go_region
            go_wp2_with (fail)
            have T := OwnRows.below tbFine (tabs_swap HF3.out HOWN.out HYS.out HCX.out HCY.out HX.out HY.out HLEN.out) (fr.drew fr.refl)
            have O := ((HON2.out.trans (Only.of_below HF3.out)).trans (((put5_only w3 g ((k + 1) * 5) (.int .i64 x.id) (.int .i64 x.level) (.int .i64 x.count) (.slice A1 x.lo.length c1) (.slice A2 x.hi.length c2)).trans (put5_only _ g (k * 5) (.int .i64 y.id) (.int .i64 y.level) (.int .i64 y.count) (.slice A3 y.lo.length c3) (.slice A4 y.hi.length c4))).mono fun i e => e.symm)).drew
            have M := HMV2.out.trans (swT_moved HX.out HY.out (by omega) (by omega) : Moved a b _ _)
            have R := ord_step HORD2.out HX.out HY.out (by omega) (by omega)
            exact ⟨⟨k, _, by omega, by omega, by go_num, T, M, R, O⟩, by simp [intOf]⟩
          · have hc : decide (cmpT y.id x.id < 0) = false := by rw [cmpT_lt]; exact decide_eq_false hlt
            go_upto_region 4 with (fail)
            go_still_tail 14, (by kernel_rfl)
            go_wp2_with ((first | go_at_call 126 | go_at_fn 126); refine (lessT_any _ _ _ _ _ _ _ _ _ _ _ ⟨_, _, _, rfl⟩ ⟨_, _, _, rfl⟩ ⟨_, _, _, rfl⟩ ⟨_, _, _, rfl⟩).mono ?_; rintro r w3 ⟨rfl, f3⟩)
            have F3 : fr wr w3 := fr.step (fr.drew fr.refl) f3
            exact ⟨⟨i + 1, l2, by omega, by omega, by go_num, OwnRows.below tbFine HOW2.out F3, HMV2.out, ord_end HORD2.out (.inr ⟨k, x, y, rfl, HX.out, HY.out, by omega⟩), HON.out.trans ((HON2.out.trans (Only.of_below F3)).mono fun i e => by subst e; rfl)⟩, by simp [intOf]; omega⟩
        · have hd1 : decide ((a : Int) < (j : Int)) = false := decide_eq_false (by omega)
          go_upto_region 4 with (fail)
          go_quiet (fail)
          go_wp2
          exact ⟨⟨i + 1, l2, by omega, by omega, by go_num, OwnRows.below tbFine HOW2.out frT_drewN, HMV2.out, ord_end HORD2.out (.inl (by omega)), HON.out.trans ((Only.drewN HON2.out _).mono fun i e => by subst e; rfl)⟩, by simp [intOf]; omega⟩
    · have hd0 : decide ((i : Int) + 1 < (b : Int)) = false := decide_eq_false (by omega)
      go_wp2_with (fail)
      refine bodyPost_end (v := .tuple #[]) (by simp [results, Tryz.results238, go_sem]) rfl ?_
      exact ⟨rfl, l1, HOW.out, HMV.out, fun p q x y hp hpq hq => HORD.out p q x y hp hpq (by omega), HON.out⟩
end Go.Proofs.YtjnolpfmchnnmaaGreatDoor
end
section
namespace Go.Proofs.YtjnolpfmchnnmaaGreatDoor
set_option maxRecDepth 100000
open Go.RowKit Go.BigFrame
attribute [local go_sem ↓] Go.wp_at_zero Go.wp_at_succ
set_option maxRecDepth 100000 in
set_option maxHeartbeats 800000 in
theorem stable_small (base n : Nat) (v : Value) (l : List Tbl) (w : World) (h : OwnTabs w base v l) (hn : l.length = n) (hs : n < 20) :
    Calls Tryz.prog 195 #[v, .int .i64 n, lessTV] w fun r w' => r = .returned (.tuple #[]) ∧ ∃ l', OwnTabs w' base v l' ∧ Moved 0 n l l' ∧ OrdOn l' 0 n ∧ Only (fun i => v.ownBlock = some i) w w' := by
  obtain ⟨A, c, rfl⟩ := (show ∃ A c, v = .slice A l.length c by obtain ⟨css, h, _⟩ := h; exact own_form h)
  rw [hn] at h ⊢
  have HC := Lib.hid (insertion_any base 0 n n _ l w h hn (Nat.zero_le _) (Nat.le_refl _) (by omega))
  clear h hn
  have h1 : decide ((20 : Int) ≤ (n : Int)) = false := decide_eq_false (by omega)
  have h2 : decide ((20 : Int) < (n : Int)) = false := decide_eq_false (by omega)
  have HN : Hid (n < 20) := Lib.hid hs
  go_enter Tryz.func195, Tryz.ntmps195
  go_wp2
  go_loopw [7, 8] (fun u t wx => u = .int .i64 0 ∧ t = .int .i64 20 ∧ wx = w) (fun _ _ _ => 0)
  case atStart => exact ⟨rfl, rfl, rfl⟩
  case round =>
    obtain ⟨rfl, rfl, rfl⟩ := hrel
    go_wp2_with (go_at_call 238; refine HC.out.mono ?_; rintro r w2 ⟨rfl, l2, how, hmv, hord, hon⟩)
    have HO := Lib.hid how
    have HM := Lib.hid hmv
    have HR := Lib.hid hord
    have HN2 := Lib.hid hon
    clear how hmv hord hon
    go_loopw [6] (fun t wx => t = .int .i64 20 ∧ wx = w2) (fun _ _ => 0)
    case atStart => exact ⟨rfl, rfl⟩
    case round =>
      obtain ⟨rfl, rfl⟩ := hrel
      go_wp2_with (fail)
      refine bodyPost_end (v := .tuple #[]) (by simp [results, Tryz.results195, go_sem]) rfl ?_
      exact ⟨rfl, l2, HO.out, HM.out, HR.out, HN2.out⟩
set_option maxRecDepth 100000 in
theorem sort_small (base : Nat) (v : Value) (l : List Tbl) (w : World) (h : OwnTabs w base v l) (hs : l.length < 20) :
    Calls Tryz.prog 125 #[v, lessTV] w fun r w' => r = .returned (.tuple #[]) ∧ ∃ l', OwnTabs w' base v l' ∧ Moved 0 l.length l l' ∧ OrdOn l' 0 l.length ∧ Only (fun i => v.ownBlock = some i) w w' := by
  have HC := Lib.hid (stable_small base l.length v l w h rfl hs)
  obtain ⟨A, c, rfl⟩ := (show ∃ A c, v = .slice A l.length c by obtain ⟨css, h, _⟩ := h; exact own_form h)
  clear h
  go_enter Tryz.func125, Tryz.ntmps125
  go_wp2_with (go_at_call 195; refine HC.out.mono ?_; rintro r w2 ⟨rfl, l2, how, hmv, hord, hon⟩)
  refine bodyPost_end (v := .tuple #[]) (by simp [results, Tryz.results125, go_sem]) rfl ?_
  exact ⟨rfl, l2, how, hmv, hord, hon⟩
end Go.Proofs.YtjnolpfmchnnmaaGreatDoor
end
section
namespace Go.Proofs.YtjnolpfmchnnmaaGreatDoor
set_option maxRecDepth 100000
open Go.RowKit Go.BigFrame
def sortTb (l : List Tbl) : List Tbl := l.mergeSort fun a b => decide (a.id ≤ b.id)
theorem tb_uniq : ∀ {a b : List Tbl}, a.Perm b → a.Pairwise (fun x y => x.id < y.id) → b.Pairwise (fun x y => x.id < y.id) → a = b
  | [], b, h, _, _ => (List.Perm.nil_eq h)
  | x :: a, [], h, _, _ => absurd h.length_eq (by simp)
  | x :: a, y :: b, h, h1, h2 => by
    have e : x = y := by
      rcases List.mem_cons.1 (h.subset List.mem_cons_self) with e | hx
      · exact e
      · rcases List.mem_cons.1 (h.symm.subset List.mem_cons_self) with e | hy
        · exact e.symm
        · have i1 := List.rel_of_pairwise_cons h1 hy
          have i2 := List.rel_of_pairwise_cons h2 hx
          omega
    subst e
    rw [tb_uniq (List.Perm.cons_inv h) (List.Pairwise.of_cons h1) (List.Pairwise.of_cons h2)]
theorem sortTb_perm (l : List Tbl) : (sortTb l).Perm l := List.mergeSort_perm _ _
theorem strict {l : List Tbl} (h : l.Pairwise fun x y => x.id ≤ y.id) (hn : (idsT l).Nodup) : l.Pairwise fun x y => x.id < y.id := by
  have h2 : l.Pairwise fun x y => x.id ≠ y.id := by
    unfold idsT at hn
    exact List.pairwise_map.1 hn
  exact (h.and h2).imp fun {x y} h => by have := h.1; have := h.2; omega
theorem sortTb_ord (l : List Tbl) : (sortTb l).Pairwise fun x y => x.id ≤ y.id := by
  have := List.pairwise_mergeSort (le := fun (a b : Tbl) => decide (a.id ≤ b.id)) (fun a b c h1 h2 => by simp at *; omega) (fun a b => by simp; omega) l
  exact this.imp fun h => by simpa using h
theorem ids_perm {l m : List Tbl} (h : l.Perm m) : (idsT l).Perm (idsT m) := by unfold idsT; exact h.map _
theorem sortTb_only {l l' : List Tbl} (h : Moved 0 l.length l l') (ho : OrdOn l' 0 l.length) (hn : (idsT l).Nodup) : l' = sortTb l := by
  have hl := h.perm.length_eq
  have hn' : (idsT l').Nodup := (ids_perm h.perm).nodup_iff.2 hn
  refine tb_uniq (h.perm.trans (sortTb_perm l).symm) (strict ?_ hn') (strict (sortTb_ord l) ((ids_perm (sortTb_perm l)).nodup_iff.2 hn))
  rw [List.pairwise_iff_getElem]
  intro i j hi hj hij
  exact ho i j _ _ (Nat.zero_le _) hij (by omega) (List.getElem?_eq_getElem hi) (List.getElem?_eq_getElem hj)
theorem sorts_small {l : List Tbl} (hs : l.length < 20) (hn : (idsT l).Nodup) : Sorts sortTb l := by
  intro w base x h
  refine (sort_small base x l w h hs).mono ?_
  rintro r w' ⟨rfl, l', h1, h2, h3, h4⟩
  rw [sortTb_only h2 h3 hn] at h1
  exact ⟨rfl, h1, h4⟩
end Go.Proofs.YtjnolpfmchnnmaaGreatDoor
end
section
namespace Go.Proofs.YtjnolpfmchnnmaaGreatDoor
set_option maxRecDepth 100000
open Go.RowKit Go.BigFrame
def ver0 : Ver := ⟨[], 0, 0, 1⟩
def stepV (v : Ver) (e : Edt) (nx : Int) : Ver := ⟨sortTb (foldT v e), e.lg, e.sq, max (foldN v e) nx⟩
structure StepOk (v : Ver) (e : Edt) (nx : Int) : Prop where
  ok : EditOk e nx
  fold : foldE v e = 0
  srt : Sorts sortTb (foldT v e)
  nd : (idsT v.tabs).Nodup
  few : v.tabs.length ≤ 1073741824
def ChainOk : Ver → List (Edt × Int) → Ver → Prop
  | v, [], v' => v = v'
  | v, x :: l, v' => StepOk v x.1 x.2 ∧ ChainOk (stepV v x.1 x.2) l v'
theorem ChainOk.snoc {l : List (Edt × Int)} : ∀ {v v' : Ver} {x : Edt × Int}, ChainOk v l v' → StepOk v' x.1 x.2 → ChainOk v (l ++ [x]) (stepV v' x.1 x.2) := by
  induction l with
  | nil => intro v v' x h hs; cases h; exact ⟨hs, rfl⟩
  | cons y l ih => intro v v' x h hs; exact ⟨h.1, ih h.2 hs⟩
theorem ChainOk.ok {l : List (Edt × Int)} : ∀ {v v' : Ver}, ChainOk v l v' → ∀ x ∈ l, EditOk x.1 x.2 := by
  induction l with
  | nil => intro v v' h x hx; cases hx
  | cons y l ih =>
    intro v v' h x hx
    rcases List.mem_cons.1 hx with rfl | hx
    · exact h.1.ok
    · exact ih h.2 x hx
def recsM (l : List (Edt × Int)) : List (List UInt8) := l.map fun x => editF x.1 x.2
theorem recsM_app (l m : List (Edt × Int)) : recsM (l ++ m) = recsM l ++ recsM m := List.map_append
structure VerOk (v : Ver) : Prop where
  ord : v.tabs.Pairwise fun a b => a.id < b.id
  okr : v.tabs.all okR = true
  okk : v.tabs.all okK = true
  cnt : ∀ t ∈ v.tabs, t.count < 9223372036854775808
  top : ∀ t ∈ v.tabs, t.id < v.nx
  nx : 1 ≤ v.nx ∧ v.nx ≤ 1000000
  lg : numOk v.lg
  sq : numOk v.sq
theorem ver0_ok : VerOk ver0 := ⟨.nil, rfl, rfl, fun _ h => (by cases h), fun _ h => (by cases h), by decide, by unfold numOk; decide, by unfold numOk; decide⟩
theorem VerOk.nodup {v : Ver} (h : VerOk v) : (idsT v.tabs).Nodup := by
  unfold idsT
  exact List.pairwise_map.2 (h.ord.imp fun {a b} hab => by omega)
theorem ord_len : ∀ (l : List Tbl) (a b : Int), l.Pairwise (fun x y => x.id < y.id) → (∀ t ∈ l, a ≤ t.id ∧ t.id ≤ b) → a ≤ b + 1 → (l.length : Int) ≤ b + 1 - a
  | [], a, b, _, _, h => by simp; omega
  | t :: l, a, b, h1, h2, h => by
    have ht := h2 t List.mem_cons_self
    have := ord_len l (t.id + 1) b (List.Pairwise.of_cons h1) (fun u hu => ⟨by have := List.rel_of_pairwise_cons h1 hu; omega, (h2 u (List.mem_cons_of_mem _ hu)).2⟩) (by omega)
    simp only [List.length_cons]
    omega
theorem VerOk.few {v : Ver} (h : VerOk v) : v.tabs.length ≤ 999999 := by
  have := ord_len v.tabs 1 999999 h.ord (fun t ht => by
    have := List.all_eq_true.1 h.okr t ht
    unfold okR at this
    simp only [Bool.and_eq_true, decide_eq_true_eq] at this
    omega) (by decide)
  omega
theorem tabOk_of {t : Tbl} (hr : okR t = true) (hk : okK t = true) (hc : t.count < 9223372036854775808) : TabOk t := by
  unfold okR at hr
  unfold okK at hk
  simp only [Bool.and_eq_true, decide_eq_true_eq] at hr hk
  obtain ⟨⟨⟨⟨r1, r2⟩, r3⟩, r4⟩, r5⟩ := hr
  obtain ⟨⟨⟨k1, k2⟩, k3⟩, k4⟩ := hk
  refine ⟨⟨by omega, by omega⟩, ⟨by omega, by omega⟩, ⟨by omega, hc⟩, ⟨List.length_pos_iff.2 k1, k2⟩, ⟨?_, k3⟩⟩
  cases hh : t.hi with
  | cons a l => simp
  | nil =>
    exfalso
    cases hl : t.lo with
    | nil => exact k1 hl
    | cons a l => rw [hh, hl] at k4; simp [cmpB] at k4
theorem nextF_ge (ts : List Tbl) : ∀ n : Int, n ≤ nextF n ts ∧ (∀ t ∈ ts, t.id < nextF n ts) := by
  induction ts with
  | nil => intro n; exact ⟨Int.le_refl _, fun _ h => (by cases h)⟩
  | cons t ts ih =>
    intro n
    obtain ⟨h1, h2⟩ := ih (max n (t.id + 1))
    have e : nextF n (t :: ts) = nextF (max n (t.id + 1)) ts := rfl
    rw [e]
    refine ⟨by omega, fun u hu => ?_⟩
    rcases List.mem_cons.1 hu with rfl | hu
    · omega
    · exact h2 u hu
theorem nextF_le (ts : List Tbl) : ∀ n b : Int, n ≤ b → (∀ t ∈ ts, t.id + 1 ≤ b) → nextF n ts ≤ b := by
  induction ts with
  | nil => intro n b h _; exact h
  | cons t ts ih =>
    intro n b h h2
    exact ih _ b (by have := h2 t List.mem_cons_self; show max n (t.id + 1) ≤ b; omega) fun u hu => h2 u (List.mem_cons_of_mem _ hu)
structure FoldOk (v : Ver) (e : Edt) : Prop where
  few : e.drop.length ≤ 1024
  fewA : e.add.length ≤ 1024
  dnd : e.drop.Nodup
  din : ∀ d ∈ e.drop, d ∈ idsT v.tabs
  okr : e.add.all okR = true
  lg : v.lg ≤ e.lg
  sq : v.sq ≤ e.sq
  okk : e.add.all okK = true
  and : (idsT e.add).Nodup
  aout : ∀ d ∈ idsT e.add, d ∉ idsT v.tabs
theorem foldE_ok {v : Ver} {e : Edt} : foldE v e = 0 ↔ FoldOk v e := by
  unfold foldE
  constructor
  · intro h
    split at h
    · exact absurd h (by decide)
    · rename_i h1
      split at h
      · exact absurd h (by decide)
      · rename_i h2
        split at h
        · exact absurd h (by decide)
        · rename_i h3
          split at h
          · exact absurd h (by decide)
          · rename_i h4
            split at h
            · exact absurd h (by decide)
            · rename_i h5
              split at h
              · exact absurd h (by decide)
              · rename_i h6
                simp only [Bool.not_eq_false] at h2 h3 h5 h6
                unfold okD at h2
                unfold okA at h6
                simp only [Bool.and_eq_true, decide_eq_true_eq, List.all_eq_true] at h2 h6
                exact ⟨by omega, by omega, h2.1, h2.2, h3, by omega, by omega, h5, h6.1, h6.2⟩
  · intro h
    rw [if_neg (by have := h.few; have := h.fewA; omega), if_neg, if_neg (by rw [h.okr]; decide), if_neg (by have := h.lg; have := h.sq; omega), if_neg (by rw [h.okk]; decide), if_neg]
    · rw [okA_all h.and h.aout]; decide
    · have : okD (idsT v.tabs) e.drop = true := by
        unfold okD
        simp only [Bool.and_eq_true, decide_eq_true_eq, List.all_eq_true]
        exact ⟨h.dnd, h.din⟩
      rw [this]; decide
theorem okR_id {ts : List Tbl} (h : ts.all okR = true) {t : Tbl} (ht : t ∈ ts) : 1 ≤ t.id ∧ t.id ≤ 999999 := by
  have := List.all_eq_true.1 h t ht
  unfold okR at this
  simp only [Bool.and_eq_true, decide_eq_true_eq] at this
  omega
theorem mem_foldT {v : Ver} {e : Edt} {t : Tbl} (h : t ∈ foldT v e) : t ∈ v.tabs ∨ t ∈ e.add := by
  unfold foldT at h
  exact List.mem_append.1 (List.mem_filter.1 h).1
theorem foldT_nodup {v : Ver} {e : Edt} (hv : (idsT v.tabs).Nodup) (h : FoldOk v e) : (idsT (foldT v e)).Nodup := by
  unfold foldT idsT
  refine List.Nodup.sublist (List.Sublist.map _ List.filter_sublist) ?_
  rw [List.map_append]
  exact List.nodup_append.2 ⟨hv, h.and, fun a ha b hb e => h.aout b hb (e ▸ ha)⟩
theorem fold_ok {v : Ver} {e : Edt} (hv : VerOk v) (h : FoldOk v e) (hc : ∀ t ∈ e.add, t.count < 9223372036854775808) (hlg : e.lg < 9223372036854775808) (hsq : e.sq < 9223372036854775808) :
    VerOk ⟨sortTb (foldT v e), e.lg, e.sq, foldN v e⟩ ∧ EditOk e (foldN v e) ∧ 1 ≤ foldN v e ∧ foldN v e ≤ 1000000 ∧ v.nx ≤ foldN v e := by
  have hp := sortTb_perm (foldT v e)
  have hmem : ∀ t ∈ sortTb (foldT v e), t ∈ v.tabs ∨ t ∈ e.add := fun t ht => mem_foldT (hp.mem_iff.1 ht)
  obtain ⟨n1, n2⟩ := nextF_ge e.add (max v.nx 1)
  have hnx := hv.nx
  have hN : foldN v e ≤ 1000000 := nextF_le e.add (max v.nx 1) 1000000 (by omega) fun t ht => by have := okR_id h.okr ht; omega
  have hN1 : max v.nx 1 ≤ foldN v e := n1
  refine ⟨⟨strict (sortTb_ord _) ((ids_perm hp).nodup_iff.2 (foldT_nodup hv.nodup h)), List.all_eq_true.2 fun t ht => ?_, List.all_eq_true.2 fun t ht => ?_, fun t ht => ?_, fun t ht => ?_, ⟨by show 1 ≤ foldN v e; omega, hN⟩, ⟨by have := hv.lg.1; have := h.lg; show 0 ≤ e.lg; omega, hlg⟩, ⟨by have := hv.sq.1; have := h.sq; show 0 ≤ e.sq; omega, hsq⟩⟩, ⟨⟨by have := hv.lg.1; have := h.lg; omega, hlg⟩, ⟨by have := hv.sq.1; have := h.sq; omega, hsq⟩, ⟨by omega, by omega⟩, h.few, h.fewA, fun d hd => ?_, fun t ht => tabOk_of (List.all_eq_true.1 h.okr t ht) (List.all_eq_true.1 h.okk t ht) (hc t ht)⟩, by omega, hN, by omega⟩
  · exact (hmem t ht).elim (List.all_eq_true.1 hv.okr t) (List.all_eq_true.1 h.okr t)
  · exact (hmem t ht).elim (List.all_eq_true.1 hv.okk t) (List.all_eq_true.1 h.okk t)
  · exact (hmem t ht).elim (hv.cnt t) (hc t)
  · rcases hmem t ht with hm | hm
    · have := hv.top t hm; show t.id < foldN v e; omega
    · exact n2 t hm
  · have := h.din d hd
    unfold idsT at this
    obtain ⟨t, ht, rfl⟩ := List.mem_map.1 this
    have := okR_id hv.okr ht
    exact ⟨by omega, by omega⟩
def chunkT (l : List Tbl) (i : Nat) : List Tbl := (l.drop (1024 * i)).take 1024
def chunksN (n : Nat) : Nat := (n + 1023) / 1024
def splitE (v : Ver) : List Edt := ⟨[], [], v.lg, v.sq⟩ :: (List.range (chunksN v.tabs.length)).map fun i => ⟨chunkT v.tabs i, [], v.lg, v.sq⟩
theorem sortTb_ord' {l : List Tbl} (h : l.Pairwise fun a b => a.id < b.id) : sortTb l = l := by
  have hn : (idsT l).Nodup := by unfold idsT; exact List.pairwise_map.2 (h.imp fun {a b} hab => by omega)
  exact tb_uniq (sortTb_perm l) (strict (sortTb_ord l) ((ids_perm (sortTb_perm l)).nodup_iff.2 hn)) h
theorem foldT_add (v : Ver) (a : List Tbl) (lg sq : Int) : foldT v ⟨a, [], lg, sq⟩ = v.tabs ++ a := by
  unfold foldT
  exact List.filter_eq_self.2 fun t _ => by simp
theorem take_chunk (l : List Tbl) (i : Nat) : l.take (1024 * i) ++ chunkT l i = l.take (1024 * (i + 1)) := by
  unfold chunkT
  rw [show 1024 * (i + 1) = 1024 * i + 1024 by omega, List.take_add]
theorem VerOk.nxOk {v : Ver} (h : VerOk v) : numOk v.nx := ⟨by have := h.nx; omega, by have := h.nx; omega⟩
theorem split_first {v : Ver} (hv : VerOk v) (hs : ∀ n, Sorts sortTb (v.tabs.take n)) : StepOk ver0 ⟨[], [], v.lg, v.sq⟩ v.nx ∧ stepV ver0 ⟨[], [], v.lg, v.sq⟩ v.nx = ⟨[], v.lg, v.sq, v.nx⟩ := by
  have hT : foldT ver0 ⟨[], [], v.lg, v.sq⟩ = [] := rfl
  refine ⟨⟨⟨hv.lg, hv.sq, hv.nxOk, by simp, by simp, fun _ h => (by cases h), fun _ h => (by cases h)⟩, ?_, ?_, .nil, by simp [ver0]⟩, ?_⟩
  · refine foldE_ok.2 ⟨by simp, by simp, .nil, fun _ h => (by cases h), rfl, hv.lg.1, hv.sq.1, rfl, .nil, fun _ h => (by cases h)⟩
  · rw [hT]; exact hs 0
  · unfold stepV
    rw [hT]
    have : max (foldN ver0 ⟨[], [], v.lg, v.sq⟩) v.nx = v.nx := by
      have := hv.nx
      show max (max (1 : Int) 1) v.nx = v.nx
      omega
    rw [this, show sortTb [] = [] by simp [sortTb]]
theorem split_next {v : Ver} (hv : VerOk v) (hfew : v.tabs.length ≤ 1073741824) (hs : ∀ n, Sorts sortTb (v.tabs.take n)) (i : Nat) :
    StepOk ⟨v.tabs.take (1024 * i), v.lg, v.sq, v.nx⟩ ⟨chunkT v.tabs i, [], v.lg, v.sq⟩ v.nx ∧ stepV ⟨v.tabs.take (1024 * i), v.lg, v.sq, v.nx⟩ ⟨chunkT v.tabs i, [], v.lg, v.sq⟩ v.nx = ⟨v.tabs.take (1024 * (i + 1)), v.lg, v.sq, v.nx⟩ := by
  have hT : foldT ⟨v.tabs.take (1024 * i), v.lg, v.sq, v.nx⟩ ⟨chunkT v.tabs i, [], v.lg, v.sq⟩ = v.tabs.take (1024 * (i + 1)) := by rw [foldT_add]; exact take_chunk _ _
  have hsub : ∀ t ∈ chunkT v.tabs i, t ∈ v.tabs := fun t ht => List.mem_of_mem_drop (List.mem_of_mem_take ht)
  have hcl : (chunkT v.tabs i).length ≤ 1024 := List.length_take_le _ _
  have hord : (v.tabs.take (1024 * (i + 1))).Pairwise fun a b => a.id < b.id := hv.ord.sublist (List.take_sublist _ _)
  have hnd : (idsT (v.tabs.take (1024 * (i + 1)))).Nodup := hv.nodup.sublist (List.Sublist.map _ (List.take_sublist _ _))
  rw [← take_chunk] at hnd
  unfold idsT at hnd
  rw [List.map_append] at hnd
  obtain ⟨d1, d2, d3⟩ := List.nodup_append.1 hnd
  refine ⟨⟨⟨hv.lg, hv.sq, hv.nxOk, by simp, hcl, fun _ h => (by cases h), fun t ht => tabOk_of (List.all_eq_true.1 hv.okr t (hsub t ht)) (List.all_eq_true.1 hv.okk t (hsub t ht)) (hv.cnt t (hsub t ht))⟩, ?_, ?_, d1, ?_⟩, ?_⟩
  · exact foldE_ok.2 ⟨by simp, hcl, .nil, fun _ h => (by cases h), List.all_eq_true.2 fun t ht => List.all_eq_true.1 hv.okr t (hsub t ht), Int.le_refl _, Int.le_refl _, List.all_eq_true.2 fun t ht => List.all_eq_true.1 hv.okk t (hsub t ht), d2, fun d hd hd' => d3 d hd' d hd rfl⟩
  · rw [hT]; exact hs _
  · show (v.tabs.take (1024 * i)).length ≤ _
    have := List.length_take_le' (1024 * i) v.tabs
    omega
  · unfold stepV
    rw [hT, sortTb_ord' hord]
    have : max (foldN ⟨v.tabs.take (1024 * i), v.lg, v.sq, v.nx⟩ ⟨chunkT v.tabs i, [], v.lg, v.sq⟩) v.nx = v.nx := by
      have h1 : foldN ⟨v.tabs.take (1024 * i), v.lg, v.sq, v.nx⟩ ⟨chunkT v.tabs i, [], v.lg, v.sq⟩ ≤ v.nx := nextF_le _ _ _ (by have := hv.nx; show max v.nx 1 ≤ v.nx; omega) fun t ht => by have := hv.top t (hsub t ht); omega
      omega
    rw [this]
theorem split_chain {v : Ver} (hv : VerOk v) (hfew : v.tabs.length ≤ 1073741824) (hs : ∀ n, Sorts sortTb (v.tabs.take n)) (m : Nat) :
    ChainOk ver0 ((⟨[], [], v.lg, v.sq⟩, v.nx) :: (List.range m).map fun i => (⟨chunkT v.tabs i, [], v.lg, v.sq⟩, v.nx)) ⟨v.tabs.take (1024 * m), v.lg, v.sq, v.nx⟩ := by
  induction m with
  | zero =>
    obtain ⟨h1, h2⟩ := split_first hv hs
    refine ⟨h1, ?_⟩
    show stepV ver0 _ _ = _
    rw [h2]
    simp
  | succ m ih =>
    obtain ⟨h1, h2⟩ := split_next hv hfew hs m
    have := ih.snoc (x := (⟨chunkT v.tabs m, [], v.lg, v.sq⟩, v.nx)) h1
    rw [h2] at this
    rw [List.range_succ, List.map_append]
    exact this
def splitL (v : Ver) : List (Edt × Int) := (splitE v).map fun e => (e, v.nx)
theorem split_ok {v : Ver} (hv : VerOk v) (hfew : v.tabs.length ≤ 1073741824) (hs : ∀ n, Sorts sortTb (v.tabs.take n)) : ChainOk ver0 (splitL v) v := by
  have := split_chain hv hfew hs (chunksN v.tabs.length)
  rw [List.take_of_length_le (by unfold chunksN; omega)] at this
  unfold splitL splitE
  rw [List.map_cons, List.map_map]
  exact this
theorem splitE_len (v : Ver) : (splitE v).length = chunksN v.tabs.length + 1 := by unfold splitE; simp
end Go.Proofs.YtjnolpfmchnnmaaGreatDoor
end
section
namespace Go.Proofs.YtjnolpfmchnnmaaGreatDoor
set_option maxRecDepth 100000
open Go.RowKit Go.BigFrame Go.Sort Go.Shelf Go.Lib
attribute [local go_sem ↓] Go.wp_at_zero Go.wp_at_succ
def nameB6 (pre : Nm) (n : Nat) (suf : Nm) : Nm := pre ++ dig6 n ++ suf
def tblW : Nm := [46, 116, 98, 108]
def nameT (n : Nat) : Nm := nameB6 [116] n tblW
def nameM (n : Nat) : Nm := nameW [109] n
set_option maxRecDepth 100000 in
set_option maxHeartbeats 1000000 in
theorem mnamed_any (pre suf : Nm) (n : Nat) (w : World) (ht : TabW w) (hp : pre.length ≤ 64) (hs : suf.length ≤ 64) (hn : n < 1000000) :
    Calls Tryz.prog 128 #[.string ⟨pre.toArray⟩, .int .i64 n, .string ⟨suf.toArray⟩] w fun r w' => r = .returned (.string ⟨(nameB6 pre n suf).toArray⟩) ∧ fr w w' := by
  have hi : Lib.itoa ((n : Int) + 1000000) = 49 :: dig6 n := by
    have := itoa_dig6 hn
    rwa [Int.natCast_add] at this
  have HI := fun wx (hx : TabW wx) => Tryz.strconv_Itoa ((n : Int) + 1000000) (by omega) (by omega) wx hx
  simp only [hi] at HI
  have HT := Lib.hid ht
  obtain ⟨S, hS⟩ : ∃ S : ByteArray, (⟨(49 :: dig6 n).toArray⟩ : ByteArray) = S := ⟨_, rfl⟩
  have h7 : S.size = 7 := by rw [← hS]; rfl
  obtain ⟨A, hA⟩ : ∃ A : ByteArray, (⟨pre.toArray⟩ : ByteArray) = A := ⟨_, rfl⟩
  obtain ⟨B, hB⟩ : ∃ A : ByteArray, (⟨suf.toArray⟩ : ByteArray) = A := ⟨_, rfl⟩
  obtain ⟨D, hD⟩ : ∃ D : ByteArray, (⟨(dig6 n).toArray⟩ : ByteArray) = D := ⟨_, rfl⟩
  have hx : S.extract 1 7 = D := by rw [← hS, ← hD]; rfl
  rw [hS] at HI
  have hA0 : A.size ≤ 64 := by rw [← hA, ba_size]; exact hp
  have hB0 : B.size ≤ 64 := by rw [← hB, ba_size]; exact hs
  have hD0 : D.size = 6 := by rw [← hD]; rfl
  have hAD : (A ++ D).size = A.size + 6 := by rw [ByteArray.size_append, hD0]
  have HR : Hid (A ++ D ++ B = ⟨(nameB6 pre n suf).toArray⟩) := Lib.hid (by
    rw [← hA, ← hD, ← hB]
    unfold nameB6
    apply ByteArray.ext
    simp)
  clear hi ht hS hD hp hs
  rw [hA, hB]
  clear hA hB
  go_enter Tryz.func128, Tryz.ntmps128
  go_wp2_with (go_at_call 119; refine (HI _ HT.out).mono ?_; rintro r w1 ⟨rfl, k, os, rfl⟩)
  go_ret
  rw [HR.out]
  exact ⟨rfl, fr_grow _ _ _⟩
set_option maxRecDepth 100000 in
set_option maxHeartbeats 1000000 in
theorem mfile_any (n : Nat) (w : World) (ht : TabW w) (hn : n < 1000000) :
    Calls Tryz.prog 84 #[.int .i64 n] w fun r w' => r = .returned (.string ⟨(nameM n).toArray⟩) ∧ fr w w' := by
  have HN := Lib.hid (mnamed_any [109] sufW n w ht (by decide) (by decide) hn)
  obtain ⟨X, hX⟩ : ∃ X : ByteArray, (⟨(nameM n).toArray⟩ : ByteArray) = X := ⟨_, rfl⟩
  rw [show nameB6 [109] n sufW = nameM n from rfl, hX] at HN
  rw [hX]
  clear hX
  go_enter Tryz.func84, Tryz.ntmps84
  go_wp2_with (go_at_call 128; refine HN.out.mono ?_; rintro r w1 ⟨rfl, f1⟩)
  go_ret
  exact ⟨rfl, f1⟩
set_option maxRecDepth 100000 in
set_option maxHeartbeats 1000000 in
theorem mname_any (n : Nat) (w : World) (ht : TabW w) (hn : 1 ≤ n ∧ n ≤ 999999) :
    Calls Tryz.prog 75 #[.int .i64 n] w fun r w' => r = .returned (.string ⟨(nameT n).toArray⟩) ∧ fr w w' := by
  have HN := Lib.hid (mnamed_any [116] tblW n w ht (by decide) (by decide) (by omega))
  obtain ⟨X, hX⟩ : ∃ X : ByteArray, (⟨(nameT n).toArray⟩ : ByteArray) = X := ⟨_, rfl⟩
  rw [show nameB6 [116] n tblW = nameT n from rfl, hX] at HN
  rw [hX]
  clear hX
  have h1 : decide ((n : Int) < 1) = false := decide_eq_false (by omega)
  have h2 : decide ((999999 : Int) < (n : Int)) = false := decide_eq_false (by omega)
  go_enter Tryz.func75, Tryz.ntmps75
  go_wp2_with (go_at_call 128; refine HN.out.mono ?_; rintro r w1 ⟨rfl, f1⟩)
  go_ret
  exact ⟨rfl, f1⟩
end Go.Proofs.YtjnolpfmchnnmaaGreatDoor
end
section
namespace Go.Proofs.YtjnolpfmchnnmaaGreatDoor
set_option maxRecDepth 100000
open Go.RowKit Go.BigFrame
section
variable {P : Program} {ops : Array Oper} {md : Region.Mode} {C : World → Prop}
def wpAnyQL (P : Program) (md : Region.Mode) (ops : Array Oper) (C : World → Prop) (n : Nat) (L : Array Bool → Act → Prop) : Nat → Array Bool → Act → Prop
  | 0, listed, a => L listed a
  | f + 1, listed, a =>
    Region.ready md ops listed ≠ [] ∧ ∀ i ∈ Region.ready md ops listed, i < n ∧ qOp P ops C i (wpAnyQL P md ops C n L f (listed.setIfInBounds i true)) a
theorem wpAny_of_headQ {n g : Nat} {L : Array Bool → Act → Prop} {Q' : Exit → Act → World → Prop} (hL : ∀ listed a w, C w → L listed a → wpAny P md ops Q' g listed a w) :
    ∀ (f : Nat) (listed : Array Bool) (a : Act) (w : World), C w → wpAnyQL P md ops C n L f listed a → wpAny P md ops Q' (f + g) listed a w
  | 0, listed, a, w, hw, h => by rw [Nat.zero_add]; exact hL _ _ _ hw h
  | f + 1, listed, a, w, hw, h => by
    rw [show f + 1 + g = (f + g) + 1 by omega]
    exact ⟨fun h0 => absurd h0 h.1, fun i hi => wpOp_of_qOp hw (fun a' w' hw' h' => wpAny_of_headQ hL f _ a' w' hw' h') (h.2 i hi).2⟩
theorem wpAnyQL_first {n i : Nat} {oi : Oper} {v : Value} {L : Array Bool → Act → Prop} (hi : ops[i]? = some oi) (hsel : ∀ (j : Nat) (o : Oper) cs b, ops[j]? = some o → o.op ≠ .select cs b)
    (hs : Region.sinkB md ops n = true) (hc : Region.chainB md ops n = true) (hn : n < ops.size) (hin : i < n)
    (hdone : ∀ listed a, L listed a → ∀ j ∈ Region.ready md ops listed, n ≤ j) :
    ∀ (f : Nat) (listed : Array Bool) (a : Act), HeadInv md ops n listed →
      (∀ j oj, ops[j]? = some oj → j ≠ i → listed.getD j true = false → (∀ e ∈ oj.after, Region.binds md e = true → e.on ≠ i) → oi.apart ops oj = true) →
      i ∈ Region.ready md ops listed → YieldsIn P ops C oi v a →
      wpAnyQL P md ops C n L f (listed.setIfInBounds i true) (a.put oi.dst v) → wpAnyQL P md ops C n L (f + 1) listed a := by
  intro f
  induction f with
  | zero =>
    intro listed a inv _ hr hy H
    have hun := (mem_ready.1 hr).1
    refine ⟨fun h => (by rw [h] at hr; cases hr), fun j hj => ?_⟩
    have hjn : j < n := by
      rcases Nat.lt_or_ge j n with h | h
      · exact h
      · exact absurd hj (tail_waits hs hc hn inv _ i rfl hin hun j h)
    refine ⟨hjn, ?_⟩
    by_cases hji : j = i
    · subst hji; exact hy.qOp hi H
    · have := hdone _ _ H j (ready_mono hj hji)
      omega
  | succ f ih =>
    intro listed a inv hfree hr hy H
    have hun := (mem_ready.1 hr).1
    refine ⟨fun h => (by rw [h] at hr; cases hr), fun j hj => ?_⟩
    have hjn : j < n := by
      rcases Nat.lt_or_ge j n with h | h
      · exact h
      · exact absurd hj (tail_waits hs hc hn inv _ i rfl hin hun j h)
    refine ⟨hjn, ?_⟩
    by_cases hji : j = i
    · subst hji; exact hy.qOp hi H
    · have h1 := (H.2 j (ready_mono hj hji)).2
      obtain ⟨hjun, oj, hoj, hall⟩ := mem_ready.1 hj
      have hnot : ∀ e ∈ oj.after, Region.binds md e = true → e.on ≠ i := fun e he hb heq => by
        have h1 := hall e he hb
        rw [heq, getD_both hun] at h1
        cases h1
      have h2 := qOp_put hoj (hfree j oj hoj hji hjun hnot) (fun cs b => hsel i oi cs b hi) (fun cs b => hsel j oj cs b hoj) hy h1
      have hfree' : ∀ k ok, ops[k]? = some ok → k ≠ i → (listed.setIfInBounds j true).getD k true = false →
          (∀ e ∈ ok.after, Region.binds md e = true → e.on ≠ i) → oi.apart ops ok = true := fun k ok hk hki hun hno => by
        refine hfree k ok hk hki ?_ hno
        by_cases hjk : j = k
        · subst hjk; exact hjun
        · rw [getD_set_ne true hjk] at hun; exact hun
      refine qOp_mono (fun a' h3 => ih (listed.setIfInBounds j true) a' (inv.set hj hjn) hfree' (ready_mono hr (Ne.symm hji)) h3.1 ?_) h2
      rw [Array.setIfInBounds_comm _ _ hji]
      exact h3.2
theorem wpAnyQL_lex {n g : Nat} {Lq : Act → Prop} (hsel : Region.noSelect ops = true) (hs : Region.sinkB md ops n = true) (hc : Region.chainB md ops n = true) (hn : n < ops.size) :
    ∀ (l : List Oper) (k : Nat) (listed : Array Bool) (a : Act), (∀ j, j < l.length → l[j]? = ops[k + j]?) → k + l.length = n → HeadInv md ops n listed →
    Region.lexHead md ops g l.length k listed = true → wpQuiet P ops C Lq l a →
    wpAnyQL P md ops C n (fun listed' a' => Region.seqB md ops g n listed' = true ∧ Lq a') l.length listed a
  | [], k, listed, a, _, hk, _, hB, h => by
    have : k = n := by simpa using hk
    subst this
    exact ⟨by simpa [Region.lexHead] using hB, h⟩
  | o :: l, k, listed, a, hl, hk, inv, hB, h => by
    have h0 : ops[k]? = some o := by simpa using (hl 0 (by simp)).symm
    simp only [List.length_cons, Region.lexHead, Bool.and_eq_true] at hB
    obtain ⟨⟨hr, hf⟩, hB'⟩ := hB
    have hkn : k < n := by simp only [List.length_cons] at hk; omega
    have hr' : k ∈ Region.ready md ops listed := by simpa using hr
    have hst : qOp P ops C k (wpQuiet P ops C Lq l) a := by unfold qOp; simp only [h0]; exact h
    obtain ⟨v, hy, hK⟩ := yieldsIn_of_qOp h0 hst
    exact wpAnyQL_first h0 (Region.noSelect_spec hsel) hs hc hn hkn (fun listed' a' hL => seqB_ready hL.1) l.length listed a inv (Region.free_spec h0 hf) hr' hy
      (wpAnyQL_lex hsel hs hc hn l (k + 1) _ _ (fun j hj => by have := hl (j + 1) (by simp; omega); simpa [Nat.add_assoc, Nat.add_comm 1 j] using this) (by simp only [List.length_cons] at hk; omega) (inv.set hr' hkn) hB' hK)
theorem wp_region_quiet_tail {id : Nat} {Q : Exit → Act → World → Prop} {a : Act} {w : World} {l : List Oper} (n : Nat) (hm : P.follows .mixedOrders = true) (hB : Region.lexTailB .any l.toArray n = true) (hC : C { w with drawn := w.drawn + 1 })
    (h : wpQuiet P l.toArray C (fun a' => ∀ w', C w' → wpList P l.toArray Q (l.drop n) a' w') (l.take n) a) : (Code.region id l.toArray true).wp P Q a w := by
  simp only [Region.lexTailB, Bool.and_eq_true, decide_eq_true_eq] at hB
  obtain ⟨⟨⟨⟨hsel, hn⟩, hs⟩, hc⟩, hlex⟩ := hB
  have hn' : n < l.length := by simpa using hn
  have htl : (l.take n).length = n := by simp; omega
  have hdl : (l.drop n).length = l.toArray.size - n := by simp
  have inv0 : HeadInv .any l.toArray n (Array.replicate l.toArray.size false) :=
    ⟨by simp, fun j oj _ hl => (by rw [getD_replicate_false] at hl; cases hl), fun t _ ht => getD_in (by simpa using ht) (getD_replicate_false _ _)⟩
  have H := wpAnyQL_lex (md := .any) (g := l.toArray.size - n) hsel hs hc hn (l.take n) 0 _ a (fun j hj => by
    have hj' : j < n := by rw [htl] at hj; exact hj
    simp [hj']) (by simpa using htl) inv0 (by rw [htl]; exact hlex) h
  refine wp_region_any hm ?_
  have := wpAny_of_headQ (Q' := Q) (g := l.toArray.size - n) (fun listed a' w' hw' hL => by
    have := wpAny_of_seq (md := .any) (Q' := Q) (l.drop n) n listed a' w' (fun j => by simp [List.getElem?_drop]) (by rw [hdl]; exact hL.1) (hL.2 w' hw')
    rwa [hdl] at this) _ _ _ _ hC H
  rw [htl, show n + (l.toArray.size - n) = l.toArray.size by omega] at this
  exact this
theorem wp_region_ext_tail {id : Nat} {Q : Exit → Act → World → Prop} {a : Act} {w : World} {l : List Oper} (n : Nat) (hm : P.follows .mixedOrders = true) (hB : Region.lexTailB .any l.toArray n = true)
    (h : wpQuiet P l.toArray (fun w' => ∃ p : Ext w, w' = p.w) (fun a' => ∀ w', (∃ p : Ext w, w' = p.w) → wpList P l.toArray Q (l.drop n) a' w') (l.take n) a) : (Code.region id l.toArray true).wp P Q a w :=
  wp_region_quiet_tail (C := fun w' => ∃ p : Ext w, w' = p.w) n hm hB ⟨⟨w.drew, fr.refl.drew⟩, rfl⟩ h
def Region.backB (md : Region.Mode) (ops : Array Oper) (n : Nat) : Bool :=
  (List.range ops.size).all fun t => decide (t ≤ n) || (List.range t).any fun j => decide (n ≤ j) && Region.waitsFor md ops t j
theorem tail_waits2 {n : Nat} {listed : Array Bool} (hs : Region.sinkB md ops n = true) (hc : Region.backB md ops n = true) (_hn : n < ops.size) (inv : HeadInv md ops n listed) :
    ∀ (d i : Nat), n - i = d → i < n → listed.getD i true = false → ∀ t, n ≤ t → t ∉ Region.ready md ops listed := by
  intro d
  induction d using Nat.strongRecOn with
  | _ d ih =>
    intro i hd hi hun t ht hr
    obtain ⟨_, ot, hot, hall⟩ := mem_ready.1 hr
    have htlt : t < ops.size := (Array.getElem?_eq_some_iff.1 hot).1
    by_cases htn : t = n
    · subst htn
      have h1 := List.all_eq_true.1 hs i (List.mem_range.2 hi)
      obtain ⟨j, hj, hj2⟩ := List.any_eq_true.1 h1
      simp only [Bool.and_eq_true, decide_eq_true_eq] at hj2
      obtain ⟨oj, hoj, e, he, hb, hon⟩ := Region.waitsFor_spec hj2.2
      have hjle : j ≤ t := by have := List.mem_range.1 hj; omega
      by_cases hjt : j = t
      · subst hjt
        have : oj = ot := Option.some.inj (hoj.symm.trans hot)
        subst this
        have h2 := hall e he hb
        rw [hon, getD_both hun] at h2
        cases h2
      · cases hl : listed.getD j false with
        | true =>
          have h2 := inv.closed j oj hoj hl e he hb
          rw [hon, getD_both hun] at h2
          cases h2
        | false =>
          have hjs : j < listed.size := by rw [inv.size]; omega
          exact ih (t - j) (by omega) j rfl (by omega) (getD_in hjs hl) t (Nat.le_refl _) hr
    · have h1 := List.all_eq_true.1 hc t (List.mem_range.2 htlt)
      simp only [Bool.or_eq_true, decide_eq_true_eq] at h1
      rcases h1 with h1 | h1
      · omega
      · obtain ⟨j, hj, hj2⟩ := List.any_eq_true.1 h1
        simp only [Bool.and_eq_true, decide_eq_true_eq] at hj2
        have hjt : j < t := List.mem_range.1 hj
        obtain ⟨o', ho', e, he, hb, hon⟩ := Region.waitsFor_spec hj2.2
        have : o' = ot := Option.some.inj (ho'.symm.trans hot)
        subst this
        have h2 := hall e he hb
        rw [hon, getD_both (inv.tail j hj2.1 (by omega))] at h2
        cases h2
theorem wpAnyQM_first {n i : Nat} {oi : Oper} {v : Value} {L : Array Bool → Act → Prop} (hi : ops[i]? = some oi) (hsel : ∀ (j : Nat) (o : Oper) cs b, ops[j]? = some o → o.op ≠ .select cs b)
    (hs : Region.sinkB md ops n = true) (hc : Region.backB md ops n = true) (hn : n < ops.size) (hin : i < n)
    (hdone : ∀ listed a, L listed a → ∀ j ∈ Region.ready md ops listed, n ≤ j) :
    ∀ (f : Nat) (listed : Array Bool) (a : Act), HeadInv md ops n listed →
      (∀ j oj, ops[j]? = some oj → j ≠ i → listed.getD j true = false → (∀ e ∈ oj.after, Region.binds md e = true → e.on ≠ i) → oi.apart ops oj = true) →
      i ∈ Region.ready md ops listed → YieldsIn P ops C oi v a →
      wpAnyQL P md ops C n L f (listed.setIfInBounds i true) (a.put oi.dst v) → wpAnyQL P md ops C n L (f + 1) listed a := by
  intro f
  induction f with
  | zero =>
    intro listed a inv _ hr hy H
    have hun := (mem_ready.1 hr).1
    refine ⟨fun h => (by rw [h] at hr; cases hr), fun j hj => ?_⟩
    have hjn : j < n := by
      rcases Nat.lt_or_ge j n with h | h
      · exact h
      · exact absurd hj (tail_waits2 hs hc hn inv _ i rfl hin hun j h)
    refine ⟨hjn, ?_⟩
    by_cases hji : j = i
    · subst hji; exact hy.qOp hi H
    · have := hdone _ _ H j (ready_mono hj hji)
      omega
  | succ f ih =>
    intro listed a inv hfree hr hy H
    have hun := (mem_ready.1 hr).1
    refine ⟨fun h => (by rw [h] at hr; cases hr), fun j hj => ?_⟩
    have hjn : j < n := by
      rcases Nat.lt_or_ge j n with h | h
      · exact h
      · exact absurd hj (tail_waits2 hs hc hn inv _ i rfl hin hun j h)
    refine ⟨hjn, ?_⟩
    by_cases hji : j = i
    · subst hji; exact hy.qOp hi H
    · have h1 := (H.2 j (ready_mono hj hji)).2
      obtain ⟨hjun, oj, hoj, hall⟩ := mem_ready.1 hj
      have hnot : ∀ e ∈ oj.after, Region.binds md e = true → e.on ≠ i := fun e he hb heq => by
        have h1 := hall e he hb
        rw [heq, getD_both hun] at h1
        cases h1
      have h2 := qOp_put hoj (hfree j oj hoj hji hjun hnot) (fun cs b => hsel i oi cs b hi) (fun cs b => hsel j oj cs b hoj) hy h1
      have hfree' : ∀ k ok, ops[k]? = some ok → k ≠ i → (listed.setIfInBounds j true).getD k true = false →
          (∀ e ∈ ok.after, Region.binds md e = true → e.on ≠ i) → oi.apart ops ok = true := fun k ok hk hki hun hno => by
        refine hfree k ok hk hki ?_ hno
        by_cases hjk : j = k
        · subst hjk; exact hjun
        · rw [getD_set_ne true hjk] at hun; exact hun
      refine qOp_mono (fun a' h3 => ih (listed.setIfInBounds j true) a' (inv.set hj hjn) hfree' (ready_mono hr (Ne.symm hji)) h3.1 ?_) h2
      rw [Array.setIfInBounds_comm _ _ hji]
      exact h3.2
def Region.midHead (md : Region.Mode) (ops : Array Oper) (g : Nat) : Nat → Nat → Array Bool → Bool
  | 0, k, listed => decide (Region.ready md ops listed = [k]) && Region.lexFrom md ops g (k + 1) (listed.setIfInBounds k true)
  | f + 1, k, listed => (Region.ready md ops listed).contains k && Region.free md ops listed k && Region.midHead md ops g f (k + 1) (listed.setIfInBounds k true)
def Region.lexMidB (md : Region.Mode) (ops : Array Oper) (n : Nat) : Bool :=
  Region.noSelect ops && decide (n < ops.size) && Region.sinkB md ops n && Region.backB md ops n && Region.midHead md ops (ops.size - n - 1) n 0 (Array.replicate ops.size false)
theorem wpAnyQM_lex {n g : Nat} {Lq : Act → Prop} (hsel : Region.noSelect ops = true) (hs : Region.sinkB md ops n = true) (hc : Region.backB md ops n = true) (hn : n < ops.size) :
    ∀ (l : List Oper) (k : Nat) (listed : Array Bool) (a : Act), (∀ j, j < l.length → l[j]? = ops[k + j]?) → k + l.length = n → HeadInv md ops n listed →
    Region.midHead md ops g l.length k listed = true → wpQuiet P ops C Lq l a →
    wpAnyQL P md ops C n (fun listed' a' => (Region.ready md ops listed' = [n] ∧ Region.lexFrom md ops g (n + 1) (listed'.setIfInBounds n true) = true) ∧ Lq a') l.length listed a
  | [], k, listed, a, _, hk, _, hB, h => by
    have : k = n := by simpa using hk
    subst this
    simp only [List.length_nil, Region.midHead, Bool.and_eq_true, decide_eq_true_eq] at hB
    exact ⟨hB, h⟩
  | o :: l, k, listed, a, hl, hk, inv, hB, h => by
    have h0 : ops[k]? = some o := by simpa using (hl 0 (by simp)).symm
    simp only [List.length_cons, Region.midHead, Bool.and_eq_true] at hB
    obtain ⟨⟨hr, hf⟩, hB'⟩ := hB
    have hkn : k < n := by simp only [List.length_cons] at hk; omega
    have hr' : k ∈ Region.ready md ops listed := by simpa using hr
    have hst : qOp P ops C k (wpQuiet P ops C Lq l) a := by unfold qOp; simp only [h0]; exact h
    obtain ⟨v, hy, hK⟩ := yieldsIn_of_qOp h0 hst
    exact wpAnyQM_first h0 (Region.noSelect_spec hsel) hs hc hn hkn (fun listed' a' hL j hj => Nat.le_of_eq (by rw [hL.1.1] at hj; exact (List.mem_singleton.1 hj).symm)) l.length listed a inv (Region.free_spec h0 hf) hr' hy
      (wpAnyQM_lex hsel hs hc hn l (k + 1) _ _ (fun j hj => by have := hl (j + 1) (by simp; omega); simpa [Nat.add_assoc, Nat.add_comm 1 j] using this) (by simp only [List.length_cons] at hk; omega) (inv.set hr' hkn) hB' hK)
theorem wpOp_of_one {n : Nat} {o : Oper} {mid : Act → World → Prop} {Q' : Exit → Act → World → Prop} {a : Act} {w : World} (h0 : ops[n]? = some o)
    (h : wpList P ops (fun e a w => e = .normal ∧ mid a w) [o] a w) : wpOp P ops Q' n mid a w := by
  unfold wpList at h
  unfold wpOp
  simp only [h0]
  split
  · rename_i hw
    rw [if_pos hw] at h
    rcases h with h | ⟨_, a1, w1, h, _⟩
    · refine .inl ?_
      unfold Oper.wp at *
      generalize (execOp a.eval o).run P w = r at *
      cases r with
      | ok n w' =>
        cases n <;> simp only [Oper.upon] at h ⊢ <;>
          first
            | exact h.2
            | exact Calls.mono h (fun e w'' he => by cases e <;> first | exact he.2 | exact absurd he.1 (by simp) | (obtain ⟨_, _, h, _⟩ := he; exact absurd h (by simp)))
            | exact _root_.Go.Rows.mono h (fun _ _ he => he.2)
      | halt x w' => cases x <;> simp only [Oper.upon] at h ⊢ <;> first | exact h | exact absurd h.1 (by simp)
    · cases h
  · rename_i hw
    rw [if_neg hw] at h
    exact h.2
theorem wp_region_quiet_mid {id : Nat} {Q : Exit → Act → World → Prop} {a : Act} {w : World} {l : List Oper} (n : Nat) (hm : P.follows .mixedOrders = true) (hB : Region.lexMidB .any l.toArray n = true) (hC : C { w with drawn := w.drawn + 1 })
    (h : wpQuiet P l.toArray C (fun a' => ∀ w', C w' → ∀ Q2 : Exit → Act → World → Prop, (∀ a2 w2, wpQuiet P l.toArray (fun x => x = w2) (fun a3 => Q .normal a3 w2) (l.drop (n + 1)) a2 → Q2 .normal a2 w2) → wpList P l.toArray Q2 ((l.drop n).take 1) a' w') (l.take n) a) : (Code.region id l.toArray true).wp P Q a w := by
  simp only [Region.lexMidB, Bool.and_eq_true, decide_eq_true_eq] at hB
  obtain ⟨⟨⟨⟨hsel, hn⟩, hs⟩, hc⟩, hlex⟩ := hB
  have hn' : n < l.length := by simpa using hn
  have htl : (l.take n).length = n := by simp; omega
  have hdl : (l.drop (n + 1)).length = l.toArray.size - n - 1 := by simp; omega
  have inv0 : HeadInv .any l.toArray n (Array.replicate l.toArray.size false) :=
    ⟨by simp, fun j oj _ hl => (by rw [getD_replicate_false] at hl; cases hl), fun t _ ht => getD_in (by simpa using ht) (getD_replicate_false _ _)⟩
  have H := wpAnyQM_lex (md := .any) (g := l.toArray.size - n - 1) hsel hs hc hn (l.take n) 0 _ a (fun j hj => by
    have hj' : j < n := by rw [htl] at hj; exact hj
    simp [hj']) (by simpa using htl) inv0 (by rw [htl]; exact hlex) h
  refine wp_region_any hm ?_
  have := wpAny_of_headQ (Q' := Q) (g := l.toArray.size - n - 1 + 1) (fun listed a' w' hw' hL => by
    refine ⟨fun h0 => (by rw [hL.1.1] at h0; cases h0), fun i hi => ?_⟩
    rw [hL.1.1] at hi
    obtain rfl : i = n := by simpa using hi
    have ho : l.toArray[i]? = some l[i] := by simp [hn']
    have e1 : (l.drop i).take 1 = [l[i]] := by rw [List.drop_eq_getElem_cons hn']; rfl
    have h1 := hL.2 w' hw' (fun e a2 w2 => e = .normal ∧ wpQuiet P l.toArray (fun x => x = w2) (fun a3 => Q .normal a3 w2) (l.drop (i + 1)) a2) (fun a2 w2 h => ⟨rfl, h⟩)
    rw [e1] at h1
    refine wpOp_mono (fun a2 w2 h2 => ?_) (wpOp_of_one (Q' := Q) ho h1)
    have h3 := wpAnyQ_lex (md := .any) hsel (l.drop (i + 1)) (i + 1) (listed.setIfInBounds i true) a2 (fun j => by simp [List.getElem?_drop]) (by rw [hdl]; exact hL.1.2) h2
    rw [hdl] at h3
    exact wpAny_of_quiet (C := fun x => x = w2) (Q := fun a3 => Q .normal a3 w2) (fun a3 w3 hw3 h => by rw [hw3]; exact h) _ _ _ _ rfl h3) _ _ _ _ hC H
  rw [htl, show n + (l.toArray.size - n - 1 + 1) = l.toArray.size by omega] at this
  exact this
theorem wp_region_ext_mid {id : Nat} {Q : Exit → Act → World → Prop} {a : Act} {w : World} {l : List Oper} (n : Nat) (hm : P.follows .mixedOrders = true) (hB : Region.lexMidB .any l.toArray n = true)
    (h : wpQuiet P l.toArray (fun w' => ∃ p : Ext w, w' = p.w) (fun a' => ∀ w', (∃ p : Ext w, w' = p.w) → ∀ Q2 : Exit → Act → World → Prop, (∀ a2 w2, wpQuiet P l.toArray (fun x => x = w2) (fun a3 => Q .normal a3 w2) (l.drop (n + 1)) a2 → Q2 .normal a2 w2) → wpList P l.toArray Q2 ((l.drop n).take 1) a' w') (l.take n) a) : (Code.region id l.toArray true).wp P Q a w :=
  wp_region_quiet_mid (C := fun w' => ∃ p : Ext w, w' = p.w) n hm hB ⟨⟨w.drew, fr.refl.drew⟩, rfl⟩ h
end
end Go.Proofs.YtjnolpfmchnnmaaGreatDoor
end
section
namespace Go.Proofs.YtjnolpfmchnnmaaGreatDoor
set_option maxRecDepth 100000
open Go.RowKit Go.BigFrame Go.Sort Go.Shelf Go.Lib
attribute [local go_sem ↓] Go.wp_at_zero Go.wp_at_succ
section
variable {w w' : World} {F : Nat → Prop} {L p : Nat} {pre : Nm} {size N b : Nat} {k : Pk}
end
theorem nameW_len (pre : Nm) (n : Nat) : (nameW pre n).length = pre.length + 10 := by
  unfold nameW
  rw [List.length_append, List.length_append]
  rfl
end Go.Proofs.YtjnolpfmchnnmaaGreatDoor
end
section
namespace Go.Proofs.YtjnolpfmchnnmaaGreatDoor
set_option maxRecDepth 100000
open Go.RowKit Go.BigFrame
attribute [local go_sem ↓] Go.wp_at_zero Go.wp_at_succ
attribute [local go_sem] Oper.semAt_some
set_option maxRecDepth 100000 in
set_option maxHeartbeats 4000000 in
theorem frames_tells (nn : Nat) (w : World) (B Bw b o n c : Nat) (S0 : Nat → Prop) (rs : List (List UInt8)) (hK : PairsK w B Bw b o n c S0 (frB rs)) (hSw : ¬ S0 Bw) (hS0 : ∀ i, S0 i → i < w.heap.size) (hn : (frB rs).length = n) (hn40 : n ≤ 1099511627776) (hrs : ∀ p ∈ rs, p.length ≤ 2097152) :
    Tells Fence.wide nn Tryz.prog 191 #[.pointer (some ⟨B, 0, none⟩), .pointer (some ⟨B + 1, 0, none⟩)] (fun x : FrE => #[.int .i64 x.1, x.2.1]) (fun pre T x A => OkF w.heap.size T x A ∧ pre.length < rs.length)
      (fun xs W' => xs.map (fun x => x.2.2) = rs ∧ Boxed W' Bw 31 (.int .i64 12)) (fun _ _ => True) (fun i => i < w.heap.size ∧ (i = B ∨ i = B + 1 ∨ i = Bw ∨ S0 i)) (fun i => i = Bw) w := by
  intro l J Jx T0 W hW hT0 hJ hJx hJT hY h0
  refine callsIn_wide.2 ?_
  have HJ := Lib.hid hJ
  have HJX := Lib.hid hJx
  have HJT := Lib.hid hJT
  have HY := Lib.hid hY
  have HRS := Lib.hid hrs
  have HN := Lib.hid hn
  have HT0 := Lib.hid hT0
  have HSW := Lib.hid hSw
  have HS0 := Lib.hid hS0
  have HWZ := Lib.hid hW.size
  have HB1 := Lib.hid (show B < w.heap.size ∧ B + 1 < w.heap.size ∧ Bw < w.heap.size from ⟨hK.b1.lt, hK.b2.lt, hK.b3.lt⟩)
  have HK0 := Lib.hid (hK.fr hW)
  obtain ⟨bs, hbs⟩ : ∃ bs, frB rs = bs := ⟨_, rfl⟩
  rw [hbs] at HN HK0
  have HBS := Lib.hid hbs
  have HJ0 := Lib.hid h0
  clear hJ hJx hJT hY hrs hn hT0 hSw hS0 hW hK hbs h0
  go_enter Tryz.func191, Tryz.ntmps191
  go_wp2
  go_loopw [4] (fun y wr => ∃ (pre : List FrE) (T : Nat → Prop) (r2 : List (List UInt8)) (k : Nat), y = .int .i64 k ∧ k ≤ n ∧ bs.drop k = frB r2 ∧ pre.map (fun x => x.2.2) ++ r2 = rs ∧ PairsK wr B Bw b o n c S0 bs ∧
    (∀ i, T i → ¬ (i < w.heap.size ∧ (i = B ∨ i = B + 1 ∨ i = Bw ∨ S0 i))) ∧ W.heap.size ≤ wr.heap.size ∧ J pre T wr) (fun y _ => n - (intOf y).toNat)
  case atStart => exact ⟨[], T0, rs, 0, rfl, Nat.zero_le _, HBS.out.symm, rfl, HK0.out, HT0.out, Nat.le_refl _, HJ0.out⟩
  case round =>
    clear HJ0 HT0 HK0
    obtain ⟨pre, T, r2, k, rfl, hk, hdr, hps, hK, hT, hz, hj⟩ := hrel
    have HK := Lib.hid hK
    have HT := Lib.hid hT
    have HZ := Lib.hid hz
    have HJR := Lib.hid hj
    have HPS := Lib.hid hps
    have c1 := hK.b1.cell
    obtain ⟨w0, hw0⟩ : ∃ x, x = wr := ⟨_, rfl⟩
    subst hw0
    have HR := Lib.hid (fread_some S0 b o n c k bs w0 hK.byt hk HN.out)
    have HDR := Lib.hid hdr
    clear hK hT hz hj hps hdr
    cases r2 with
    | nil =>
      have HF : Hid (readF (bs.drop k) = ([], 0, 12)) := Lib.hid (by rw [HDR.out]; rfl)
      go_wp2_with (go_at_call 192; refine HR.out.mono ?_; rintro r w1 ⟨v1, p1, q1, e1, hre, rfl, hv1, f1⟩; rw [HF.out] at hre; injection hre with hr1 hr2; injection hr2 with hr2 hr3; subst hr1 hr2 hr3; have k2 := (HK.out.fr f1).b2.cell; have k3 := (HK.out.fr f1).b3.cell; have z3 := (HK.out.fr f1).b3.frozen)
      refine bodyPost_ret (results_none rfl _ _ _) rfl ?_
      refine ⟨⟨_, rfl⟩, .inl ⟨pre, T, ⟨by simpa using HPS.out, (HK.out.fr f1).b3.set _⟩, HJ.out pre T _ _ HJR.out (Idle.of_only (Only.trans (Only.of_below f1) (only_set w1 Bw 0 _)))⟩⟩
    | cons p r2 =>
      have hpl : p.length ≤ 2097152 := HRS.out p (by rw [← HPS.out]; simp)
      have HF : Hid (readF (bs.drop k) = (p, 8 + p.length, 0)) := Lib.hid (by rw [HDR.out, frB_cons]; exact readF_put p _ hpl)
      have hkn : k + (8 + p.length) ≤ n := by
        have := congrArg List.length HDR.out
        rw [List.length_drop, HN.out, frB_cons, List.length_append, putF_len] at this
        omega
      have HMN : Hid (pre.length < rs.length) := Lib.hid (by rw [← HPS.out]; simp)
      obtain ⟨q, hq⟩ : ∃ q, k + (8 + p.length) = q := ⟨_, rfl⟩
      have HQ := Lib.hid hq
      go_upto_region 3 with (go_at_call 192; refine HR.out.mono ?_; rintro r w1 ⟨v1, p1, q1, e1, hre, rfl, hv1, f1⟩; rw [HF.out] at hre; injection hre with hr1 hr2; injection hr2 with hr2 hr3; subst hr1 hr2 hr3; have k2 := (HK.out.fr f1).b2.cell; have k3 := (HK.out.fr f1).b3.cell; have z3 := (HK.out.fr f1).b3.frozen; rw [HQ.out])
      have hO2 : Only (fun i => i = Bw) w0 (w1.setCell ⟨Bw, 0, none⟩ (.int .i64 0)) := Only.trans (Only.of_below f1) (only_set w1 Bw 0 _)
      have hK2 := (HK.out.fr f1).why HSW.out
      have hL2 : Byt (w1.setCell ⟨Bw, 0, none⟩ (.int .i64 0)) (fun i => w0.heap.size ≤ i ∧ Loose (w1.setCell ⟨Bw, 0, none⟩ (.int .i64 0)) i) v1 p := Byt.looseOnly (R := fun i => w0.heap.size ≤ i) hv1 (only_set w1 Bw 0 _) fun i hi e => by
        have h1 := HB1.out.2.2
        have h2 := HWZ.out
        have h3 := HZ.out
        omega
      generalize w1.setCell ⟨Bw, 0, none⟩ (.int .i64 0) = w2 at hO2 hK2 hL2 ⊢
      have HO2 := Lib.hid hO2
      have HK2 := Lib.hid hK2
      have hlo : w.heap.size ≤ w0.heap.size := Nat.le_trans HWZ.out HZ.out
      have h0T : ∀ i, T i → i < w0.heap.size := fun i hi => HJT.out pre T w0 i HJR.out hi
      have HOK : Hid (OkF w.heap.size T (q, v1, p) w2) := Lib.hid (Byt.mono (S := fun i => w0.heap.size ≤ i ∧ Loose w2 i) hL2 fun i hi => ⟨⟨by omega, fun h => by have := h0T i h; omega⟩, hi.2⟩)
      have HJ2 : Hid (J pre T w2) := Lib.hid (HJ.out pre T w0 w2 HJR.out (Idle.of_only HO2.out))
      have H0T := Lib.hid h0T
      have HLO := Lib.hid hlo
      have HPL := Lib.hid hpl
      have hkq : k < q := by omega
      have hqn : q ≤ n := by omega
      have HFIN : Hid (∀ (w6 : World) (T' : Nat → Prop), Grew w2.heap.size T T' → Only T w2 w6 → J (pre ++ [(q, v1, p)]) T' w6 →
          ∃ (pre : List FrE) (T : Nat → Prop) (r2 : List (List UInt8)) (k : Nat), Value.int .i64 (q : Int) = .int .i64 k ∧ k ≤ n ∧ bs.drop k = frB r2 ∧ pre.map (fun x => x.2.2) ++ r2 = rs ∧ PairsK w6 B Bw b o n c S0 bs ∧
            (∀ i, T i → ¬ (i < w.heap.size ∧ (i = B ∨ i = B + 1 ∨ i = Bw ∨ S0 i))) ∧ W.heap.size ≤ w6.heap.size ∧ J pre T w6) := Lib.hid fun w6 T' g5 o5 hj6 => by
        have hz2 := HO2.out.size
        have hz6 := o5.size
        refine ⟨_, T', r2, q, rfl, hqn, ?_, ?_, ?_, ?_, by have := HZ.out; omega, hj6⟩
        · rw [← HQ.out, ← List.drop_drop, HDR.out, frB_cons, List.drop_left' (by rw [putF_len]; omega)]
        · rw [← HPS.out, List.map_append, List.append_assoc]; rfl
        · exact HK2.out.only o5 fun i h h' => HT.out i h ⟨by rcases h' with h' | h' | h' | h' <;> (have := HB1.out; first | omega | exact HS0.out i h'), h'⟩
        · intro i h h'
          rcases g5 i h with h | h
          · exact HT.out i h h'
          · omega
      clear hq hkn hlo h0T hO2 hK2 hL2 k2 k3 z3 hv1 f1 hpl hk HF HR c1
      obtain ⟨fn, tmps, assign, body, hy, hR⟩ := HY.out pre T (q, v1, p) w2 HJ2.out ⟨HOK.out, HMN.out⟩
      dsimp only at hy
      refine (wpIn_wide (n := nn)).1 ?_
      gi_wp2_with (fail)
      refine ⟨fun h => absurd h (by decide), hR.mono ?_⟩
      rintro e w6 ⟨T', gT, oT, (⟨rfl, hj6⟩ | ⟨rfl, hj6⟩)⟩
      · have HFI := Lib.hid (HFIN.out w6 T' gT oT hj6)
        clear hy hR
        gi_wp2
        go_wp2
        refine ⟨HFI.out, by simp [intOf]; omega⟩
      · have HJX6 := Lib.hid hj6
        clear hy hR hj6
        gi_wp2
        go_wp2
        refine bodyPost_ret (results_none rfl _ _ _) rfl ?_
        exact ⟨⟨_, rfl⟩, .inr ⟨_, T', trivial, HJX6.out⟩⟩
end Go.Proofs.YtjnolpfmchnnmaaGreatDoor
end
