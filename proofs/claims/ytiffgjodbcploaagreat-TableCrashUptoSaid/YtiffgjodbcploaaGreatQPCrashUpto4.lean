/-
entry.Ordered and usanceref10.Ordered.
-/
import Derived.Test.YtiffgjodbcploaaGreatQPCrashUpto3
import Derived.Deep.RegionHeld3
import Derived.Deep.DrawnRows
import Derived.StillTactics
import Derived.Laws.Pointers
import Derived.Deep.RegionWith
import Derived.Deep.RegionLaw
import Derived.OwnWalk
import Derived.Laws.Rows
import Derived.StillTailTactics
import Derived.BigQuiet
section
namespace Go.Proofs.YtiffgjodbcploaaGreat
set_option maxRecDepth 100000
open Go.RowKit
attribute [local go_sem ↓] Go.wp_at_zero Go.wp_at_succ
/-- an entry by value -/
def EntV (w : World) (S : Nat → Prop) (v : Value) (e : Ent) : Prop :=
  ∃ k u, v = .agg #[k, .int .i64 e.seq, .bool e.dead, u] ∧ Byt w S k e.key ∧ Byt w S u e.val
theorem EntV.below {w w' : World} {S : Nat → Prop} {v : Value} {e : Ent} (h : EntV w S v e) (hb : Below w.heap.size w w') : EntV w' S v e := by
  obtain ⟨k, u, rfl, h1, h2⟩ := h
  exact ⟨k, u, rfl, h1.below hb, h2.below hb⟩
theorem EntV.mono {w : World} {S S' : Nat → Prop} {v : Value} {e : Ent} (h : EntV w S v e) (hS : ∀ i, S i → S' i) : EntV w S' v e := by
  obtain ⟨k, u, rfl, h1, h2⟩ := h
  exact ⟨k, u, rfl, h1.mono hS, h2.mono hS⟩
set_option maxHeartbeats 2000000 in
theorem good_raw (A A' : Option Addr) (n c m c' : Nat) (seq : Int) (dead : Bool) (w : World) (hn : n ≤ 140737488355328) (hm : m ≤ 140737488355328) :
    Calls Tryz.prog 50 #[.agg #[.slice A n c, .int .i64 seq, .bool dead, .slice A' m c']] w fun r w' => r = .returned (.bool (goodR n seq dead m)) ∧ w' = w.alloc (.cells #[.slice A n c, .int .i64 seq, .bool dead, .slice A' m c'] 48) := by
  rcases (by omega : n = 0 ∨ 200 < n ∨ (0 < n ∧ n ≤ 200)) with h1 | h1 | ⟨h1, h1'⟩
  · subst h1
    rw [goodR_f (by omega)]
    go_enter Tryz.func50, Tryz.ntmps50
    go_wp2
    go_ret
    exact ⟨rfl, rfl⟩
  · rw [goodR_f (by omega)]
    go_enter Tryz.func50, Tryz.ntmps50
    go_wp2
    go_ret
    exact ⟨rfl, rfl⟩
  · rcases (by omega : seq ≤ 0 ∨ 1099511627776 < seq ∨ (0 < seq ∧ seq ≤ 1099511627776)) with h2 | h2 | ⟨h2, h2'⟩
    · rw [goodR_f (by omega)]
      go_enter Tryz.func50, Tryz.ntmps50
      go_wp2
      go_ret
      exact ⟨rfl, rfl⟩
    · rw [goodR_f (by omega)]
      go_enter Tryz.func50, Tryz.ntmps50
      go_wp2
      go_ret
      exact ⟨rfl, rfl⟩
    · rcases (by omega : 4096 < m ∨ m ≤ 4096) with h3 | h3
      · rw [goodR_f (by omega)]
        go_enter Tryz.func50, Tryz.ntmps50
        go_wp2
        go_ret
        exact ⟨rfl, rfl⟩
      · cases dead
        · rw [goodR_t.2 ⟨h1, h1', h2, h2', h3, by simp⟩]
          go_enter Tryz.func50, Tryz.ntmps50
          go_wp2
          go_ret
          exact ⟨rfl, rfl⟩
        · rcases (by omega : m = 0 ∨ 0 < m) with h4 | h4
          · subst h4
            rw [goodR_t.2 ⟨h1, h1', h2, h2', h3, by simp⟩]
            go_enter Tryz.func50, Tryz.ntmps50
            go_wp2
            go_ret
            exact ⟨rfl, rfl⟩
          · rw [goodR_f (by simp; omega)]
            go_enter Tryz.func50, Tryz.ntmps50
            go_wp2
            go_ret
            exact ⟨rfl, rfl⟩
theorem good_any (S : Nat → Prop) (v : Value) (e : Ent) (w : World) (hv : EntV w S v e) :
    Calls Tryz.prog 50 #[v] w fun r w' => r = .returned (.bool (goodE e)) ∧ Below w.heap.size w w' := by
  obtain ⟨k, u, rfl, h1, h2⟩ := hv
  obtain ⟨A, c, rfl, _, _, hl1, _⟩ := h1
  obtain ⟨A', c', rfl, _, _, hl2, _⟩ := h2
  exact (good_raw A A' _ c _ c' e.seq e.dead w hl1 hl2).mono fun r w' ⟨h, h'⟩ => ⟨h, h' ▸ (Below.refl _ _).alloc (Nat.le_refl _) _⟩
set_option maxHeartbeats 2000000 in
theorem rgood_raw (A A' : Option Addr) (n c m c' : Nat) (seq : Int) (dead : Bool) (w : World) (hn : n ≤ 140737488355328) (hm : m ≤ 140737488355328) :
    Calls Tryz.prog 36 #[.agg #[.slice A n c, .int .i64 seq, .bool dead, .slice A' m c']] w fun r w' => r = .returned (.bool (goodR n seq dead m)) ∧ w' = w.alloc (.cells #[.slice A n c, .int .i64 seq, .bool dead, .slice A' m c'] 48) := by
  rcases (by omega : n = 0 ∨ 200 < n ∨ (0 < n ∧ n ≤ 200)) with h1 | h1 | ⟨h1, h1'⟩
  · subst h1
    rw [goodR_f (by omega)]
    go_enter Tryz.func36, Tryz.ntmps36
    go_wp2
    go_ret
    exact ⟨rfl, rfl⟩
  · rw [goodR_f (by omega)]
    go_enter Tryz.func36, Tryz.ntmps36
    go_wp2
    go_ret
    exact ⟨rfl, rfl⟩
  · rcases (by omega : seq ≤ 0 ∨ 1099511627776 < seq ∨ (0 < seq ∧ seq ≤ 1099511627776)) with h2 | h2 | ⟨h2, h2'⟩
    · rw [goodR_f (by omega)]
      go_enter Tryz.func36, Tryz.ntmps36
      go_wp2
      go_ret
      exact ⟨rfl, rfl⟩
    · rw [goodR_f (by omega)]
      go_enter Tryz.func36, Tryz.ntmps36
      go_wp2
      go_ret
      exact ⟨rfl, rfl⟩
    · rcases (by omega : 4096 < m ∨ m ≤ 4096) with h3 | h3
      · rw [goodR_f (by omega)]
        go_enter Tryz.func36, Tryz.ntmps36
        go_wp2
        go_ret
        exact ⟨rfl, rfl⟩
      · cases dead
        · rw [goodR_t.2 ⟨h1, h1', h2, h2', h3, by simp⟩]
          go_enter Tryz.func36, Tryz.ntmps36
          go_wp2
          go_ret
          exact ⟨rfl, rfl⟩
        · rcases (by omega : m = 0 ∨ 0 < m) with h4 | h4
          · subst h4
            rw [goodR_t.2 ⟨h1, h1', h2, h2', h3, by simp⟩]
            go_enter Tryz.func36, Tryz.ntmps36
            go_wp2
            go_ret
            exact ⟨rfl, rfl⟩
          · rw [goodR_f (by simp; omega)]
            have hm0 : ((m : Int) == 0) = false := by simp; omega
            go_enter Tryz.func36, Tryz.ntmps36
            go_wp2
            go_ret
            exact ⟨rfl, rfl⟩
theorem rgood_any (S : Nat → Prop) (v : Value) (e : Ent) (w : World) (hv : EntV w S v e) :
    Calls Tryz.prog 36 #[v] w fun r w' => r = .returned (.bool (goodE e)) ∧ Below w.heap.size w w' := by
  obtain ⟨k, u, rfl, h1, h2⟩ := hv
  obtain ⟨A, c, rfl, _, _, hl1, _⟩ := h1
  obtain ⟨A', c', rfl, _, _, hl2, _⟩ := h2
  exact (rgood_raw A A' _ c _ c' e.seq e.dead w hl1 hl2).mono fun r w' ⟨h, h'⟩ => ⟨h, h' ▸ (Below.refl _ _).alloc (Nat.le_refl _) _⟩
end Go.Proofs.YtiffgjodbcploaaGreat
end
section
namespace Go.Proofs.YtiffgjodbcploaaGreat
set_option maxRecDepth 100000
open Go.RowKit
attribute [local go_sem ↓] Go.wp_at_zero Go.wp_at_succ
theorem cmpc_any (x y : Int) (w : World) : Calls Tryz.prog 82 #[.int .i64 x, .int .i64 y] w fun e w' => e = .returned (.int .i64 (cmpI x y)) ∧ w = w' :=
  (Tryz.cmp_Compare_int x y w).mono fun _ _ ⟨h, h'⟩ => ⟨by rw [h, compareInt_eq], h'.symm⟩
set_option maxRecDepth 100000 in
set_option maxHeartbeats 4000000 in
theorem compare_any (S S' : Nat → Prop) (v v' : Value) (a b : Ent) (w : World) (hv : EntV w S v a) (hv' : EntV w S' v' b) :
    Calls Tryz.prog 51 #[v, v'] w fun r w' => r = .returned (.int .i64 (cmpE a b)) ∧ Below w.heap.size w w' := by
  obtain ⟨k1, u1, rfl, h1, _⟩ := hv
  obtain ⟨k2, u2, rfl, h2, _⟩ := hv'
  have hA : Below w.heap.size w ((w.alloc (.cells #[k1, .int .i64 a.seq, .bool a.dead, u1] 48)).alloc (.cells #[k2, .int .i64 b.seq, .bool b.dead, u2] 48)) := ((Below.refl _ _).alloc (Nat.le_refl _) _).alloc (by simp) _
  have HA := Lib.hid hA
  have H1 := Lib.hid (h1.below hA)
  have H2 := Lib.hid (h2.below hA)
  clear hA h1 h2
  go_enter Tryz.func51, Tryz.ntmps51
  go_wp2
  go_region_held3 (fun w' => w'.cell? ⟨w.heap.size, 0, none⟩ = some k1 ∧ w'.cell? ⟨w.heap.size, 1, none⟩ = some (.int .i64 a.seq) ∧ w'.cell? ⟨w.heap.size + 1, 0, none⟩ = some k2 ∧ w'.cell? ⟨w.heap.size + 1, 1, none⟩ = some (.int .i64 b.seq)) (go_keep)
    (first
      | (go_at_call 60; refine (bcompare_any S S' _ _ a.key b.key _ (by exact H1.out) (by exact H2.out)).mono ?_; rintro r w' ⟨rfl, rfl⟩)
      | (go_at_call 82; refine (cmpc_any _ _ _).mono ?_; rintro r w' ⟨rfl, rfl⟩)
      | (go_at_call 81; refine (or2_any (cmpB a.key b.key) (cmpI b.seq a.seq) _ _ ?_ ?_).mono ?_; (simp [go_sem]); (simp [go_sem]); rintro r w' ⟨rfl, rfl⟩))
  all_goals go_wp2
  go_ret
  refine ⟨rfl, ?_⟩
  have h1 := HA.out
  exact (h1.alloc h1.size _).drew
end Go.Proofs.YtiffgjodbcploaaGreat
end
section
namespace Go.Proofs.YtiffgjodbcploaaGreat
set_option maxRecDepth 100000
open Go.RowKit
attribute [local go_sem ↓] Go.wp_at_zero Go.wp_at_succ
set_option maxRecDepth 100000 in
set_option maxHeartbeats 2000000 in
theorem rcmp_any (S S' : Nat → Prop) (v v' : Value) (a b : Ent) (w : World) (hv : EntV w S v a) (hv' : EntV w S' v' b) :
    Calls Tryz.prog 37 #[v, v'] w fun r w' => r = .returned (.int .i64 (cmpE a b)) ∧ Below w.heap.size w w' := by
  obtain ⟨k1, u1, rfl, h1, _⟩ := hv
  obtain ⟨k2, u2, rfl, h2, _⟩ := hv'
  have hA : Below w.heap.size w ((w.alloc (.cells #[k1, .int .i64 a.seq, .bool a.dead, u1] 48)).alloc (.cells #[k2, .int .i64 b.seq, .bool b.dead, u2] 48)) := ((Below.refl _ _).alloc (Nat.le_refl _) _).alloc (by simp) _
  have HA := Lib.hid hA
  have c1 := (h1.below hA).convert
  have c2 := (h2.below hA).convert
  have l1 := h1.len
  have l2 := h2.len
  clear h1 h2
  clear hA
  have cases_ : (cmpB a.key b.key = 0 ∧ b.seq < a.seq) ∨ (cmpB a.key b.key = 0 ∧ a.seq < b.seq) ∨ (cmpB a.key b.key = 0 ∧ a.seq = b.seq) ∨ ¬ cmpB a.key b.key = 0 := by omega
  rcases cases_ with ⟨e1, e2⟩ | ⟨e1, e2⟩ | ⟨e1, e2⟩ | e1
  · have hres : cmpE a b = -1 := by unfold cmpE cmpI; rw [if_pos e1, if_pos e2]
    rw [hres]
    have e1' : (cmpB a.key b.key == 0) = true := by rw [e1]; rfl
    clear hres e1
    go_enter Tryz.func37, Tryz.ntmps37
    go_wp2_with (go_at_call 65; refine (less_any a.key b.key _ l1 l2).mono ?_; rintro r w' ⟨rfl, q, rfl⟩)
    go_ret
    exact ⟨rfl, below_drewN HA.out _⟩
  · have hres : cmpE a b = 1 := by unfold cmpE cmpI; rw [if_pos e1, if_neg (by omega), if_pos e2]
    rw [hres]
    have e1' : (cmpB a.key b.key == 0) = true := by rw [e1]; rfl
    clear hres e1
    go_enter Tryz.func37, Tryz.ntmps37
    go_wp2_with (go_at_call 65; refine (less_any a.key b.key _ l1 l2).mono ?_; rintro r w' ⟨rfl, q, rfl⟩)
    go_ret
    exact ⟨rfl, below_drewN HA.out _⟩
  · have hres : cmpE a b = cmpB a.key b.key := by unfold cmpE cmpI; rw [if_pos e1, e2, if_neg (by omega), if_neg (by omega), e1]
    rw [hres]
    have e3 : ¬ b.seq < a.seq := by omega
    have e4 : ¬ a.seq < b.seq := by omega
    have e1' : (cmpB a.key b.key == 0) = true := by rw [e1]; rfl
    clear hres e1 e2
    go_enter Tryz.func37, Tryz.ntmps37
    go_wp2_with (go_at_call 65; refine (less_any a.key b.key _ l1 l2).mono ?_; rintro r w' ⟨rfl, q, rfl⟩)
    go_ret
    exact ⟨rfl, below_drewN HA.out _⟩
  · have hres : cmpE a b = cmpB a.key b.key := by unfold cmpE; rw [if_neg e1]
    rw [hres]
    have e1' : (cmpB a.key b.key == 0) = false := by simpa using e1
    clear hres e1
    go_enter Tryz.func37, Tryz.ntmps37
    go_wp2_with (go_at_call 65; refine (less_any a.key b.key _ l1 l2).mono ?_; rintro r w' ⟨rfl, q, rfl⟩)
    go_ret
    exact ⟨rfl, below_drewN HA.out _⟩
theorem ent_ne {a b : Ent} (h : ¬ (a.key = b.key ∧ a.seq = b.seq ∧ a.dead = b.dead ∧ a.val = b.val)) : false = decide (a = b) := by
  rw [decide_eq_false]
  rintro rfl
  exact h ⟨rfl, rfl, rfl, rfl⟩
set_option maxRecDepth 100000 in
set_option maxHeartbeats 2000000 in
theorem sameone_any (S S' : Nat → Prop) (v v' : Value) (a b : Ent) (w : World) (hv : EntV w S v a) (hv' : EntV w S' v' b) :
    Calls Tryz.prog 22 #[v, v'] w fun r w' => r = .returned (.bool (decide (a = b))) ∧ Below w.heap.size w w' := by
  obtain ⟨k1, u1, rfl, h1, g1⟩ := hv
  obtain ⟨k2, u2, rfl, h2, g2⟩ := hv'
  have hA : Below w.heap.size w ((w.alloc (.cells #[k1, .int .i64 a.seq, .bool a.dead, u1] 48)).alloc (.cells #[k2, .int .i64 b.seq, .bool b.dead, u2] 48)) := ((Below.refl _ _).alloc (Nat.le_refl _) _).alloc (by simp) _
  have c1 := (h1.below hA).convert
  have c2 := (h2.below hA).convert
  have d1 := (g1.below hA).convert
  have d2 := (g2.below hA).convert
  have HA := Lib.hid hA
  clear hA h1 h2 g1 g2
  by_cases e1 : a.key = b.key
  · by_cases e2 : a.seq = b.seq
    · by_cases e3 : a.dead = b.dead
      · by_cases e4 : a.val = b.val
        · have e : a = b := by cases a; cases b; simp_all
          subst e
          clear e1 e2 e3 e4
          go_enter Tryz.func22, Tryz.ntmps22
          go_wp2
          go_ret
          exact ⟨ret_bool (by simp), HA.out⟩
        · rw [← ent_ne (fun h => e4 h.2.2.2)]
          rcases a with ⟨ak, as', ad, av⟩
          rcases b with ⟨bk, bs', bd, bv⟩
          simp only at e1 e2 e3 e4 c1 c2 d1 d2 HA ⊢
          subst e1 e2 e3
          go_enter Tryz.func22, Tryz.ntmps22
          go_wp2
          go_ret
          exact ⟨ret_bool (by simpa using e4), HA.out⟩
      · rw [← ent_ne (fun h => e3 h.2.2.1)]
        rcases a with ⟨ak, as', ad, av⟩
        rcases b with ⟨bk, bs', bd, bv⟩
        simp only at e1 e2 e3 c1 c2 d1 d2 HA ⊢
        subst e1 e2
        have e3' : (ad == bd) = false := by simpa using e3
        clear e3
        go_enter Tryz.func22, Tryz.ntmps22
        go_wp2
        go_ret
        exact ⟨rfl, HA.out⟩
    · rw [← ent_ne (fun h => e2 h.2.1)]
      rcases a with ⟨ak, as', ad, av⟩
      rcases b with ⟨bk, bs', bd, bv⟩
      simp only at e1 e2 c1 c2 d1 d2 HA ⊢
      subst e1
      have e2' : (as' == bs') = false := by simpa using e2
      clear e2
      go_enter Tryz.func22, Tryz.ntmps22
      go_wp2
      go_ret
      exact ⟨rfl, HA.out⟩
  · rw [← ent_ne (fun h => e1 h.1)]
    go_enter Tryz.func22, Tryz.ntmps22
    go_wp2
    go_ret
    exact ⟨rfl, HA.out⟩
end Go.Proofs.YtiffgjodbcploaaGreat
end
section
namespace Go.Proofs.YtiffgjodbcploaaGreat
set_option maxRecDepth 100000
open Go.RowKit
attribute [local go_sem ↓] Go.wp_at_zero Go.wp_at_succ
end Go.Proofs.YtiffgjodbcploaaGreat
end
section
namespace Go.Proofs.YtiffgjodbcploaaGreat
set_option maxRecDepth 100000
open Go.RowKit
theorem EntV.only {w w' : World} {T S : Nat → Prop} {v : Value} {e : Ent} (h : EntV w T v e) (ho : Only S w w') (hd : ∀ i, i < w.heap.size → T i → ¬ S i) : EntV w' T v e := by
  obtain ⟨k, u, rfl, h1, h2⟩ := h
  exact ⟨k, u, rfl, h1.only ho hd, h2.only ho hd⟩
end Go.Proofs.YtiffgjodbcploaaGreat
end
section
namespace Go.Proofs.YtiffgjodbcploaaGreat
set_option maxRecDepth 100000
open Go.RowKit
attribute [local go_sem ↓] Go.wp_at_zero Go.wp_at_succ
/-- a new block of four cells under one more: what its cells hold later. -/
theorem box4 {w w' : World} {a b c d : Value} {t : TypeId} {o : Obj} (hb : Below (w.heap.size + 2) ((w.alloc (.cells #[a, b, c, d] t)).alloc o) w') :
    (w'.cell? ⟨w.heap.size, 0, none⟩ = some a ∧ w'.cell? ⟨w.heap.size, 1, none⟩ = some b ∧ w'.cell? ⟨w.heap.size, 2, none⟩ = some c ∧ w'.cell? ⟨w.heap.size, 3, none⟩ = some d) ∧ (∀ i, w'.frozen? ⟨w.heap.size, i, none⟩ = false) := by
  refine ⟨⟨?_, ?_, ?_, ?_⟩, fun i => ?_⟩
  iterate 4 (rw [hb.cell (by simp), World.cell?_alloc_lt _ _ _ (by simp), World.cell?_alloc_at _ _ _ _ rfl]; rfl)
  rw [hb.frozen (by simp), World.frozen?_alloc_past _ _ _ (by simp), World.frozen?_alloc_at _ _ _ _ rfl]
theorem box4' {w w' : World} {a b c d : Value} {t : TypeId} {o : Obj} (hb : Below (w.heap.size + 2) ((w.alloc o).alloc (.cells #[a, b, c, d] t)) w') :
    (w'.cell? ⟨w.heap.size + 1, 0, none⟩ = some a ∧ w'.cell? ⟨w.heap.size + 1, 1, none⟩ = some b ∧ w'.cell? ⟨w.heap.size + 1, 2, none⟩ = some c ∧ w'.cell? ⟨w.heap.size + 1, 3, none⟩ = some d) ∧ (∀ i, w'.frozen? ⟨w.heap.size + 1, i, none⟩ = false) := by
  refine ⟨⟨?_, ?_, ?_, ?_⟩, fun i => ?_⟩
  iterate 4 (rw [hb.cell (by simp), World.cell?_alloc_at _ _ _ _ (by simp)]; rfl)
  rw [hb.frozen (by simp), World.frozen?_alloc_at _ _ _ _ (by simp)]
end Go.Proofs.YtiffgjodbcploaaGreat
end
section
namespace Go.Proofs.YtiffgjodbcploaaGreat
set_option maxRecDepth 100000
open Go.RowKit
attribute [local go_sem ↓] Go.wp_at_zero Go.wp_at_succ
/-- append onto a []byte literal without an element: new memory. -/
theorem run_append_byt0 (w : World) (ty : TypeId) (g : Nat) (src : Value) (S : Nat → Prop) (bs : List UInt8) (h : Byt w S src bs) :
    ∃ v' w', (Builtin.append_ #[42, 42] ty #[.slice (some ⟨g, 0, none⟩) 0 0, src]).run Tryz.prog w = .ok v' w' ∧ Byt w' (fun i => w.heap.size ≤ i) v' bs ∧ Below w.heap.size w w' := by
  obtain ⟨i0, hi, hz0, hz1, hz2⟩ := info_parts info5
  have hl := h.len
  obtain ⟨A, c, rfl, h1, h2, h3, hr⟩ := h
  rcases Nat.eq_zero_or_pos bs.length with h0 | h0
  · have : bs = [] := List.eq_nil_of_length_eq_zero h0
    subst this
    refine ⟨.slice (some ⟨g, 0, none⟩) 0 0, w, ?_, ⟨_, _, rfl, by simp, by simp, by simp, Row.nil _ _ _ _⟩, Below.refl _ _⟩
    rcases A with _ | a
    · simp [Builtin.append_, run_underlying Tryz.underlying42, sizeOf, typeInfo, hi, Builtin.lenOf, Builtin.firstCells, storeCells]
    · simp [Builtin.append_, run_underlying Tryz.underlying42, sizeOf, typeInfo, hi, Builtin.lenOf, Builtin.firstCells, storeCells, loadCells, loadCellsFrom]
  · obtain ⟨b, o, rfl, _, _, hc⟩ := hr.2 h0
    have hrun := run_append_grow (P := Tryz.prog) w 42 ty 5 i0 (.int .u8 0) Tryz.underlying42 hi hz0 ⟨g, 0, none⟩ 0 0 [] (by simp) (fun j u hu => by simp at hu) ⟨b, o, none⟩ bs.length c (bs.map bcell) (by simp [hz1])
      (fun j u hu => by rw [Addr.add_lit]; exact hc j u hu) (by omega) (by omega) (growslice_fits (by omega) (by rw [hz2]; omega))
    have hge := grownCap_ge w (0 + bs.length) 0 5
    have hcm : grownCap w (0 + bs.length) 0 5 ≤ maxLen := grownCap_le_maxLen w (0 + bs.length) 0 5 (by unfold maxLen; omega)
    refine ⟨_, _, hrun, ?_, ((Below.refl w.heap.size w).drew).alloc (by simp) _⟩
    have e0 : 0 + bs.length = bs.length := by omega
    rw [e0] at hge hcm ⊢
    refine ⟨_, _, rfl, hge, by unfold maxLen at hcm; omega, hl, by simp, fun _ => ⟨w.heap.size, 0, rfl, Nat.le_refl _, by simp, fun j u hu => ?_⟩⟩
    rw [World.cell?_alloc_at _ _ _ _ (by simp)]
    have hj : j < bs.length := by
      have := (List.getElem?_eq_some_iff.1 hu).1
      simpa using this
    simp [Array.getElem?_append, hj]
    rw [List.getElem?_map, List.getElem?_eq_getElem hj] at hu
    simpa using hu
theorem step_append_byt0 {w : World} {ops : Array Oper} {o : Oper} {a : Act} {K : Act → World → Prop} {Q : Exit → Act → World → Prop} {E : Prop} (hgd : o.guard = none) (s x : Operand)
    (ho : o.op = .call { callee := .builtin .append, args := #[s, x], argTypes := #[42, 42] }) (g : Nat) (src : Value) (hs : a.eval s = .slice (some ⟨g, 0, none⟩) 0 0) (hx : a.eval x = src)
    (S : Nat → Prop) (bs : List UInt8) (h : Byt w S src bs)
    (hK : ∀ v' w', Byt w' (fun i => w.heap.size ≤ i) v' bs → Below w.heap.size w w' → K (a.put o.dst v') w') :
    if Region.wanted o (yielded ops a.tmps) = true then Oper.wp Tryz.prog o a w K Q else E := by
  have hw : Region.wanted o (yielded ops a.tmps) = true := by simp [Region.wanted, hgd]
  rw [if_pos hw]
  obtain ⟨v', w', hrun, h2, h3⟩ := run_append_byt0 w o.type g src S bs h
  unfold Oper.wp execOp
  simp only [ho, resolve, invoke, builtin, Sem.run_bind, Sem.run_pure, Result.andThen_ok, List.map_toArray, List.map_cons, List.map_nil, hs, hx, hrun]
  exact hK v' w' h2 h3
theorem one_end (w w2 : World) (e : Ent) (k u a b c d : Value) (hb : Below w.heap.size w w2) (hk : Byt w2 (fun i => w.heap.size + 2 ≤ i) k e.key) (hu : Byt w2 (fun i => w.heap.size + 2 ≤ i) u e.val) :
    ∃ v', Ending.returned (.agg #[k, .int .i64 e.seq, .bool e.dead, u]) = .returned v' ∧
      EntV ((((w2.setCell ⟨w.heap.size + 1, 0, none⟩ a).setCell ⟨w.heap.size + 1, 1, none⟩ b).setCell ⟨w.heap.size + 1, 2, none⟩ c).setCell ⟨w.heap.size + 1, 3, none⟩ d) (fun i => w.heap.size ≤ i) v' e ∧
      Below w.heap.size w ((((w2.setCell ⟨w.heap.size + 1, 0, none⟩ a).setCell ⟨w.heap.size + 1, 1, none⟩ b).setCell ⟨w.heap.size + 1, 2, none⟩ c).setCell ⟨w.heap.size + 1, 3, none⟩ d) := by
  have ho : Only (fun i => i = w.heap.size + 1 ∨ i = w.heap.size + 1) w2 ((((w2.setCell ⟨w.heap.size + 1, 0, none⟩ a).setCell ⟨w.heap.size + 1, 1, none⟩ b).setCell ⟨w.heap.size + 1, 2, none⟩ c).setCell ⟨w.heap.size + 1, 3, none⟩ d) :=
    ((((Only.refl _ w2).setCell (p := ⟨w.heap.size + 1, 0, none⟩) (.inl rfl) _).setCell (p := ⟨w.heap.size + 1, 1, none⟩) (.inl rfl) _).setCell (p := ⟨w.heap.size + 1, 2, none⟩) (.inl rfl) _).setCell (p := ⟨w.heap.size + 1, 3, none⟩) (.inl rfl) _
  exact ⟨_, rfl, ⟨k, u, rfl, (hk.only ho (fun i _ h => by omega)).mono (fun i hi => by omega), (hu.only ho (fun i _ h => by omega)).mono (fun i hi => by omega)⟩, hb.trans (ho.below hb.size (fun i h => by omega))⟩
theorem undrewR {B : Nat} {a w : World} (h : Below B a w.drew) : Below B a w := ⟨h.os, h.tape, h.output, h.size, h.block⟩
/-- the frame of a function that has boxed one entry and laid a block of four cells for its result: the box stands, the result's block is there. -/
structure frame1 (w : World) (c0 c1 c2 c3 : Value) (t : TypeId) (w' : World) : Prop where
  box : Below (w.heap.size + 1) (w.alloc (.cells #[c0, c1, c2, c3] t)) w'
  res : ∃ a b c d, w'.heap[w.heap.size + 1]? = some (.cells #[a, b, c, d] t (0, 0))
section
variable {w w' w2 : World} {c0 c1 c2 c3 : Value} {t : TypeId}
theorem frame1.start {a b c d : Value} : frame1 w c0 c1 c2 c3 t ((w.alloc (.cells #[c0, c1, c2, c3] t)).alloc (.cells #[a, b, c, d] t)) :=
  ⟨(Below.refl _ _).alloc (by simp) _, a, b, c, d, by simpa using heap_alloc_new (w.alloc (.cells #[c0, c1, c2, c3] t)) (.cells #[a, b, c, d] t)⟩
theorem frame1.lt (h : frame1 w c0 c1 c2 c3 t w') : w.heap.size + 1 < w'.heap.size := by
  obtain ⟨a, b, c, d, h⟩ := h.res
  exact (Array.getElem?_eq_some_iff.1 h).1
theorem frame1.drew (h : frame1 w c0 c1 c2 c3 t w') : frame1 w c0 c1 c2 c3 t w'.drew := ⟨h.box.drew, h.res⟩
theorem frame1.undrew (h : frame1 w c0 c1 c2 c3 t w'.drew) : frame1 w c0 c1 c2 c3 t w' := ⟨undrewR h.box, h.res⟩
theorem frame1.step (h : frame1 w c0 c1 c2 c3 t w') (hb : Below w'.heap.size w' w2) : frame1 w c0 c1 c2 c3 t w2 := by
  have hl := h.lt
  obtain ⟨a, b, c, d, hr⟩ := h.res
  exact ⟨h.box.trans (hb.mono (by omega)), a, b, c, d, by rw [hb.block _ hl]; exact hr⟩
theorem frame1.alloc (h : frame1 w c0 c1 c2 c3 t w') (o' : Obj) : frame1 w c0 c1 c2 c3 t (w'.alloc o') := h.step ((Below.refl _ _).alloc (Nat.le_refl _) _)
theorem frame1.setRes (h : frame1 w c0 c1 c2 c3 t w') (i : Nat) (v : Value) : frame1 w c0 c1 c2 c3 t (w'.setCell ⟨w.heap.size + 1, i, none⟩ v) := by
  obtain ⟨a, b, c, d, hr⟩ := h.res
  refine ⟨h.box.setCell (p := ⟨w.heap.size + 1, i, none⟩) (Nat.le_refl _) _, ?_⟩
  rw [heap_setCell_same w' (w.heap.size + 1) i #[a, b, c, d] t v hr]
  rcases (by omega : i = 0 ∨ i = 1 ∨ i = 2 ∨ i = 3 ∨ 4 ≤ i) with rfl | rfl | rfl | rfl | h4
  · exact ⟨v, b, c, d, rfl⟩
  · exact ⟨a, v, c, d, rfl⟩
  · exact ⟨a, b, v, d, rfl⟩
  · exact ⟨a, b, c, v, rfl⟩
  · exact ⟨a, b, c, d, by rw [Array.setIfInBounds_eq_of_size_le (by simpa using h4)]⟩
theorem frame1.cell (h : frame1 w c0 c1 c2 c3 t w') : w'.cell? ⟨w.heap.size, 0, none⟩ = some c0 ∧ w'.cell? ⟨w.heap.size, 1, none⟩ = some c1 ∧ w'.cell? ⟨w.heap.size, 2, none⟩ = some c2 ∧ w'.cell? ⟨w.heap.size, 3, none⟩ = some c3 := by
  refine ⟨?_, ?_, ?_, ?_⟩ <;> (rw [h.box.cell (by simp), World.cell?_alloc_at _ _ _ _ rfl]; rfl)
theorem frame1.below (h : frame1 w c0 c1 c2 c3 t w') : Below w.heap.size w w' := ((Below.refl w.heap.size w).alloc (Nat.le_refl _) _).trans (h.box.mono (by omega))
theorem frame1.byt (h : frame1 w c0 c1 c2 c3 t w') {S : Nat → Prop} {v : Value} {bs : List UInt8} (hv : Byt w S v bs) : Byt w' S v bs := hv.below h.below
theorem frame1.all (h : frame1 w c0 c1 c2 c3 t w') : w'.cell? ⟨w.heap.size, 0, none⟩ = some c0 ∧ w'.cell? ⟨w.heap.size, 1, none⟩ = some c1 ∧ w'.cell? ⟨w.heap.size, 2, none⟩ = some c2 ∧ w'.cell? ⟨w.heap.size, 3, none⟩ = some c3 ∧ frame1 w c0 c1 c2 c3 t w' :=
  ⟨h.cell.1, h.cell.2.1, h.cell.2.2.1, h.cell.2.2.2, h⟩
theorem frame1.resCells (h : frame1 w c0 c1 c2 c3 t w') : ∃ a b c d, w'.cell? ⟨w.heap.size + 1, 0, none⟩ = some a ∧ w'.cell? ⟨w.heap.size + 1, 1, none⟩ = some b ∧ w'.cell? ⟨w.heap.size + 1, 2, none⟩ = some c ∧ w'.cell? ⟨w.heap.size + 1, 3, none⟩ = some d ∧ ∀ i, w'.frozen? ⟨w.heap.size + 1, i, none⟩ = false := by
  obtain ⟨a, b, c, d, hr⟩ := h.res
  exact ⟨a, b, c, d, by rw [cell_of_row w' _ 0 _ t _ hr]; rfl, by rw [cell_of_row w' _ 1 _ t _ hr]; rfl, by rw [cell_of_row w' _ 2 _ t _ hr]; rfl, by rw [cell_of_row w' _ 3 _ t _ hr]; rfl, fun i => frozen_of_row w' _ i _ t hr⟩
end
set_option maxRecDepth 100000 in
set_option maxHeartbeats 4000000 in
theorem one_any (S : Nat → Prop) (v : Value) (e : Ent) (w : World) (hv : EntV w S v e) :
    Calls Tryz.prog 35 #[v] w fun r w' => ∃ v', r = .returned v' ∧ EntV w' (fun i => w.heap.size ≤ i) v' e ∧ Below w.heap.size w w' := by
  obtain ⟨k, u, rfl, h1, h2⟩ := hv
  have H1 := Lib.hid h1
  have H2 := Lib.hid h2
  obtain ⟨Ak, ck, rfl⟩ := slice_form h1
  obtain ⟨Au, cu, rfl⟩ := slice_form h2
  clear h1 h2
  go_enter Tryz.func35, Tryz.ntmps35
  go_wp2
  go_region_held3 (fun w' => w'.cell? ⟨w.heap.size, 0, none⟩ = some (.slice Ak e.key.length ck) ∧ w'.cell? ⟨w.heap.size, 1, none⟩ = some (.int .i64 e.seq) ∧ w'.cell? ⟨w.heap.size, 2, none⟩ = some (.bool e.dead) ∧ w'.cell? ⟨w.heap.size, 3, none⟩ = some (.slice Au e.val.length cu) ∧
      frame1 w (.slice Ak e.key.length ck) (.int .i64 e.seq) (.bool e.dead) (.slice Au e.val.length cu) 48 w')
    (first
      | with_reducible exact frame1.start.drew.all
      | with_reducible exact hf2.all
      | with_reducible exact hf1.all
      | with_reducible exact (frame1.alloc hf1 _).all
      | with_reducible exact (frame1.alloc hf2 _).all
      | with_reducible exact ((((hf2.setRes 0 _).setRes 1 _).setRes 2 _).setRes 3 _).all
      | with_reducible exact ((((hf1.setRes 0 _).setRes 1 _).setRes 2 _).setRes 3 _).all
      | (go_split_ands; with_reducible (refine (frame1.alloc (frame1.undrew ?_) _).drew.all); with_reducible assumption)
      | (go_split_ands; with_reducible (refine (frame1.alloc ?_ _).all); with_reducible assumption))
    (first
      | (go_split_ands; refine step_append_byt0 (by rfl) _ _ (by rfl) _ (.slice Ak e.key.length ck) (by rfl) (by rfl) S e.key ?_ ?_; (with_reducible exact frame1.byt (by with_reducible assumption) H1.out); intro k' w1 hk' hb1; obtain ⟨Ak', ck', rfl⟩ := slice_form hk'; have hf1 := frame1.step (by with_reducible assumption) hb1; obtain ⟨x0, x1, x2, x3, e0, e1, e2, e3, ef⟩ := hf1.resCells)
      | (go_split_ands; refine step_append_byt0 (by rfl) _ _ (by rfl) _ (.slice Au e.val.length cu) (by rfl) (by rfl) S e.val ?_ ?_; (with_reducible exact frame1.byt (by with_reducible assumption) H2.out); intro u' w2 hu' hb2; obtain ⟨Au', cu', rfl⟩ := slice_form hu'; have hf2 := frame1.step (by with_reducible assumption) hb2; obtain ⟨x0, x1, x2, x3, e0, e1, e2, e3, ef⟩ := hf2.resCells))
  all_goals
    first
      | (have hk2 := hk'.below hb2; have hu2 := hu'; have hf := hf2)
      | (have hk2 := (hk'.below ((Below.refl _ _).alloc (Nat.le_refl _) _)).below hb2; have hu2 := hu'; have hf := hf2)
      | (have hu2 := hu'.below hb1; have hk2 := hk'; have hf := hf1)
      | (have hu2 := (hu'.below ((Below.refl _ _).alloc (Nat.le_refl _) _)).below hb1; have hk2 := hk'; have hf := hf1)
    have hl1 := hf1.lt
    have hl2 := hf2.lt
    simp only [World.size_alloc, World.size_drew] at hk2 hu2
    go_wp2
    refine bodyPost_ret (v := .agg #[.slice Ak' e.key.length ck', .int .i64 e.seq, .bool e.dead, .slice Au' e.val.length cu']) (by simp [results, Tryz.results35, go_sem, e0, e1, e2, e3]) rfl ?_
    exact one_end w _ e _ _ _ _ _ _ hf.below (hk2.mono (fun i hi => by omega)) (hu2.mono (fun i hi => by omega))
end Go.Proofs.YtiffgjodbcploaaGreat
end
section
namespace Go.Proofs.YtiffgjodbcploaaGreat
set_option maxRecDepth 100000
open Go.RowKit
def EntCells (w : World) (S : Nat → Prop) : List Value → List Ent → Prop
  | [], [] => True
  | k :: s :: d :: u :: cs, e :: es => s = .int .i64 e.seq ∧ d = .bool e.dead ∧ Byt w S k e.key ∧ Byt w S u e.val ∧ EntCells w S cs es
  | _, _ => False
theorem EntCells.cons_inv {w : World} {S : Nat → Prop} {cs : List Value} {e : Ent} {es : List Ent} (h : EntCells w S cs (e :: es)) :
    ∃ k u cs', cs = k :: .int .i64 e.seq :: .bool e.dead :: u :: cs' ∧ Byt w S k e.key ∧ Byt w S u e.val ∧ EntCells w S cs' es := by
  match cs, h with
  | k :: s :: d :: u :: cs', h =>
    obtain ⟨rfl, rfl, h1, h2, h3⟩ := h
    exact ⟨k, u, cs', rfl, h1, h2, h3⟩
theorem EntCells.nil_inv {w : World} {S : Nat → Prop} {cs : List Value} (h : EntCells w S cs []) : cs = [] := by
  cases cs with
  | nil => rfl
  | cons x l => simp [EntCells] at h
theorem EntCells.len {w : World} {S : Nat → Prop} {cs : List Value} {es : List Ent} (h : EntCells w S cs es) : cs.length = es.length * 4 := by
  induction es generalizing cs with
  | nil => rw [h.nil_inv]; rfl
  | cons e es ih =>
    obtain ⟨k, u, cs', rfl, _, _, h3⟩ := h.cons_inv
    simp [ih h3]; omega
theorem EntCells.append {w : World} {S : Nat → Prop} {cs cs' : List Value} {es es' : List Ent} (h : EntCells w S cs es) (h' : EntCells w S cs' es') : EntCells w S (cs ++ cs') (es ++ es') := by
  induction es generalizing cs with
  | nil => rw [h.nil_inv]; exact h'
  | cons e es ih =>
    obtain ⟨k, u, cs1, rfl, h1, h2, h3⟩ := h.cons_inv
    exact ⟨rfl, rfl, h1, h2, ih h3⟩
theorem EntCells.one {w : World} {S : Nat → Prop} {k u : Value} {e : Ent} (h1 : Byt w S k e.key) (h2 : Byt w S u e.val) : EntCells w S [k, .int .i64 e.seq, .bool e.dead, u] [e] := ⟨rfl, rfl, h1, h2, trivial⟩
theorem EntCells.imp {w w' : World} {S S' : Nat → Prop} {cs : List Value} {es : List Ent} (h : EntCells w S cs es) (hi : ∀ v bs, Byt w S v bs → Byt w' S' v bs) : EntCells w' S' cs es := by
  induction es generalizing cs with
  | nil => rw [h.nil_inv]; trivial
  | cons e es ih =>
    obtain ⟨k, u, cs1, rfl, h1, h2, h3⟩ := h.cons_inv
    exact ⟨rfl, rfl, hi _ _ h1, hi _ _ h2, ih h3⟩
theorem EntCells.below {w w' : World} {S : Nat → Prop} {cs : List Value} {es : List Ent} (h : EntCells w S cs es) (hb : Below w.heap.size w w') : EntCells w' S cs es := h.imp fun _ _ h => h.below hb
theorem EntCells.only {w w' : World} {T S : Nat → Prop} {cs : List Value} {es : List Ent} (h : EntCells w T cs es) (ho : Only S w w') (hd : ∀ i, i < w.heap.size → T i → ¬ S i) : EntCells w' T cs es := h.imp fun _ _ h => h.only ho hd
theorem EntCells.mono {w : World} {S S' : Nat → Prop} {cs : List Value} {es : List Ent} (h : EntCells w S cs es) (hS : ∀ i, S i → S' i) : EntCells w S' cs es := h.imp fun _ _ h => h.mono hS
theorem EntCells.at_ {w : World} {S : Nat → Prop} {cs : List Value} {es : List Ent} (h : EntCells w S cs es) {i : Nat} {e : Ent} (hi : es[i]? = some e) :
    ∃ k u, cs[4 * i]? = some k ∧ cs[4 * i + 1]? = some (.int .i64 e.seq) ∧ cs[4 * i + 2]? = some (.bool e.dead) ∧ cs[4 * i + 3]? = some u ∧ Byt w S k e.key ∧ Byt w S u e.val := by
  induction es generalizing cs i with
  | nil => simp at hi
  | cons e' es ih =>
    obtain ⟨k, u, cs1, rfl, h1, h2, h3⟩ := h.cons_inv
    cases i with
    | zero =>
      simp at hi
      subst hi
      exact ⟨k, u, rfl, rfl, rfl, rfl, h1, h2⟩
    | succ i =>
      obtain ⟨k', u', a1, a2, a3, a4, a5, a6⟩ := ih h3 (i := i) (by simpa using hi)
      refine ⟨k', u', ?_, ?_, ?_, ?_, a5, a6⟩
      · rw [show 4 * (i + 1) = 4 * i + 4 from by omega]; simpa using a1
      · rw [show 4 * (i + 1) + 1 = (4 * i + 1) + 4 from by omega]; simpa using a2
      · rw [show 4 * (i + 1) + 2 = (4 * i + 2) + 4 from by omega]; simpa using a3
      · rw [show 4 * (i + 1) + 3 = (4 * i + 3) + 4 from by omega]; simpa using a4
theorem EntCells.drop {w : World} {S : Nat → Prop} {cs : List Value} {es : List Ent} (h : EntCells w S cs es) (i : Nat) : EntCells w S (cs.drop (i * 4)) (es.drop i) := by
  induction i generalizing cs es with
  | zero => simpa using h
  | succ i ih =>
    cases es with
    | nil => rw [h.nil_inv]; simp [EntCells]
    | cons e es =>
      obtain ⟨k, u, cs1, rfl, h1, h2, h3⟩ := h.cons_inv
      rw [show (i + 1) * 4 = i * 4 + 4 from by omega]
      simpa using ih h3
theorem EntCells.take {w : World} {S : Nat → Prop} {cs : List Value} {es : List Ent} (h : EntCells w S cs es) (i : Nat) : EntCells w S (cs.take (i * 4)) (es.take i) := by
  induction i generalizing cs es with
  | zero => simp [EntCells]
  | succ i ih =>
    cases es with
    | nil => rw [h.nil_inv]; simp [EntCells]
    | cons e es =>
      obtain ⟨k, u, cs1, rfl, h1, h2, h3⟩ := h.cons_inv
      rw [show (i + 1) * 4 = i * 4 + 4 from by omega]
      simpa [EntCells] using ⟨h1, h2, ih h3⟩
/-- a slice value of entries. -/
def Ents (w : World) (S : Nat → Prop) (v : Value) (es : List Ent) : Prop :=
  ∃ A c cs, v = .slice A es.length c ∧ es.length ≤ c ∧ c ≤ 9223372036854775807 ∧ es.length * 64 ≤ 140737488355328 ∧ Row w S A es.length 4 cs ∧ EntCells w S cs es
theorem Ents.nil (w : World) (S : Nat → Prop) : Ents w S (.slice none 0 0) [] := ⟨none, 0, [], rfl, by simp, by simp, by simp, Row.nil _ _ _ _, trivial⟩
theorem Ents.below {w w' : World} {S : Nat → Prop} {v : Value} {es : List Ent} (h : Ents w S v es) (hb : Below w.heap.size w w') : Ents w' S v es := by
  obtain ⟨A, c, cs, e, h1, h2, h3, h4, h5⟩ := h
  exact ⟨A, c, cs, e, h1, h2, h3, h4.below hb, h5.below hb⟩
theorem Ents.only {w w' : World} {T S : Nat → Prop} {v : Value} {es : List Ent} (h : Ents w T v es) (ho : Only S w w') (hd : ∀ i, i < w.heap.size → T i → ¬ S i) : Ents w' T v es := by
  obtain ⟨A, c, cs, e, h1, h2, h3, h4, h5⟩ := h
  exact ⟨A, c, cs, e, h1, h2, h3, h4.only ho hd, h5.only ho hd⟩
theorem Ents.mono {w : World} {S S' : Nat → Prop} {v : Value} {es : List Ent} (h : Ents w S v es) (hS : ∀ i, S i → S' i) : Ents w S' v es := by
  obtain ⟨A, c, cs, e, h1, h2, h3, h4, h5⟩ := h
  exact ⟨A, c, cs, e, h1, h2, h3, h4.mono hS, h5.mono hS⟩
theorem Ents.drewN {w : World} {S : Nat → Prop} {v : Value} {es : List Ent} (h : Ents w S v es) (k : Nat) : Ents (w.drewN k) S v es := by
  obtain ⟨A, c, cs, e, h1, h2, h3, h4, h5⟩ := h
  exact ⟨A, c, cs, e, h1, h2, h3, h4, h5.imp fun _ _ h => h⟩
/-- an element's cells, as a walk asks for them -/
theorem Row.ent {w : World} {S : Nat → Prop} {A : Option Addr} {n : Nat} {cs : List Value} {es : List Ent} (h : Row w S A n 4 cs) (he : EntCells w S cs es) (hn : es.length = n) {i : Nat} {e : Ent} (hi : es[i]? = some e) :
    ∃ b o k u, A = some ⟨b, o, none⟩ ∧ w.cell? ⟨b, o + i * 4, none⟩ = some k ∧ w.cell? ⟨b, o + i * 4 + 1, none⟩ = some (.int .i64 e.seq) ∧ w.cell? ⟨b, o + i * 4 + 2, none⟩ = some (.bool e.dead) ∧ w.cell? ⟨b, o + i * 4 + 3, none⟩ = some u ∧ Byt w S k e.key ∧ Byt w S u e.val ∧ b < w.heap.size ∧ S b := by
  have hl : i < es.length := (List.getElem?_eq_some_iff.1 hi).1
  obtain ⟨b, o, rfl, hS, hb, hc⟩ := h.2 (by omega)
  obtain ⟨k, u, a1, a2, a3, a4, a5, a6⟩ := he.at_ hi
  refine ⟨b, o, k, u, rfl, ?_, ?_, ?_, ?_, a5, a6, hb, hS⟩
  · have := hc _ _ a1; rwa [show o + 4 * i = o + i * 4 from by omega] at this
  · have := hc _ _ a2; rwa [show o + (4 * i + 1) = o + i * 4 + 1 from by omega] at this
  · have := hc _ _ a3; rwa [show o + (4 * i + 2) = o + i * 4 + 2 from by omega] at this
  · have := hc _ _ a4; rwa [show o + (4 * i + 3) = o + i * 4 + 3 from by omega] at this
theorem Ents.of_own {w : World} {S : Nat → Prop} {base : Nat} {e : TypeId} {v : Value} {cs : List Value} {es : List Ent} (h : w.ownsRow base e 4 v es.length cs) (hc : EntCells w S cs es) (hS : ∀ i, base ≤ i → i < w.heap.size → S i)
    (hl : es.length * 64 ≤ 140737488355328) : Ents w S v es := by
  rcases h.2 with ⟨rfl, h0⟩ | ⟨g, cap, cur, rfl, hbg, hh, hcap, hcm, _⟩
  · have : es = [] := List.eq_nil_of_length_eq_zero h0
    subst this
    exact Ents.nil _ _
  · have hlt : g < w.heap.size := by
      rcases Nat.lt_or_ge g w.heap.size with h1 | h1
      · exact h1
      · rw [Array.getElem?_eq_none h1] at hh; cases hh
    refine ⟨_, _, cs, rfl, hcap, by unfold maxLen at hcm; omega, hl, ⟨h.1, fun _ => ⟨g, 0, rfl, hS _ hbg hlt, hlt, fun j u hu => ?_⟩⟩, hc⟩
    have := h.cells (g := g) rfl j u hu
    rwa [Addr.add_lit] at this
end Go.Proofs.YtiffgjodbcploaaGreat
end
section
namespace Go.Proofs.YtiffgjodbcploaaGreat
set_option maxRecDepth 100000
open Go.RowKit
attribute [local go_sem ↓] Go.wp_at_zero Go.wp_at_succ
theorem info26 : (Tryz.prog.info? 48).map (fun i => (i.zero, i.size, i.bytes)) = some (some (.agg #[.slice none 0 0, .int .i64 0, .bool false, .slice none 0 0]), 4, 64) := by kernel_rfl
theorem cell_four_new (w : World) (a b c d : Value) (t : TypeId) : ∀ j u, [a, b, c, d][j]? = some u → (w.alloc (.cells #[a, b, c, d] t)).cell? ((⟨w.heap.size, 0, none⟩ : Addr).add j) = some u := by
  intro j u hu
  rw [Addr.add_lit, World.cell?_alloc_at _ _ _ _ rfl]
  simpa using hu
/-- the row of entries that a call fills: one more. -/
def fresh (base : Nat) (v : Value) (i : Nat) : Prop := base ≤ i ∧ v.ownBlock ≠ some i
theorem EntCells.push {base : Nat} {wr w1 w2 : World} {v v' k u : Value} {n : Nat} {ys : List Value} {es : List Ent} {e : Ent} {o : Obj} {t : TypeId} (hown : wr.ownsRow base t 4 v n ys) (hys : EntCells wr (fresh base v) ys es) (hb1 : Below wr.heap.size wr w1)
    (hk : Byt w1 (fun i => wr.heap.size ≤ i) k e.key) (hu : Byt w1 (fun i => wr.heap.size ≤ i) u e.val) (hbase : base ≤ wr.heap.size) (hg : (w1.alloc o).grownBy w2 v.ownBlock) (hat : v'.ownBlock = v.ownBlock ∨ v'.ownBlock = some (w1.alloc o).heap.size) :
    EntCells w2 (fresh base v') (ys ++ [k, .int .i64 e.seq, .bool e.dead, u]) (es ++ [e]) := by
  have hal : Below w1.heap.size w1 (w1.alloc o) := (Below.refl _ _).alloc (Nat.le_refl _) _
  have hz := hb1.size
  have old : ∀ x bs, Byt wr (fresh base v) x bs → Byt w2 (fresh base v') x bs := fun x bs h =>
    ((h.below hb1).below hal).push hg hat (fun i _ hs => hs.2) (fun i _ hs hn => ⟨hs.1, hn⟩)
  have new : ∀ x bs, Byt w1 (fun i => wr.heap.size ≤ i) x bs → Byt w2 (fresh base v') x bs := fun x bs h =>
    (h.below hal).push hg hat (fun i _ hs e => by have := hown.lt i e; omega) (fun i _ hs hn => ⟨by omega, hn⟩)
  exact (hys.imp old).append (EntCells.one (new _ _ hk) (new _ _ hu))
set_option maxRecDepth 100000 in
set_option maxHeartbeats 2000000 in
theorem copy_any (S : Nat → Prop) (v : Value) (es : List Ent) (w : World) (hv : Ents w S v es) :
    Calls Tryz.prog 10 #[v] w fun r w' => ∃ v', r = .returned v' ∧ Ents w' (fun i => w.heap.size ≤ i) v' es ∧ Below w.heap.size w w' := by
  obtain ⟨i0, hi, hz0, hz1, hz2⟩ := info_parts info26
  have hby := Lib.hid hz2
  have hz1' := Lib.hid hz1
  clear hz2 hz1
  obtain ⟨A, c, cs, rfl, hc, hcm, hl, hr, he⟩ := hv
  obtain ⟨n, hn⟩ : ∃ n, es.length = n := ⟨_, rfl⟩
  rw [hn] at hr hl ⊢
  have HN := Lib.hid hn
  clear hn
  go_enter Tryz.func10, Tryz.ntmps10
  go_wp2
  go_loopw [3, 7] (fun v t wr => ∃ k : Nat, ∃ ys : List Value, k ≤ n ∧ t = .int .i64 k ∧ wr.ownsRow w.heap.size 48 4 v k ys ∧ EntCells wr (fresh w.heap.size v) ys (es.take k) ∧ Below w.heap.size w wr) (fun _ t _ => n - (intOf t).toNat)
  case atStart => exact ⟨0, [], by omega, rfl, World.ownsRow_nil _ _ _ _, trivial, Below.refl _ _⟩
  case round =>
    obtain ⟨k, ys, hk, rfl, hown, hys, hbel⟩ := hrel
    by_cases hkn : k < n
    · obtain ⟨e, hek⟩ : ∃ e, es[k]? = some e := ⟨_, List.getElem?_eq_getElem (by rw [HN.out]; exact hkn)⟩
      obtain ⟨b, o, kk, uu, rfl, c0, c1, c2, c3, b1, b2, _, _⟩ := (hr.below hbel).ent (he.below hbel) HN.out hek
      have HO := Lib.hid hown
      have HEK := Lib.hid hek
      have hev : EntV wr S (.agg #[kk, .int .i64 e.seq, .bool e.dead, uu]) e := ⟨_, _, rfl, b1, b2⟩
      clear hown hek b1 b2
      go_wp2_with (first
        | (go_at_call 35; refine (one_any S _ e _ hev).mono ?_; rintro r w1 ⟨v1, rfl, ⟨k', u', rfl, hk', hu'⟩, hb1⟩; obtain ⟨Ak, ck, rfl⟩ := slice_form hk'; obtain ⟨Au, cu, rfl⟩ := slice_form hu')
        | (at_builtin; refine wpList_append_own_at _ rfl _ _ 22 rfl w.heap.size 48 i0 _ 4 64 Tryz.underlying22 hi hz0 hz1'.out hby.out rfl (by decide) _ _ _ rfl ((own_below HO.out hb1).alloc _) ⟨w1.heap.size, 0, none⟩ 1 1 [.slice Ak e.key.length ck, .int .i64 e.seq, .bool e.dead, .slice Au e.val.length cu] rfl rfl (cell_four_new _ _ _ _ _ _) (by simp [Value.oneCell']) (by unfold maxLen; omega) (by omega) (by have := hbel.size; have := hb1.size; simp; omega) ?_; intro v' w2 hown' hgrow _ hat))
      refine ⟨⟨k + 1, _, by omega, by go_num, hown', ?_, ((hbel.trans (hb1.mono hbel.size)).alloc (by have := hbel.size; have := hb1.size; omega) _).grown hgrow (by have := hbel.size; have := hb1.size; simp; omega) (fun j e => (HO.out.lt j e).1)⟩, by simp [intOf]; omega⟩
      rw [take_snoc HEK.out]
      exact EntCells.push HO.out hys hb1 hk' hu' hbel.size hgrow hat
    · obtain rfl : k = n := by omega
      have HO := Lib.hid hown
      clear hown
      go_wp2
      go_ret
      have e1 : es.take k = es := List.take_of_length_le (by rw [HN.out]; exact Nat.le_refl _)
      rw [e1] at hys
      refine ⟨_, rfl, Ents.of_own (by rw [HN.out]; exact HO.out) (hys.mono fun i hi => hi.1) (fun i hi _ => hi) (by rw [HN.out]; exact hl), hbel⟩
end Go.Proofs.YtiffgjodbcploaaGreat
end
section
namespace Go.Proofs.YtiffgjodbcploaaGreat
set_option maxRecDepth 100000
open Go.RowKit
attribute [local go_sem ↓] Go.wp_at_zero Go.wp_at_succ
theorem EntV.drew {w : World} {S : Nat → Prop} {v : Value} {e : Ent} (h : EntV w S v e) : EntV w.drew S v e := h
set_option maxRecDepth 100000 in
set_option maxHeartbeats 2000000 in
theorem sameE_any (S S' : Nat → Prop) (v v' : Value) (xs ys : List Ent) (w : World) (hx : Ents w S v xs) (hy : Ents w S' v' ys) :
    Calls Tryz.prog 17 #[v, v'] w fun e w' => e = .returned (.bool (decide (xs = ys))) ∧ Below w.heap.size w w' := by
  obtain ⟨A, c, cs, rfl, hc, hcm, hl, hr, he⟩ := hx
  obtain ⟨A', c', cs', rfl, hc', hcm', hl', hr', he'⟩ := hy
  rcases (by omega : xs.length = ys.length ∨ ¬ xs.length = ys.length) with hlen | hlen
  · have hL := Lib.hid hlen
    obtain ⟨n, hn⟩ : ∃ n, xs.length = n := ⟨_, rfl⟩
    rw [← hlen] at hr' ⊢
    rw [hn] at hr hr' hl ⊢
    clear hlen
    have hN := Lib.hid hn
    clear hn
    go_enter Tryz.func17, Tryz.ntmps17
    go_wp2
    go_loopw [5, 13] (fun _ t wr => ∃ k : Nat, k ≤ n ∧ t = .int .i64 k ∧ xs.take k = ys.take k ∧ Below w.heap.size w wr) (fun _ t _ => n - (intOf t).toNat)
    case atStart => exact ⟨0, by omega, rfl, by simp, Below.refl _ _⟩
    case round =>
      obtain ⟨k, hk, rfl, hpre, hbel⟩ := hrel
      have hp := Lib.hid hpre
      clear hpre
      by_cases hkn : k < n
      · obtain ⟨x, hxk⟩ : ∃ x, xs[k]? = some x := ⟨_, List.getElem?_eq_getElem (by rw [hN.out]; exact hkn)⟩
        obtain ⟨y, hyk⟩ : ∃ y, ys[k]? = some y := ⟨_, List.getElem?_eq_getElem (by rw [← hL.out, hN.out]; exact hkn)⟩
        obtain ⟨b, o, k1, u1, rfl, c0, c1, c2, c3, b1, b2, _, _⟩ := (hr.below hbel).ent (he.below hbel) hN.out hxk
        obtain ⟨b', o', k2, u2, rfl, d0, d1, d2, d3, e1, e2, _, _⟩ := (hr'.below hbel).ent (he'.below hbel) (by rw [← hL.out, hN.out]) hyk
        have hev := Lib.hid (show EntV wr S (.agg #[k1, .int .i64 x.seq, .bool x.dead, u1]) x from ⟨_, _, rfl, b1, b2⟩)
        have hev' := Lib.hid (show EntV wr S' (.agg #[k2, .int .i64 y.seq, .bool y.dead, u2]) y from ⟨_, _, rfl, e1, e2⟩)
        have HX := Lib.hid hxk
        have HY := Lib.hid hyk
        clear b1 b2 e1 e2 hxk hyk
        rcases hxy : decide (x = y) with _ | _
        · have hne : ¬ xs = ys := fun e => by
            have h1 := HX.out
            rw [e, HY.out] at h1
            injection h1 with h1
            simp [h1] at hxy
          have HN := Lib.hid hne
          have HXY := Lib.hid hxy
          clear hne hxy
          go_wp2
          go_still_tail 8, (by kernel_rfl)
          go_wp2_with (go_at_call 22; refine (sameone_any S S' _ _ x y _ (by exact hev.out.drew) (by exact hev'.out.drew)).mono ?_; rintro r w1 ⟨rfl, hb⟩; rw [HXY.out])
          go_ret
          exact ⟨ret_bool (decide_eq_false HN.out).symm, hbel.trans ((undrew hb).mono (by have := hbel.size; simpa using this))⟩
        · have HXY := Lib.hid hxy
          clear hxy
          go_wp2
          go_still_tail 8, (by kernel_rfl)
          go_wp2_with (go_at_call 22; refine (sameone_any S S' _ _ x y _ (by exact hev.out.drew) (by exact hev'.out.drew)).mono ?_; rintro r w1 ⟨rfl, hb⟩; rw [HXY.out])
          refine ⟨⟨k + 1, by omega, by go_num, ?_, hbel.trans ((undrew hb).mono (by have := hbel.size; simpa using this))⟩, by simp [intOf]; omega⟩
          rw [take_snoc HX.out, take_snoc HY.out, hp.out, of_decide_eq_true HXY.out]
      · obtain rfl : k = n := by omega
        go_wp2
        go_ret
        refine ⟨ret_bool ?_, hbel⟩
        have e1 := hp.out
        rw [List.take_of_length_le (by rw [hN.out]; exact Nat.le_refl _), List.take_of_length_le (by rw [← hL.out, hN.out]; exact Nat.le_refl _)] at e1
        rw [e1]
        simp
  · have hN := Lib.hid (show ¬ xs = ys from fun e => hlen (by rw [e]))
    have hb : ((xs.length : Int) != (ys.length : Int)) = true := by rw [bne_iff_ne]; omega
    clear hlen
    go_enter Tryz.func17, Tryz.ntmps17
    go_wp2
    go_ret
    exact ⟨ret_bool (decide_eq_false hN.out).symm, Below.refl _ _⟩
end Go.Proofs.YtiffgjodbcploaaGreat
end
section
namespace Go.Proofs.YtiffgjodbcploaaGreat
set_option maxRecDepth 100000
open Go.RowKit Go.BigFrame
section
variable {W w' w2 : World}
theorem fr.ent (h : fr W w') {S : Nat → Prop} {v : Value} {e : Ent} (hv : EntV W S v e) : EntV w' S v e := hv.below h
end
end Go.Proofs.YtiffgjodbcploaaGreat
end
section
namespace Go.Proofs.YtiffgjodbcploaaGreat
set_option maxRecDepth 100000
open Go.RowKit
attribute [local go_sem ↓] Go.wp_at_zero Go.wp_at_succ
theorem orderedFrom_step (es : List Ent) (k : Nat) (e : Ent) (h : es[k]? = some e) (p : Option Ent) :
    orderedFrom p (es.drop k) = (goodE e && ((match p with | none => true | some p => decide (cmpE p e < 0)) && orderedFrom (some e) (es.drop (k + 1)))) := by
  rw [List.drop_eq_getElem_cons (List.getElem?_eq_some_iff.1 h).1]
  have e1 := (List.getElem?_eq_some_iff.1 h).2
  rw [e1]
  cases p <;> simp [orderedFrom]
set_option maxRecDepth 100000 in
set_option maxHeartbeats 4000000 in
theorem ordered_any (S : Nat → Prop) (v : Value) (es : List Ent) (w : World) (hv : Ents w S v es) :
    Calls Tryz.prog 26 #[v] w fun r w' => r = .returned (.bool (orderedE es)) ∧ Below w.heap.size w w' := by
  obtain ⟨A, c, cs, rfl, hc, hcm, hl, hr, he⟩ := hv
  obtain ⟨n, hn⟩ : ∃ n, es.length = n := ⟨_, rfl⟩
  rw [hn] at hr hl ⊢
  have HN := Lib.hid hn
  clear hn
  go_enter Tryz.func26, Tryz.ntmps26
  go_wp2
  go_loopw [3, 4, 7] (fun _ _ t wr => ∃ k : Nat, k ≤ n ∧ t = .int .i64 k ∧ orderedE es = orderedFrom (if k = 0 then none else es[k - 1]?) (es.drop k) ∧ Below w.heap.size w wr) (fun _ _ t _ => n - (intOf t).toNat)
  case atStart => exact ⟨0, by omega, rfl, rfl, Below.refl _ _⟩
  case round =>
    obtain ⟨k, hk, rfl, hpre, hbel⟩ := hrel
    have hp := Lib.hid hpre
    clear hpre
    by_cases hkn : k < n
    · obtain ⟨e, hek⟩ : ∃ e, es[k]? = some e := ⟨_, List.getElem?_eq_getElem (by rw [HN.out]; exact hkn)⟩
      obtain ⟨b, o, kk, uu, rfl, c0, c1, c2, c3, b1, b2, hblt, _⟩ := (hr.below hbel).ent (he.below hbel) HN.out hek
      have hal : Below wr.heap.size wr (wr.alloc (.cells #[kk, .int .i64 e.seq, .bool e.dead, uu] 48)) := (Below.refl _ _).alloc (Nat.le_refl _) _
      have hev := Lib.hid ((show EntV wr S (.agg #[kk, .int .i64 e.seq, .bool e.dead, uu]) e from ⟨_, _, rfl, b1, b2⟩).below hal)
      have HSTEP := Lib.hid (orderedFrom_step es k e hek (if k = 0 then none else es[k - 1]?))
      have HX := Lib.hid hek
      obtain ⟨Ak, ck, rfl⟩ := slice_form b1
      obtain ⟨Au, cu, rfl⟩ := slice_form b2
      clear b1 b2 hek hal
      generalize hW0 : wr.alloc (.cells #[Value.slice Ak e.key.length ck, .int .i64 e.seq, .bool e.dead, Value.slice Au e.val.length cu] 48) = W0 at hev
      have fW0 : fr wr W0 := by rw [← hW0]; exact fr.refl.alloc _
      have F0 : ∀ q : Ext W0, q.w.cell? { block := wr.heap.size, off := 0 } = some (Value.slice Ak e.key.length ck) := fun q => q.cell (by rw [← hW0]; simp [go_sem])
      have F1 : ∀ q : Ext W0, q.w.cell? { block := wr.heap.size, off := 1 } = some (.int .i64 e.seq) := fun q => q.cell (by rw [← hW0]; simp [go_sem])
      have F2 : ∀ q : Ext W0, q.w.cell? { block := wr.heap.size, off := 2 } = some (.bool e.dead) := fun q => q.cell (by rw [← hW0]; simp [go_sem])
      have F3 : ∀ q : Ext W0, q.w.cell? { block := wr.heap.size, off := 3 } = some (Value.slice Au e.val.length cu) := fun q => q.cell (by rw [← hW0]; simp [go_sem])
      have HB := Lib.hid (hbel)
      have HHR := Lib.hid (hr.below hbel)
      have HHE := Lib.hid (he.below hbel)
      have CG : ∀ q : Ext W0, Calls Tryz.prog 50 #[.agg #[Value.slice Ak e.key.length ck, .int .i64 e.seq, .bool e.dead, Value.slice Au e.val.length cu]] q.w fun r w'' => r = .returned (.bool (goodE e)) ∧ ∃ q' : Ext W0, w'' = q'.w := fun q => Ext.calls (good_any S _ e _ (q.h.ent hev.out))
      go_wp2
      rcases hg : goodE e with _ | _
      · rw [hg] at CG
        have HG := Lib.hid hg
        clear hg
        (refine wp_region_quiet_ext (by kernel_rfl) (by kernel_rfl) ?_; (repeat (go_big_quiet_step ((go_at_call 50; exact CG _)))); refine wpQuiet_nil ?_; intro wq hw'; obtain ⟨⟨_, hq⟩, hw''⟩ := hw'; subst hw'')
        go_wp2
        refine bodyPost_ret (v := .bool _) (by simp [results, Tryz.results26, go_sem]; rfl) rfl ?_
        refine ⟨ret_bool ?_, HB.out.trans ((fW0.step hq).mono (HB.out.size))⟩
        have := hp.out
        rw [HSTEP.out, HG.out] at this
        rw [this]; rfl
      · rw [hg] at CG
        have HG := Lib.hid hg
        clear hg
        rcases Nat.eq_zero_or_pos k with h0 | h0
        · subst h0
          (refine wp_region_quiet_ext (by kernel_rfl) (by kernel_rfl) ?_; (repeat (go_big_quiet_step ((go_at_call 50; exact CG _)))); refine wpQuiet_nil ?_; intro wq hw'; obtain ⟨⟨_, hq⟩, hw''⟩ := hw'; subst hw'')
          go_wp2
          refine ⟨⟨1, by omega, rfl, ?_, HB.out.trans ((fW0.step hq).mono (HB.out.size))⟩, by simp [intOf]; omega⟩
          rw [hp.out, HSTEP.out, HG.out]
          simp [HX.out]
        · obtain ⟨j, rfl⟩ : ∃ j, k = j + 1 := ⟨k - 1, by omega⟩
          obtain ⟨e', hej⟩ : ∃ e, es[j]? = some e := ⟨_, List.getElem?_eq_getElem (by rw [HN.out]; omega)⟩
          obtain ⟨b', o', kk', uu', hE, d0, d1, d2, d3, b1, b2, _, _⟩ := HHR.out.ent HHE.out HN.out hej
          cases hE
          obtain ⟨Ak', ck', rfl⟩ := slice_form b1
          obtain ⟨Au', cu', rfl⟩ := slice_form b2
          have G0 : ∀ q : Ext W0, q.w.cell? { block := b, off := o + j * 4 } = _ := fun q => q.h.cell (fW0.cell d0)
          have G1 : ∀ q : Ext W0, q.w.cell? { block := b, off := o + j * 4 + 1 } = _ := fun q => q.h.cell (fW0.cell d1)
          have G2 : ∀ q : Ext W0, q.w.cell? { block := b, off := o + j * 4 + 2 } = _ := fun q => q.h.cell (fW0.cell d2)
          have G3 : ∀ q : Ext W0, q.w.cell? { block := b, off := o + j * 4 + 3 } = _ := fun q => q.h.cell (fW0.cell d3)
          have hev' := Lib.hid (fW0.ent (show EntV wr S (.agg #[Value.slice Ak' e'.key.length ck', .int .i64 e'.seq, .bool e'.dead, Value.slice Au' e'.val.length cu']) e' from ⟨_, _, rfl, b1, b2⟩))
          have CC : ∀ q : Ext W0, Calls Tryz.prog 51 #[.agg #[Value.slice Ak' e'.key.length ck', .int .i64 e'.seq, .bool e'.dead, Value.slice Au' e'.val.length cu'], .agg #[Value.slice Ak e.key.length ck, .int .i64 e.seq, .bool e.dead, Value.slice Au e.val.length cu]] q.w fun r w'' => r = .returned (.int .i64 (cmpE e' e)) ∧ ∃ q' : Ext W0, w'' = q'.w := fun q => Ext.calls (compare_any S S _ _ e' e _ (q.h.ent hev'.out) (q.h.ent hev.out))
          have HJ := Lib.hid (show (if j + 1 = 0 then none else es[j + 1 - 1]?) = some e' by simpa using hej)
          have hd0 : decide ((0:Int) < (j:Int) + 1) = true := by first | (simp; done) | (simp; omega)
          clear hej b1 b2 d0 d1 d2 d3
          rcases hcm : decide (0 ≤ cmpE e' e) with _ | _
          · (refine wp_region_quiet_ext (by kernel_rfl) (by kernel_rfl) ?_; (repeat (go_big_quiet_step (first | (go_at_call 50; exact CG _) | (go_at_call 51; exact CC _)))); refine wpQuiet_nil ?_; intro wq hw'; obtain ⟨⟨_, hq⟩, hw''⟩ := hw'; subst hw'')
            go_wp2
            refine ⟨⟨j + 2, by omega, by go_num, ?_, HB.out.trans ((fW0.step hq).mono (HB.out.size))⟩, by simp [intOf]; omega⟩
            have h2 := of_decide_eq_false hcm
            rw [hp.out, HSTEP.out, HG.out, HJ.out]
            simp [HX.out, show cmpE e' e < 0 by omega]
          · (refine wp_region_quiet_ext (by kernel_rfl) (by kernel_rfl) ?_; (repeat (go_big_quiet_step (first | (go_at_call 50; exact CG _) | (go_at_call 51; exact CC _)))); refine wpQuiet_nil ?_; intro wq hw'; obtain ⟨⟨_, hq⟩, hw''⟩ := hw'; subst hw'')
            go_wp2
            refine bodyPost_ret (v := .bool _) (by simp [results, Tryz.results26, go_sem]; rfl) rfl ?_
            refine ⟨ret_bool ?_, HB.out.trans ((fW0.step hq).mono (HB.out.size))⟩
            have := hp.out
            have h2 := of_decide_eq_true hcm
            rw [HSTEP.out, HG.out, HJ.out] at this
            rw [this]
            simp [show ¬ cmpE e' e < 0 by omega]
    · go_wp2
      refine bodyPost_ret (v := .bool _) (by simp [results, Tryz.results26, go_sem]; rfl) rfl ?_
      refine ⟨ret_bool ?_, hbel⟩
      have := hp.out
      rw [List.drop_eq_nil_of_le (by rw [HN.out]; omega)] at this
      rw [this]; cases (if k = 0 then none else es[k - 1]?) <;> rfl
end Go.Proofs.YtiffgjodbcploaaGreat
end
