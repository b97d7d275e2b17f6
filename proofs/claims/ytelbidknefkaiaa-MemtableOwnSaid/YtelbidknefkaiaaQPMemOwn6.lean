/-
merge's heap: how it lies in memory, and what a store leaves of it.
-/
import Derived.Test.YtelbidknefkaiaaQPMemOwn4
import Derived.Test.YtelbidknefkaiaaQPMemOwn5
import Derived.Test.YtelbidknefkaiaaQPMemOwn0
import Derived.Laws.OwnMore
section
namespace Go.Proofs.Ytelbidknefkaiaa
abbrev before (a b : Ent) : Prop := cmpE a b < 0
theorem orderedFrom_iff (l : List Ent) : ∀ p : Option Ent, orderedFrom p l = true ↔ (∀ e ∈ l, goodE e = true) ∧ l.Pairwise before ∧ ∀ q, p = some q → ∀ e ∈ l, cmpE q e < 0 := by
  induction l with
  | nil => intro p; cases p <;> simp [orderedFrom]
  | cons e l ih =>
    intro p
    have h := ih (some e)
    cases p with
    | none =>
      simp only [orderedFrom, Bool.and_eq_true, h, List.pairwise_cons, List.mem_cons, forall_eq_or_imp]
      constructor
      · rintro ⟨g, g', pw, lt⟩
        exact ⟨⟨g, g'⟩, ⟨lt e rfl, pw⟩, fun q hq => by cases hq⟩
      · rintro ⟨⟨g, g'⟩, ⟨lt, pw⟩, _⟩
        exact ⟨g, g', pw, fun q hq => by cases hq; exact lt⟩
    | some p =>
      simp only [orderedFrom, Bool.and_eq_true, decide_eq_true_eq, h, List.pairwise_cons, List.mem_cons, forall_eq_or_imp]
      constructor
      · rintro ⟨g, hp, g', pw, lt⟩
        exact ⟨⟨g, g'⟩, ⟨lt e rfl, pw⟩, fun q hq => by cases hq; exact ⟨hp, fun x hx => cmpE_trans hp (lt e rfl x hx)⟩⟩
      · rintro ⟨⟨g, g'⟩, ⟨lt, pw⟩, hq⟩
        exact ⟨g, (hq p rfl).1, g', pw, fun q hq => by cases hq; exact lt⟩
theorem ordered_iff (l : List Ent) : orderedE l = true ↔ (∀ e ∈ l, goodE e = true) ∧ l.Pairwise before := by
  rw [orderedE, orderedFrom_iff]
  constructor
  · rintro ⟨a, b, _⟩; exact ⟨a, b⟩
  · rintro ⟨a, b⟩; exact ⟨a, b, fun q hq => by cases hq⟩
theorem thinC_sub (mark : Int) (bottom : Bool) (l : List Ent) : ∀ a, (thinC mark bottom a l).Sublist l := by
  induction l with
  | nil => intro a; simp [thinC]
  | cons e l ih =>
    intro a
    simp only [thinC]
    split
    · split
      · exact (ih _).cons _
      · split
        · exact (ih _).cons _
        · exact (ih _).cons_cons _
    · exact (ih _).cons_cons _
theorem thinC_ordered {mark : Int} {bottom : Bool} {l : List Ent} (h : orderedE l = true) : orderedE (thinC mark bottom [] l) = true := by
  rw [ordered_iff] at h ⊢
  have hs := thinC_sub mark bottom l []
  exact ⟨fun e he => h.1 e (hs.subset he), h.2.sublist hs⟩
theorem squeeze {a k : List UInt8} (h1 : cmpB a k ≤ 0) (h2 : cmpB k a ≤ 0) : a = k := by
  have := cmpB_swap a k
  exact cmpB_eq.1 (by omega)
theorem before_key {a b : Ent} (h : before a b) : cmpB a.key b.key ≤ 0 := by
  rcases cmpE_lt h with h | h
  · omega
  · rw [h.1, cmpB_self]; omega
theorem before_seq {a b : Ent} (h : before a b) (hk : a.key = b.key) : b.seq < a.seq := by
  rcases cmpE_lt h with h | h
  · rw [hk, cmpB_self] at h; omega
  · exact h.2
theorem nil_le (k : List UInt8) : cmpB [] k ≤ 0 := by cases k <;> simp [cmpB]
/-- forgotten twice is as once. -/
theorem thin_twice (mark : Int) (bottom : Bool) (l : List Ent) : ∀ a a', l.Pairwise before → (∀ e ∈ l, cmpB a e.key ≤ 0) → (∀ e ∈ l, a' = e.key → a = e.key) → thinC mark bottom a' (thinC mark bottom a l) = thinC mark bottom a l := by
  induction l with
  | nil => intro a a' _ _ _; simp [thinC]
  | cons e l ih =>
    intro a a' hp hle hI
    have hpl := (List.pairwise_cons.1 hp).2
    have hpe := (List.pairwise_cons.1 hp).1
    have hk : ∀ x ∈ l, cmpB e.key x.key ≤ 0 := fun x hx => before_key (hpe x hx)
    have hle' : ∀ x ∈ l, cmpB a x.key ≤ 0 := fun x hx => hle x (List.mem_cons_of_mem _ hx)
    have hI' : ∀ x ∈ l, a' = x.key → a = x.key := fun x hx => hI x (List.mem_cons_of_mem _ hx)
    have hmid : ∀ x ∈ l, a = x.key → e.key = x.key := fun x hx h => by
      have h1 := hle e (by simp)
      have h2 := hk x hx
      rw [← h] at h2 ⊢
      exact squeeze h2 h1
    rw [thinC]
    split
    · rename_i hs
      split
      · exact ih a a' hpl hle' hI'
      · rename_i ha
        split
        · exact ih e.key a' hpl hk (fun x hx h => hmid x hx (hI' x hx h))
        · rename_i hd
          rw [thinC, if_pos hs, if_neg (fun h => ha (hI e (by simp) h)), if_neg hd, ih e.key e.key hpl hk (fun _ _ h => h)]
    · rename_i hs
      rw [thinC, if_neg hs, ih a a' hpl hle' hI']
/-- what is seen stays. -/
theorem vis_thin (mark seq : Int) (bottom : Bool) (hms : mark ≤ seq) (l : List Ent) : ∀ a a1 a2, l.Pairwise before → (∀ e ∈ l, cmpB a e.key ≤ 0) → (∀ e ∈ l, cmpB a1 e.key ≤ 0) →
    (∀ e ∈ l, (a1 = e.key ↔ a2 = e.key) ∨ (a = e.key ∧ a1 = e.key ∧ e.seq ≤ mark)) → (∀ e ∈ l, a = e.key → a1 = e.key) → visC seq a2 (thinC mark bottom a l) = visC seq a1 l := by
  induction l with
  | nil => intro a a1 a2 _ _ _ _ _; simp [thinC, visC]
  | cons e l ih =>
    intro a a1 a2 hp hle hle1 hI h3
    have hpl := (List.pairwise_cons.1 hp).2
    have hpe := (List.pairwise_cons.1 hp).1
    have hk : ∀ x ∈ l, cmpB e.key x.key ≤ 0 := fun x hx => before_key (hpe x hx)
    have hle' : ∀ x ∈ l, cmpB a x.key ≤ 0 := fun x hx => hle x (List.mem_cons_of_mem _ hx)
    have hle1' : ∀ x ∈ l, cmpB a1 x.key ≤ 0 := fun x hx => hle1 x (List.mem_cons_of_mem _ hx)
    have hI' : ∀ x ∈ l, (a1 = x.key ↔ a2 = x.key) ∨ (a = x.key ∧ a1 = x.key ∧ x.seq ≤ mark) := fun x hx => hI x (List.mem_cons_of_mem _ hx)
    have h3' : ∀ x ∈ l, a = x.key → a1 = x.key := fun x hx => h3 x (List.mem_cons_of_mem _ hx)
    have hmid : ∀ x ∈ l, a = x.key → e.key = x.key := fun x hx h => by
      have h1 := hle e (by simp)
      have h2 := hk x hx
      rw [← h] at h2 ⊢
      exact squeeze h2 h1
    have hmid1 : ∀ x ∈ l, a1 = x.key → e.key = x.key := fun x hx h => by
      have h1 := hle1 e (by simp)
      have h2 := hk x hx
      rw [← h] at h2 ⊢
      exact squeeze h2 h1
    rw [thinC]
    by_cases hs : e.seq ≤ mark
    · rw [if_pos hs]
      by_cases ha : a = e.key
      · have ha1 := h3 e (by simp) ha
        rw [if_pos ha, ih a a1 a2 hpl hle' hle1' hI' h3']
        conv => rhs; rw [visC]
        rw [if_neg (by omega), if_pos ha1]
      · rw [if_neg ha]
        have hiff : a1 = e.key ↔ a2 = e.key := by
          rcases hI e (by simp) with h | h
          · exact h
          · exact absurd h.1 ha
        by_cases hd : (e.dead && bottom) = true
        · rw [if_pos hd]
          have hdead : e.dead = true := by simp at hd; exact hd.1
          have step : visC seq a1 (e :: l) = visC seq e.key l := by
            rw [visC, if_neg (by omega)]
            by_cases h1 : a1 = e.key
            · rw [if_pos h1, h1]
            · rw [if_neg h1, if_pos hdead]
          rw [step]
          refine ih e.key e.key a2 hpl hk hk (fun x hx => ?_) (fun _ _ h => h)
          by_cases hx1 : e.key = x.key
          · exact .inr ⟨hx1, hx1, by have := before_seq (hpe x hx) hx1; omega⟩
          · refine .inl ⟨fun h => absurd h hx1, fun h => ?_⟩
            rcases hI' x hx with h4 | h4
            · exact hmid1 x hx (h4.2 h)
            · exact hmid x hx h4.1
        · rw [if_neg hd]
          rw [visC, visC, if_neg (show ¬ seq < e.seq by omega), if_neg (show ¬ seq < e.seq by omega)]
          by_cases h1 : a1 = e.key
          · rw [if_pos h1, if_pos (hiff.1 h1), h1, hiff.1 h1]
            exact ih e.key e.key e.key hpl hk hk (fun x hx => .inl Iff.rfl) (fun _ _ h => h)
          · rw [if_neg h1, if_neg (fun h => h1 (hiff.2 h)), ih e.key e.key e.key hpl hk hk (fun x hx => .inl Iff.rfl) (fun _ _ h => h)]
    · rw [if_neg hs]
      have hiff : a1 = e.key ↔ a2 = e.key := by
        rcases hI e (by simp) with h | h
        · exact h
        · exact absurd h.2.2 hs
      rw [visC, visC]
      by_cases hq : seq < e.seq
      · rw [if_pos hq, if_pos hq]
        exact ih a a1 a2 hpl hle' hle1' hI' h3'
      · rw [if_neg hq, if_neg hq]
        by_cases h1 : a1 = e.key
        · rw [if_pos h1, if_pos (hiff.1 h1)]
          exact ih a a1 a2 hpl hle' hle1' hI' h3'
        · rw [if_neg h1, if_neg (fun h => h1 (hiff.2 h)), ih a e.key e.key hpl hle' hk (fun x hx => .inl Iff.rfl) hmid]
theorem keeps_thin {mark : Int} {bottom : Bool} {l : List Ent} (h : orderedE l = true) : thinC mark bottom [] (thinC mark bottom [] l) = thinC mark bottom [] l :=
  thin_twice mark bottom l [] [] ((ordered_iff l).1 h).2 (fun _ _ => nil_le _) (fun _ _ h => h)
theorem keeps_vis {mark seq : Int} {bottom : Bool} {l : List Ent} (h : orderedE l = true) (hms : mark ≤ seq) : visC seq [] (thinC mark bottom [] l) = visC seq [] l :=
  vis_thin mark seq bottom hms l [] [] [] ((ordered_iff l).1 h).2 (fun _ _ => nil_le _) (fun _ _ => nil_le _) (fun _ _ => .inl Iff.rfl) (fun _ _ h => h)
end Go.Proofs.Ytelbidknefkaiaa
end
section
namespace Go.Proofs.Ytelbidknefkaiaa
/-- a node: where it lies, what it holds, how high it is. -/
structure Nd where
  blk : Nat
  ent : Ent
  h : Nat
  k : Value
  u : Value
def up (f : Nat) (n : Nd) : Bool := decide (f < n.h)
def nextF (f : Nat) (l : List Nd) : Option Nd := l.find? (up f)
def lastF (f : Nat) : List Nd → Option Nd
  | [] => none
  | n :: l => match lastF f l with
    | some x => some x
    | none => if up f n = true then some n else none
def orAt (a b : Option Nd) : Option Nd := match a with | some x => some x | none => b
theorem lastF_append (f : Nat) (a b : List Nd) : lastF f (a ++ b) = orAt (lastF f b) (lastF f a) := by
  induction a with
  | nil => cases h : lastF f b <;> simp [orAt, lastF, h]
  | cons n a ih =>
    rw [List.cons_append, lastF, ih]
    cases hb : lastF f b with
    | some x => simp [orAt]
    | none => simp only [orAt]; rfl
theorem lastF_none {f : Nat} {l : List Nd} (h : ∀ n ∈ l, up f n = false) : lastF f l = none := by
  induction l with
  | nil => rfl
  | cons n l ih => rw [lastF, ih (fun x hx => h x (List.mem_cons_of_mem _ hx))]; simp [h n (by simp)]
theorem lastF_mem {f : Nat} {l : List Nd} {n : Nd} (h : lastF f l = some n) : n ∈ l ∧ up f n = true := by
  induction l with
  | nil => cases h
  | cons x l ih =>
    rw [lastF] at h
    cases hl : lastF f l with
    | some y => rw [hl] at h; simp only [Option.some.injEq] at h; subst h; exact ⟨List.mem_cons_of_mem _ (ih hl).1, (ih hl).2⟩
    | none =>
      rw [hl] at h
      simp only at h
      split at h
      · rename_i hu; injection h with h; subst h; exact ⟨by simp, hu⟩
      · cases h
/-- how many lie below an entry. -/
def cnt (e : Ent) : List Nd → Nat
  | [] => 0
  | n :: l => if cmpE n.ent e < 0 then cnt e l + 1 else 0
theorem cnt_le (e : Ent) (l : List Nd) : cnt e l ≤ l.length := by
  induction l with
  | nil => simp [cnt]
  | cons n l ih => rw [cnt]; split <;> simp <;> omega
def inOrder (l : List Nd) : Prop := l.Pairwise (fun a b => cmpE a.ent b.ent < 0)
theorem cnt_lt {e : Ent} {l : List Nd} (ho : inOrder l) {i : Nat} {n : Nd} (hi : l[i]? = some n) : i < cnt e l ↔ cmpE n.ent e < 0 := by
  induction l generalizing i with
  | nil => simp at hi
  | cons x l ih =>
    have hx := (List.pairwise_cons.1 ho).1
    have hl := (List.pairwise_cons.1 ho).2
    rw [cnt]
    cases i with
    | zero =>
      simp at hi
      subst hi
      split
      · rename_i h; exact ⟨fun _ => h, fun _ => by omega⟩
      · rename_i h; exact ⟨fun h' => absurd h' (by omega), fun h' => absurd h' h⟩
    | succ i =>
      have hi' : l[i]? = some n := by simpa using hi
      split
      · rw [← ih hl hi']; omega
      · rename_i h
        refine ⟨fun h' => absurd h' (by omega), fun h' => absurd (cmpE_trans (hx n (List.mem_of_getElem? hi')) h') h⟩
theorem nextF_some {f : Nat} {l : List Nd} {n : Nd} (h : nextF f l = some n) : ∃ j, l[j]? = some n ∧ up f n = true ∧ ∀ x ∈ l.take j, up f x = false := by
  induction l with
  | nil => cases h
  | cons x l ih =>
    unfold nextF at h
    rw [List.find?_cons] at h
    split at h
    · rename_i hu; injection h with h; subst h; exact ⟨0, rfl, hu, fun x hx => by simp at hx⟩
    · rename_i hu
      obtain ⟨j, h1, h2, h3⟩ := ih h
      refine ⟨j + 1, by simpa using h1, h2, fun y hy => ?_⟩
      rw [List.take_succ_cons] at hy
      rcases List.mem_cons.1 hy with rfl | hy
      · exact hu
      · exact h3 y hy
theorem nextF_none {f : Nat} {l : List Nd} (h : nextF f l = none) : ∀ x ∈ l, up f x = false := by
  intro x hx
  unfold nextF at h
  have := List.find?_eq_none.1 h x hx
  simpa using this
theorem nextF_skip {f : Nat} {a b : List Nd} (h : ∀ x ∈ a, up f x = false) : nextF f (a ++ b) = nextF f b := by
  unfold nextF
  rw [List.find?_append]
  have : a.find? (up f) = none := List.find?_eq_none.2 fun x hx => by simp [h x hx]
  rw [this]; rfl
/-- where a walk on a floor stands: 'pos' nodes are behind, 'a' is the last of them that is so high (or the head). -/
def Stands (f : Nat) (ns : List Nd) (m pos : Nat) (a : Option Nd) : Prop := pos ≤ m ∧ lastF f (ns.take m) = orAt (lastF f ((ns.take m).drop pos)) a
theorem stands_move {f : Nat} {ns : List Nd} {m pos j : Nat} {a : Option Nd} {n : Nd} (h : Stands f ns m pos a) (hj : (ns.drop pos)[j]? = some n) (hu : up f n = true) (_ : ∀ x ∈ (ns.drop pos).take j, up f x = false) (hm : pos + j < m) : Stands f ns m (pos + j + 1) (some n) := by
  refine ⟨by omega, ?_⟩
  rw [h.2]
  have hn : (ns.take m)[pos + j]? = some n := by
    rw [List.getElem?_take, if_pos hm]
    rw [List.getElem?_drop] at hj; exact hj
  have e1 : (ns.take m).drop pos = ((ns.take m).drop pos).take j ++ n :: (ns.take m).drop (pos + j + 1) := by
    have : ((ns.take m).drop pos).drop j = n :: (ns.take m).drop (pos + j + 1) := by
      rw [List.drop_drop, List.drop_eq_getElem_cons (List.getElem?_eq_some_iff.1 hn).1, (List.getElem?_eq_some_iff.1 hn).2]
    rw [← this, List.take_append_drop]
  rw [e1, lastF_append, lastF]
  cases lastF f ((ns.take m).drop (pos + j + 1)) with
  | some x => simp [orAt]
  | none => simp [orAt, hu]
theorem stands_end {f : Nat} {ns : List Nd} {m pos : Nat} {a : Option Nd} (h : Stands f ns m pos a) (hn : ∀ x ∈ (ns.take m).drop pos, up f x = false) : lastF f (ns.take m) = a := by
  rw [h.2, lastF_none hn]; rfl
/-- one floor down: from where the floor above ended. -/
theorem stands_down {f : Nat} {ns : List Nd} {m pos : Nat} {n : Nd} (hp : pos < m) (hn : ns[pos]? = some n) (hu : up (f + 1) n = true) : Stands f ns m (pos + 1) (some n) := by
  refine ⟨by omega, ?_⟩
  have hn' : (ns.take m)[pos]? = some n := by rw [List.getElem?_take, if_pos hp]; exact hn
  have e1 : ns.take m = (ns.take m).take pos ++ n :: (ns.take m).drop (pos + 1) := by
    have : (ns.take m).drop pos = n :: (ns.take m).drop (pos + 1) := by
      rw [List.drop_eq_getElem_cons (List.getElem?_eq_some_iff.1 hn').1, (List.getElem?_eq_some_iff.1 hn').2]
    rw [← this, List.take_append_drop]
  have hu' : up f n = true := by simp [up] at hu ⊢; omega
  conv => lhs; rw [e1]
  rw [lastF_append, lastF]
  cases lastF f ((ns.take m).drop (pos + 1)) with
  | some x => simp [orAt]
  | none => simp [orAt, hu']
end Go.Proofs.Ytelbidknefkaiaa
end
section
namespace Go.Proofs.Ytelbidknefkaiaa
open Go.RowKit Go.BigFrame
attribute [local go_sem ↓] Go.wp_at_zero Go.wp_at_succ
theorem Ents.head {w : World} {S : Nat → Prop} {v : Value} {e : Ent} {l : List Ent} (h : Ents w S v (e :: l)) :
    ∃ b o c k u, v = .slice (some ⟨b, o, none⟩) (l.length + 1) c ∧ w.cell? ⟨b, o, none⟩ = some k ∧ w.cell? ⟨b, o + 1, none⟩ = some (.int .i64 e.seq) ∧ w.cell? ⟨b, o + 2, none⟩ = some (.bool e.dead) ∧ w.cell? ⟨b, o + 3, none⟩ = some u ∧ Byt w S k e.key ∧ Byt w S u e.val := by
  obtain ⟨A, c, cs, rfl, hc, hcm, hl, hr, he⟩ := h
  obtain ⟨b, o, k, u, rfl, c0, c1, c2, c3, b1, b2, _, _⟩ := hr.ent he rfl (i := 0) (e := e) rfl
  exact ⟨b, o, c, k, u, by simp, by simpa using c0, by simpa using c1, by simpa using c2, by simpa using c3, b1, b2⟩
set_option maxRecDepth 100000 in
set_option maxHeartbeats 2000000 in
theorem mclos_any (S S' : Nat → Prop) (v v' : Value) (a b : Ent) (la lb : List Ent) (w : World) (hv : Ents w S v (a :: la)) (hv' : Ents w S' v' (b :: lb)) :
    Calls Try.prog 42 #[v, v'] w fun r w' => r = .returned (.int .i64 (cmpE a b)) ∧ Below w.heap.size w w' := by
  obtain ⟨b1, o1, c1, k1, u1, rfl, x0, x1, x2, x3, y1, y2⟩ := hv.head
  obtain ⟨b2, o2, c2, k2, u2, rfl, z0, z1, z2, z3, t1, t2⟩ := hv'.head
  have F0 : ∀ q : Ext w, q.w.cell? { block := b1, off := o1 } = _ := fun q => q.h.cell x0
  have F1 : ∀ q : Ext w, q.w.cell? { block := b1, off := o1 + 1 } = _ := fun q => q.h.cell x1
  have F2 : ∀ q : Ext w, q.w.cell? { block := b1, off := o1 + 2 } = _ := fun q => q.h.cell x2
  have F3 : ∀ q : Ext w, q.w.cell? { block := b1, off := o1 + 3 } = _ := fun q => q.h.cell x3
  have G0 : ∀ q : Ext w, q.w.cell? { block := b2, off := o2 } = _ := fun q => q.h.cell z0
  have G1 : ∀ q : Ext w, q.w.cell? { block := b2, off := o2 + 1 } = _ := fun q => q.h.cell z1
  have G2 : ∀ q : Ext w, q.w.cell? { block := b2, off := o2 + 2 } = _ := fun q => q.h.cell z2
  have G3 : ∀ q : Ext w, q.w.cell? { block := b2, off := o2 + 3 } = _ := fun q => q.h.cell z3
  have CC : ∀ q : Ext w, Calls Try.prog 38 #[.agg #[k1, .int .i64 a.seq, .bool a.dead, u1], .agg #[k2, .int .i64 b.seq, .bool b.dead, u2]] q.w fun r w'' => r = .returned (.int .i64 (cmpE a b)) ∧ ∃ q' : Ext w, w'' = q'.w := fun q => Ext.calls (compare_any S S' _ _ a b _ (q.h.ent ⟨_, _, rfl, y1, y2⟩) (q.h.ent ⟨_, _, rfl, t1, t2⟩))
  clear hv hv' x0 x1 x2 x3 z0 z1 z2 z3 y1 y2 t1 t2
  go_enter Try.func42, Try.ntmps42
  go_wp2
  (refine wp_region_quiet_ext (by kernel_rfl) (by kernel_rfl) ?_; (repeat (go_big_quiet_step ((go_at_call 38; exact CC _)))); refine wpQuiet_nil ?_; intro wq hw'; obtain ⟨⟨_, hq⟩, hw''⟩ := hw'; subst hw'')
  go_wp2
  refine bodyPost_ret (v := .int .i64 _) (by simp [results, Try.results42, go_sem]; rfl) rfl ?_
  exact ⟨rfl, hq⟩
end Go.Proofs.Ytelbidknefkaiaa
end
section
namespace Go.Proofs.Ytelbidknefkaiaa
/-- the order of two lists: that of their heads. -/
def cmpL : List Ent → List Ent → Int
  | a :: _, b :: _ => cmpE a b
  | _, _ => 0
section
variable {α : Type}
def swapL (l : List α) (i j : Nat) : List α :=
  match l[i]?, l[j]? with
  | some a, some b => (l.set i b).set j a
  | _, _ => l
theorem swapL_len (l : List α) (i j : Nat) : (swapL l i j).length = l.length := by
  unfold swapL; split <;> simp
theorem swapL_at {l : List α} {i j : Nat} {a b : α} (hi : l[i]? = some a) (hj : l[j]? = some b) : swapL l i j = (l.set i b).set j a := by
  simp [swapL, hi, hj]
theorem swapL_perm (l : List α) (i j : Nat) : (swapL l i j).Perm l := by
  unfold swapL
  split
  · rename_i a b hi hj
    obtain ⟨h1, e1⟩ := List.getElem?_eq_some_iff.1 hi
    obtain ⟨h2, e2⟩ := List.getElem?_eq_some_iff.1 hj
    subst e1 e2
    exact List.set_set_perm h1 h2
  · exact List.Perm.refl _
/-- the way up. -/
def siftUp (f : α → List Ent) (l : List α) : Nat → List α
  | 0 => l
  | i + 1 =>
    match l[i / 2]?, l[i + 1]? with
    | some a, some b => if cmpL (f a) (f b) ≤ 0 then l else siftUp f (swapL l (i / 2) (i + 1)) (i / 2)
    | _, _ => l
termination_by i => i
theorem siftUp_perm (f : α → List Ent) (l : List α) (i : Nat) : (siftUp f l i).Perm l := by
  induction i using Nat.strongRecOn generalizing l with
  | ind i ih =>
    cases i with
    | zero => rw [siftUp]
    | succ i =>
      rw [siftUp]
      split
      · split
        · exact List.Perm.refl _
        · exact (ih (i / 2) (by omega) _).trans (swapL_perm _ _ _)
      · exact List.Perm.refl _
/-- the way down: the least of three. -/
def leastStep (f : α → List Ent) (l : List α) (k m : Nat) : Nat :=
  match l[k]?, l[m]? with
  | some a, some b => if cmpL (f a) (f b) < 0 then k else m
  | _, _ => m
def lst (f : α → List Ent) (l : List α) (i : Nat) : Nat → Nat
  | 0 => i
  | j + 1 => leastStep f l (2 * i + 1 + j) (lst f l i j)
theorem leastStep_or (f : α → List Ent) (l : List α) (k m : Nat) : leastStep f l k m = m ∨ (leastStep f l k m = k ∧ k < l.length) := by
  unfold leastStep
  split
  · rename_i a b hk hm
    split
    · exact .inr ⟨rfl, (List.getElem?_eq_some_iff.1 hk).1⟩
    · exact .inl rfl
  · exact .inl rfl
theorem lst_or (f : α → List Ent) (l : List α) (i j : Nat) : lst f l i j = i ∨ (i < lst f l i j ∧ lst f l i j < l.length) := by
  induction j with
  | zero => exact .inl rfl
  | succ j ih =>
    rw [lst]
    rcases leastStep_or f l (2 * i + 1 + j) (lst f l i j) with h | ⟨h, h'⟩
    · rw [h]; exact ih
    · rw [h]; exact .inr ⟨by omega, h'⟩
theorem lst_two (f : α → List Ent) (l : List α) (i j : Nat) (hj : j ≤ 2) (h : j = 2 ∨ l.length ≤ 2 * i + 1 + j) : lst f l i 2 = lst f l i j := by
  have st : ∀ k m, l.length ≤ k → leastStep f l k m = m := fun k m hk => by
    rcases leastStep_or f l k m with h | ⟨h, h'⟩
    · exact h
    · omega
  rcases h with rfl | h
  · rfl
  · match j, hj, h with
    | 0, _, h => exact (st _ _ (by omega)).trans (st _ _ (by omega))
    | 1, _, h => exact st _ _ (by omega)
    | 2, _, h => rfl
def siftDown (f : α → List Ent) (l : List α) (i : Nat) : List α :=
  if _h : lst f l i 2 = i then l else siftDown f (swapL l i (lst f l i 2)) (lst f l i 2)
termination_by l.length - i
decreasing_by
  rw [swapL_len]
  rcases lst_or f l i 2 with h' | h'
  · exact absurd h' _h
  · omega
theorem siftDown_perm (f : α → List Ent) (l : List α) (i : Nat) : (siftDown f l i).Perm l := by
  induction hn : l.length - i using Nat.strongRecOn generalizing l i with
  | ind n ih =>
    rw [siftDown]
    split
    · exact List.Perm.refl _
    · rename_i h
      have := lst_or f l i 2
      refine (ih _ ?_ _ _ rfl).trans (swapL_perm _ _ _)
      rw [swapL_len]; omega
/-- what pop leaves. -/
def popL (f : α → List Ent) (l : List α) : List α :=
  match l[l.length - 1]? with
  | some z => siftDown f ((l.set 0 z).take (l.length - 1)) 0
  | none => []
end
end Go.Proofs.Ytelbidknefkaiaa
end
section
namespace Go.Proofs.Ytelbidknefkaiaa
open Go.RowKit
theorem info22 : (Try.prog.info? 22).map (fun i => (i.zero, i.size, i.bytes)) = some (some (.slice none 0 0), 1, 24) := by kernel_rfl
abbrev boxOf (sl : Value) : Obj := .cells #[sl, .func (.func 42) #[] #[]] 83 (0, 0)
structure HeapV (w : World) (base p : Nat) (S : Nat → Prop) (sl : Value) (ps : List (Value × List Ent)) : Prop where
  box : w.heap[p]? = some (boxOf sl)
  row : w.ownsRow base 22 1 sl ps.length (ps.map (·.1))
  ne : sl.ownBlock ≠ some p
  vals : ∀ q ∈ ps, Ents w S q.1 q.2 ∧ q.2 ≠ []
  old : ∀ i, S i → i < base
  hp : base ≤ p
theorem own_form {w : World} {base : Nat} {e : TypeId} {size n : Nat} {v : Value} {xs : List Value} (h : w.ownsRow base e size v n xs) : ∃ A c, v = .slice A n c := by
  rcases h.2 with ⟨rfl, rfl⟩ | ⟨g, cap, cur, rfl, _⟩
  · exact ⟨_, _, rfl⟩
  · exact ⟨_, _, rfl⟩
theorem ents_form {w : World} {S : Nat → Prop} {v : Value} {es : List Ent} (h : Ents w S v es) : ∃ A c, v = .slice A es.length c := by
  obtain ⟨A, c, cs, rfl, _⟩ := h
  exact ⟨_, _, rfl⟩
theorem own_pos {w : World} {base : Nat} {e : TypeId} {size n : Nat} {v : Value} {xs : List Value} (h : w.ownsRow base e size v n xs) (hn : 0 < n) :
    ∃ g c, v = .slice (some ⟨g, 0, none⟩) n c ∧ base ≤ g ∧ g < w.heap.size ∧ n ≤ c ∧ c ≤ 9223372036854775807 := by
  rcases h.2 with ⟨rfl, h0⟩ | ⟨g, cap, cur, rfl, hb, hh, hc, hm, _⟩
  · omega
  · refine ⟨g, cap, rfl, hb, ?_, hc, by unfold maxLen at hm; omega⟩
    rcases Nat.lt_or_ge g w.heap.size with h1 | h1
    · exact h1
    · rw [Array.getElem?_eq_none h1] at hh; cases hh
theorem HeapV.lt {w : World} {base p : Nat} {S : Nat → Prop} {sl : Value} {ps : List (Value × List Ent)} (h : HeapV w base p S sl ps) : p < w.heap.size := (Array.getElem?_eq_some_iff.1 h.box).1
theorem own_only {w w' : World} {base : Nat} {e : TypeId} {size n : Nat} {v : Value} {xs : List Value} {S : Nat → Prop} (h : w.ownsRow base e size v n xs) (hb : Only S w w') (hv : ∀ g, v.ownBlock = some g → ¬ S g) : w'.ownsRow base e size v n xs := by
  rcases h.2 with ⟨rfl, h0⟩ | ⟨g, cap, cur, rfl, hbg, hh, r⟩
  · exact ⟨h.1, .inl ⟨rfl, h0⟩⟩
  · have hlt : g < w.heap.size := by
      rcases Nat.lt_or_ge g w.heap.size with h1 | h1
      · exact h1
      · rw [Array.getElem?_eq_none h1] at hh; cases hh
    exact ⟨h.1, .inr ⟨g, cap, cur, rfl, hbg, (hb.block g hlt (hv g rfl)).trans hh, r⟩⟩
theorem only_set (w : World) (g j : Nat) (u : Value) : Only (fun i => i = g) w (w.setCell ⟨g, j, none⟩ u) := Only.setCell (S := fun i => i = g) (Only.refl _ _) (p := ⟨g, j, none⟩) rfl u
theorem Only.of_grown {w w' : World} {g : Option Nat} (h : w.grownBy w' g) : Only (fun i => g = some i) w w' :=
  ⟨h.os, h.tape, h.output, h.size, fun i hi hS => h.block i hi (fun e => hS e.symm)⟩
section
variable {w w' : World} {base p : Nat} {S : Nat → Prop} {sl : Value} {ps : List (Value × List Ent)}
/-- other blocks turn. -/
theorem HeapV.only {T : Nat → Prop} (h : HeapV w base p S sl ps) (ho : Only T w w') (hT : ∀ i, T i → base ≤ i ∧ i ≠ p ∧ sl.ownBlock ≠ some i) : HeapV w' base p S sl ps :=
  ⟨(ho.block p h.lt (fun t => (hT p t).2.1 rfl)).trans h.box, own_only h.row ho (fun g hg t => (hT g t).2.2 hg), h.ne,
    fun q hq => ⟨(h.vals q hq).1.only ho (fun i _ hs t => by have := h.old i hs; have := (hT i t).1; omega), (h.vals q hq).2⟩, h.old, h.hp⟩
theorem HeapV.below (h : HeapV w base p S sl ps) (hb : Below w.heap.size w w') : HeapV w' base p S sl ps :=
  ⟨(hb.block p h.lt).trans h.box, own_below h.row hb, h.ne, fun q hq => ⟨(h.vals q hq).1.below hb, (h.vals q hq).2⟩, h.old, h.hp⟩
/-- an element is stored. -/
theorem HeapV.set {g n c : Nat} (h : HeapV w base p S (.slice (some ⟨g, 0, none⟩) n c) ps) {q : Value × List Ent} (hq : Ents w S q.1 q.2 ∧ q.2 ≠ []) (hn : ps.length = n) (j : Nat) :
    HeapV (w.setCell ⟨g, j, none⟩ q.1) base p S (.slice (some ⟨g, 0, none⟩) n c) (ps.set j q) := by
  subst hn
  obtain ⟨hr, _⟩ := h.row.stored j q.1
  have hg : base ≤ g := (h.row.lt g rfl).1
  have hgp : p ≠ g := fun e => h.ne (by simp [Value.ownBlock, e])
  have ho : Only (fun i => i = g) w (w.setCell ⟨g, j, none⟩ q.1) := only_set _ _ _ _
  refine ⟨(heap_setCell_other w _ p _ hgp).trans h.box, ?_, h.ne, fun q' hq' => ?_, h.old, h.hp⟩
  · simpa [List.map_set] using hr
  · have : Ents w S q'.1 q'.2 ∧ q'.2 ≠ [] := by
      rcases List.mem_or_eq_of_mem_set hq' with h1 | h1
      · exact h.vals _ h1
      · exact h1 ▸ hq
    exact ⟨this.1.only ho (fun i _ hs t => by have := h.old i hs; omega), this.2⟩
/-- an exchange. -/
theorem HeapV.swap {g n c : Nat} (h : HeapV w base p S (.slice (some ⟨g, 0, none⟩) n c) ps) {i j : Nat} {a b : Value × List Ent} (hn : ps.length = n) (hi : ps[i]? = some a) (hj : ps[j]? = some b) :
    HeapV ((w.setCell ⟨g, i, none⟩ b.1).setCell ⟨g, j, none⟩ a.1) base p S (.slice (some ⟨g, 0, none⟩) n c) (swapL ps i j) := by
  rw [swapL_at hi hj]
  have h1 := h.set (h.vals b (List.mem_of_getElem? hj)) hn i
  refine h1.set ⟨?_, (h.vals a (List.mem_of_getElem? hi)).2⟩ (by simpa using hn) j
  have hg : base ≤ g := (h.row.lt g rfl).1
  exact (h.vals a (List.mem_of_getElem? hi)).1.only (S := fun i => i = g) (only_set _ _ _ _) (fun i _ hs t => by have := h.old i hs; omega)
theorem HeapV.cell {g n c : Nat} (h : HeapV w base p S (.slice (some ⟨g, 0, none⟩) n c) ps) {i : Nat} {a : Value × List Ent} (hn : ps.length = n) (hi : ps[i]? = some a) : w.cell? ⟨g, i, none⟩ = some a.1 := by
  subst hn
  rw [h.row.cellAt i (by have := (List.getElem?_eq_some_iff.1 hi).1; omega), List.getElem?_map, hi]; rfl
theorem HeapV.frozen {g n c : Nat} (h : HeapV w base p S (.slice (some ⟨g, 0, none⟩) n c) ps) (hn : ps.length = n) (i : Nat) : w.frozen? ⟨g, i, none⟩ = false := by
  subst hn; exact h.row.frozenAt i
theorem HeapV.box0 (h : HeapV w base p S sl ps) : w.cell? ⟨p, 0, none⟩ = some sl := by rw [cell_of_row w p 0 _ _ _ h.box]; rfl
theorem HeapV.box1 (h : HeapV w base p S sl ps) : w.cell? ⟨p, 1, none⟩ = some (.func (.func 42) #[] #[]) := by rw [cell_of_row w p 1 _ _ _ h.box]; rfl
/-- the row is stored in the box. -/
theorem HeapV.store {sl' : Value} {qs : List (Value × List Ent)} (hb : w.heap[p]? = some (boxOf sl)) (hr : w.ownsRow base 22 1 sl' qs.length (qs.map (·.1))) (hne : sl'.ownBlock ≠ some p)
    (hv : ∀ q ∈ qs, Ents w S q.1 q.2 ∧ q.2 ≠ []) (hold : ∀ i, S i → i < base) (hp : base ≤ p) : HeapV (w.setCell ⟨p, 0, none⟩ sl') base p S sl' qs := by
  have ho : Only (fun i => i = p) w (w.setCell ⟨p, 0, none⟩ sl') := only_set _ _ _ _
  refine ⟨?_, own_only hr ho (fun g hg e => hne (e ▸ hg)), hne, fun q hq => ⟨(hv q hq).1.only ho (fun i _ hs t => by have := hold i hs; omega), (hv q hq).2⟩, hold, hp⟩
  rw [heap_setCell_same w p 0 _ _ _ hb]; rfl
/-- the row is cut by one. -/
theorem own_cut {g n c : Nat} {e : TypeId} {xs : List Value} (h : w.ownsRow base e 1 (.slice (some ⟨g, 0, none⟩) (n + 1) c) (n + 1) xs) : w.ownsRow base e 1 (.slice (some ⟨g, 0, none⟩) n c) n (xs.take n) := by
  rcases h.2 with ⟨h', _⟩ | ⟨g', cap', cur, h', hb, hg, hnc, hcm, hcs, htake⟩
  · simp at h'
  · simp only [Value.slice.injEq, Option.some.injEq, Addr.mk.injEq, and_true, true_and] at h'
    obtain ⟨rfl, rfl⟩ := h'
    have := h.1
    refine ⟨by simp; omega, .inr ⟨g, c, cur, rfl, hb, hg, by omega, hcm, hcs, ?_⟩⟩
    rw [← htake, List.take_take]; congr 1; omega
/-- one more is behind. -/
theorem HeapV.pushed {g n c c1 : Nat} {A : Option Addr} {v : Value} {l : List Ent} {o : Obj} {w2 : World} (h : HeapV w base p S (.slice A n c) ps) (hn : ps.length = n) (hv : Ents w S v l) (hl : l ≠ [])
    (hown : w2.ownsRow base 22 1 (.slice (some ⟨g, 0, none⟩) (n + 1) c1) (n + 1) (ps.map (·.1) ++ [v])) (hg : (w.alloc o).grownBy w2 (Value.slice A n c).ownBlock)
    (hat : some g = (Value.slice A n c).ownBlock ∨ some g = some (w.alloc o).heap.size) :
    HeapV (w2.setCell ⟨p, 0, none⟩ (.slice (some ⟨g, 0, none⟩) (n + 1) c1)) base p S (.slice (some ⟨g, 0, none⟩) (n + 1) c1) (ps ++ [(v, l)]) ∧
      Only (fun i => i = p ∨ (Value.slice A n c).ownBlock = some i) w (w2.setCell ⟨p, 0, none⟩ (.slice (some ⟨g, 0, none⟩) (n + 1) c1)) := by
  subst hn
  have hpz := h.lt
  have ho : Only (fun i => (Value.slice A ps.length c).ownBlock = some i) w w2 := ((Only.refl _ w).alloc o).trans (Only.of_grown hg)
  have hout : ∀ i, S i → ¬ (Value.slice A ps.length c).ownBlock = some i := fun i hs e => by
    have := h.old i hs
    have := (h.row.lt i e).1
    omega
  refine ⟨HeapV.store (sl := .slice A ps.length c) ((ho.block p hpz (fun e => h.ne e)).trans h.box) (by simpa using hown) ?_ ?_ h.old h.hp, (ho.mono fun i e => .inr e).trans ((only_set _ _ _ _).mono fun i e => .inl e)⟩
  · rcases hat with e | e
    · exact fun e' => h.ne (e ▸ e')
    · injection e with e
      simp at e
      simp only [Value.ownBlock, ne_eq, Option.some.injEq]
      omega
  · intro q hq
    rcases List.mem_append.1 hq with h1 | h1
    · exact ⟨(h.vals q h1).1.only ho (fun i _ hs => hout i hs), (h.vals q h1).2⟩
    · simp at h1
      subst h1
      exact ⟨hv.only ho (fun i _ hs => hout i hs), hl⟩
/-- the last is cut off. -/
theorem HeapV.cut {g n c : Nat} (h : HeapV w base p S (.slice (some ⟨g, 0, none⟩) (n + 1) c) ps) (hn : ps.length = n + 1) : HeapV (w.setCell ⟨p, 0, none⟩ (.slice (some ⟨g, 0, none⟩) n c)) base p S (.slice (some ⟨g, 0, none⟩) n c) (ps.take n) := by
  refine HeapV.store h.box ?_ h.ne (fun q hq => h.vals q (List.mem_of_mem_take hq)) h.old h.hp
  have := h.row
  rw [hn] at this
  rw [List.map_take, List.length_take, hn, Nat.min_eq_left (by omega)]
  exact own_cut this
end
end Go.Proofs.Ytelbidknefkaiaa
end
