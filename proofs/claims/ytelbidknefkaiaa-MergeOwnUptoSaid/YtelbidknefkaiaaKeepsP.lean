/-
Plain: what is forgotten is not missed; forgotten twice is as once.
-/
import Derived.Test.YtelbidknefkaiaaThinP
import Derived.Test.YtelbidknefkaiaaVisP
namespace Go.Proofs.Ytelbidknefkaiaa

abbrev before (a b : Ent) : Prop := cmpE a b < 0
theorem orderedFrom_iff (l : List Ent) : ∀ p : Option Ent, orderedFrom p l = true ↔ (∀ e ∈ l, goodE e = true) ∧ l.Pairwise before ∧ ∀ q, p = some q → ∀ e ∈ l, cmpE q e < 0 := by
  induction l with
  | nil => intro p; cases p <;> simp [orderedFrom]
  | cons e l ih =>
    intro p
    have h := ih (some e)
    cases p with
    | none =>
      simp only [orderedFrom, Bool.and_eq_true, h, List.pairwise_cons, List.mem_cons, forall_eq_or_imp]
      constructor
      · rintro ⟨g, g', pw, lt⟩
        exact ⟨⟨g, g'⟩, ⟨lt e rfl, pw⟩, fun q hq => by cases hq⟩
      · rintro ⟨⟨g, g'⟩, ⟨lt, pw⟩, _⟩
        exact ⟨g, g', pw, fun q hq => by cases hq; exact lt⟩
    | some p =>
      simp only [orderedFrom, Bool.and_eq_true, decide_eq_true_eq, h, List.pairwise_cons, List.mem_cons, forall_eq_or_imp]
      constructor
      · rintro ⟨g, hp, g', pw, lt⟩
        exact ⟨⟨g, g'⟩, ⟨lt e rfl, pw⟩, fun q hq => by cases hq; exact ⟨hp, fun x hx => cmpE_trans hp (lt e rfl x hx)⟩⟩
      · rintro ⟨⟨g, g'⟩, ⟨lt, pw⟩, hq⟩
        exact ⟨g, (hq p rfl).1, g', pw, fun q hq => by cases hq; exact lt⟩
theorem ordered_iff (l : List Ent) : orderedE l = true ↔ (∀ e ∈ l, goodE e = true) ∧ l.Pairwise before := by
  rw [orderedE, orderedFrom_iff]
  constructor
  · rintro ⟨a, b, _⟩; exact ⟨a, b⟩
  · rintro ⟨a, b⟩; exact ⟨a, b, fun q hq => by cases hq⟩
theorem thinC_sub (mark : Int) (bottom : Bool) (l : List Ent) : ∀ a, (thinC mark bottom a l).Sublist l := by
  induction l with
  | nil => intro a; simp [thinC]
  | cons e l ih =>
    intro a
    simp only [thinC]
    split
    · split
      · exact (ih _).cons _
      · split
        · exact (ih _).cons _
        · exact (ih _).cons_cons _
    · exact (ih _).cons_cons _
theorem thinC_ordered {mark : Int} {bottom : Bool} {l : List Ent} (h : orderedE l = true) : orderedE (thinC mark bottom [] l) = true := by
  rw [ordered_iff] at h ⊢
  have hs := thinC_sub mark bottom l []
  exact ⟨fun e he => h.1 e (hs.subset he), h.2.sublist hs⟩

theorem squeeze {a k : List UInt8} (h1 : cmpB a k ≤ 0) (h2 : cmpB k a ≤ 0) : a = k := by
  have := cmpB_swap a k
  exact cmpB_eq.1 (by omega)
theorem before_key {a b : Ent} (h : before a b) : cmpB a.key b.key ≤ 0 := by
  rcases cmpE_lt h with h | h
  · omega
  · rw [h.1, cmpB_self]; omega
theorem before_seq {a b : Ent} (h : before a b) (hk : a.key = b.key) : b.seq < a.seq := by
  rcases cmpE_lt h with h | h
  · rw [hk, cmpB_self] at h; omega
  · exact h.2
theorem nil_le (k : List UInt8) : cmpB [] k ≤ 0 := by cases k <;> simp [cmpB]

/-- forgotten twice is as once. -/
theorem thin_twice (mark : Int) (bottom : Bool) (l : List Ent) : ∀ a a', l.Pairwise before → (∀ e ∈ l, cmpB a e.key ≤ 0) → (∀ e ∈ l, a' = e.key → a = e.key) → thinC mark bottom a' (thinC mark bottom a l) = thinC mark bottom a l := by
  induction l with
  | nil => intro a a' _ _ _; simp [thinC]
  | cons e l ih =>
    intro a a' hp hle hI
    have hpl := (List.pairwise_cons.1 hp).2
    have hpe := (List.pairwise_cons.1 hp).1
    have hk : ∀ x ∈ l, cmpB e.key x.key ≤ 0 := fun x hx => before_key (hpe x hx)
    have hle' : ∀ x ∈ l, cmpB a x.key ≤ 0 := fun x hx => hle x (List.mem_cons_of_mem _ hx)
    have hI' : ∀ x ∈ l, a' = x.key → a = x.key := fun x hx => hI x (List.mem_cons_of_mem _ hx)
    have hmid : ∀ x ∈ l, a = x.key → e.key = x.key := fun x hx h => by
      have h1 := hle e (by simp)
      have h2 := hk x hx
      rw [← h] at h2 ⊢
      exact squeeze h2 h1
    rw [thinC]
    split
    · rename_i hs
      split
      · exact ih a a' hpl hle' hI'
      · rename_i ha
        split
        · exact ih e.key a' hpl hk (fun x hx h => hmid x hx (hI' x hx h))
        · rename_i hd
          rw [thinC, if_pos hs, if_neg (fun h => ha (hI e (by simp) h)), if_neg hd, ih e.key e.key hpl hk (fun _ _ h => h)]
    · rename_i hs
      rw [thinC, if_neg hs, ih a a' hpl hle' hI']
/-- what is seen stays. -/
theorem vis_thin (mark seq : Int) (bottom : Bool) (hms : mark ≤ seq) (l : List Ent) : ∀ a a1 a2, l.Pairwise before → (∀ e ∈ l, cmpB a e.key ≤ 0) → (∀ e ∈ l, cmpB a1 e.key ≤ 0) →
    (∀ e ∈ l, (a1 = e.key ↔ a2 = e.key) ∨ (a = e.key ∧ a1 = e.key ∧ e.seq ≤ mark)) → (∀ e ∈ l, a = e.key → a1 = e.key) → visC seq a2 (thinC mark bottom a l) = visC seq a1 l := by
  induction l with
  | nil => intro a a1 a2 _ _ _ _ _; simp [thinC, visC]
  | cons e l ih =>
    intro a a1 a2 hp hle hle1 hI h3
    have hpl := (List.pairwise_cons.1 hp).2
    have hpe := (List.pairwise_cons.1 hp).1
    have hk : ∀ x ∈ l, cmpB e.key x.key ≤ 0 := fun x hx => before_key (hpe x hx)
    have hle' : ∀ x ∈ l, cmpB a x.key ≤ 0 := fun x hx => hle x (List.mem_cons_of_mem _ hx)
    have hle1' : ∀ x ∈ l, cmpB a1 x.key ≤ 0 := fun x hx => hle1 x (List.mem_cons_of_mem _ hx)
    have hI' : ∀ x ∈ l, (a1 = x.key ↔ a2 = x.key) ∨ (a = x.key ∧ a1 = x.key ∧ x.seq ≤ mark) := fun x hx => hI x (List.mem_cons_of_mem _ hx)
    have h3' : ∀ x ∈ l, a = x.key → a1 = x.key := fun x hx => h3 x (List.mem_cons_of_mem _ hx)
    have hmid : ∀ x ∈ l, a = x.key → e.key = x.key := fun x hx h => by
      have h1 := hle e (by simp)
      have h2 := hk x hx
      rw [← h] at h2 ⊢
      exact squeeze h2 h1
    have hmid1 : ∀ x ∈ l, a1 = x.key → e.key = x.key := fun x hx h => by
      have h1 := hle1 e (by simp)
      have h2 := hk x hx
      rw [← h] at h2 ⊢
      exact squeeze h2 h1
    rw [thinC]
    by_cases hs : e.seq ≤ mark
    · rw [if_pos hs]
      by_cases ha : a = e.key
      · have ha1 := h3 e (by simp) ha
        rw [if_pos ha, ih a a1 a2 hpl hle' hle1' hI' h3']
        conv => rhs; rw [visC]
        rw [if_neg (by omega), if_pos ha1]
      · rw [if_neg ha]
        have hiff : a1 = e.key ↔ a2 = e.key := by
          rcases hI e (by simp) with h | h
          · exact h
          · exact absurd h.1 ha
        by_cases hd : (e.dead && bottom) = true
        · rw [if_pos hd]
          have hdead : e.dead = true := by simp at hd; exact hd.1
          have step : visC seq a1 (e :: l) = visC seq e.key l := by
            rw [visC, if_neg (by omega)]
            by_cases h1 : a1 = e.key
            · rw [if_pos h1, h1]
            · rw [if_neg h1, if_pos hdead]
          rw [step]
          refine ih e.key e.key a2 hpl hk hk (fun x hx => ?_) (fun _ _ h => h)
          by_cases hx1 : e.key = x.key
          · exact .inr ⟨hx1, hx1, by have := before_seq (hpe x hx) hx1; omega⟩
          · refine .inl ⟨fun h => absurd h hx1, fun h => ?_⟩
            rcases hI' x hx with h4 | h4
            · exact hmid1 x hx (h4.2 h)
            · exact hmid x hx h4.1
        · rw [if_neg hd]
          rw [visC, visC, if_neg (show ¬ seq < e.seq by omega), if_neg (show ¬ seq < e.seq by omega)]
          by_cases h1 : a1 = e.key
          · rw [if_pos h1, if_pos (hiff.1 h1), h1, hiff.1 h1]
            exact ih e.key e.key e.key hpl hk hk (fun x hx => .inl Iff.rfl) (fun _ _ h => h)
          · rw [if_neg h1, if_neg (fun h => h1 (hiff.2 h)), ih e.key e.key e.key hpl hk hk (fun x hx => .inl Iff.rfl) (fun _ _ h => h)]
    · rw [if_neg hs]
      have hiff : a1 = e.key ↔ a2 = e.key := by
        rcases hI e (by simp) with h | h
        · exact h
        · exact absurd h.2.2 hs
      rw [visC, visC]
      by_cases hq : seq < e.seq
      · rw [if_pos hq, if_pos hq]
        exact ih a a1 a2 hpl hle' hle1' hI' h3'
      · rw [if_neg hq, if_neg hq]
        by_cases h1 : a1 = e.key
        · rw [if_pos h1, if_pos (hiff.1 h1)]
          exact ih a a1 a2 hpl hle' hle1' hI' h3'
        · rw [if_neg h1, if_neg (fun h => h1 (hiff.2 h)), ih a e.key e.key hpl hle' hk (fun x hx => .inl Iff.rfl) hmid]
theorem keeps_thin {mark : Int} {bottom : Bool} {l : List Ent} (h : orderedE l = true) : thinC mark bottom [] (thinC mark bottom [] l) = thinC mark bottom [] l :=
  thin_twice mark bottom l [] [] ((ordered_iff l).1 h).2 (fun _ _ => nil_le _) (fun _ _ h => h)
theorem keeps_vis {mark seq : Int} {bottom : Bool} {l : List Ent} (h : orderedE l = true) (hms : mark ≤ seq) : visC seq [] (thinC mark bottom [] l) = visC seq [] l :=
  vis_thin mark seq bottom hms l [] [] [] ((ordered_iff l).1 h).2 (fun _ _ => nil_le _) (fun _ _ => nil_le _) (fun _ _ => .inl Iff.rfl) (fun _ _ h => h)
end Go.Proofs.Ytelbidknefkaiaa
