/-
Plain: Thin's two answers are one.
-/
import Derived.Test.YtelbidknefkaiaaThin2
namespace Go.Proofs.Ytelbidknefkaiaa

theorem cmpB_nil {a : List UInt8} (h : 0 < a.length) : cmpB [] a < 0 := by
  cases a with
  | nil => simp at h
  | cons x l => simp [cmpB]
theorem goodE_key {e : Ent} (h : goodE e = true) : 0 < e.key.length := (goodR_t.1 h).1
theorem cmpE_lt {a b : Ent} (h : cmpE a b < 0) : cmpB a.key b.key < 0 ∨ (a.key = b.key ∧ b.seq < a.seq) := by
  unfold cmpE at h
  rcases cmpB_range a.key b.key with h1 | h1 | h1
  · left; omega
  · right
    have e1 := cmpB_eq.1 h1
    refine ⟨e1, ?_⟩
    simp [h1, cmpI] at h
    split at h <;> (try split at h) <;> omega
  · simp [h1] at h
theorem cmpB_irrefl {a : List UInt8} : ¬ cmpB a a < 0 := by rw [cmpB_self]; omega

/-- what Thin remembers, against the entry ahead. -/
def thinI (mark : Int) (a : List UInt8) : Option Ent → Prop
  | none => a = []
  | some p => if p.seq ≤ mark then a = p.key else cmpB a p.key < 0
theorem thin_eq (mark : Int) (bottom : Bool) : ∀ (es : List Ent) (a : List UInt8) (p : Option Ent), thinI mark a p → orderedFrom p es = true → thinC mark bottom a es = thinR mark bottom p es := by
  intro es
  induction es with
  | nil => intro a p _ _; simp [thinC, thinR]
  | cons e l ih =>
    intro a p hI ho
    have hg : goodE e = true := by cases p <;> simp [orderedFrom] at ho <;> simp [ho]
    have hol : orderedFrom (some e) l = true := by cases p <;> simp [orderedFrom] at ho <;> simp [ho]
    have hkey := goodE_key hg
    have hseen : e.seq ≤ mark → (a = e.key ↔ seenBy mark p e = true) := by
      intro hs
      cases p with
      | none =>
        simp only [thinI] at hI
        subst hI
        simp only [seenBy, Bool.false_eq_true, iff_false]
        intro h; rw [← h] at hkey; simp at hkey
      | some p =>
        have hlt : cmpE p e < 0 := by simp [orderedFrom] at ho; exact ho.2.1
        simp only [thinI] at hI
        simp only [seenBy, Bool.and_eq_true, decide_eq_true_eq]
        by_cases hp : p.seq ≤ mark
        · rw [if_pos hp] at hI
          subst hI
          exact ⟨fun h => ⟨h, hp⟩, fun h => h.1⟩
        · rw [if_neg hp] at hI
          constructor
          · intro h
            subst h
            rcases cmpE_lt hlt with h1 | h1
            · exact absurd (cmpB_trans hI h1) cmpB_irrefl
            · rw [h1.1] at hI; exact absurd hI cmpB_irrefl
          · intro h; exact absurd h.2 hp
    have hnext : ¬ e.seq ≤ mark → thinI mark a (some e) := by
      intro hs
      simp only [thinI, if_neg hs]
      cases p with
      | none => simp only [thinI] at hI; subst hI; exact cmpB_nil hkey
      | some p =>
        have hlt : cmpE p e < 0 := by simp [orderedFrom] at ho; exact ho.2.1
        simp only [thinI] at hI
        by_cases hp : p.seq ≤ mark
        · rw [if_pos hp] at hI
          subst hI
          rcases cmpE_lt hlt with h1 | h1
          · exact h1
          · omega
        · rw [if_neg hp] at hI
          rcases cmpE_lt hlt with h1 | h1
          · exact cmpB_trans hI h1
          · rw [← h1.1]; exact hI
    have hkeep : e.seq ≤ mark → thinI mark e.key (some e) := by intro hs; simp [thinI, hs]
    simp only [thinC, thinR]
    by_cases hs : e.seq ≤ mark
    · rw [if_pos hs, if_neg (show ¬ mark < e.seq by omega)]
      by_cases ha : a = e.key
      · rw [if_pos ha, if_pos ((hseen hs).1 ha)]
        exact ih _ _ (by rw [ha]; exact hkeep hs) hol
      · rw [if_neg ha, if_neg (fun h => ha ((hseen hs).2 h))]
        have := ih e.key (some e) (hkeep hs) hol
        rw [this]
        rcases hd : e.dead with _ | _ <;> rcases hb : bottom with _ | _ <;> simp
    · rw [if_neg hs, if_pos (show mark < e.seq by omega)]
      rw [ih a (some e) (hnext hs) hol]
theorem thin_law {mark : Int} {bottom : Bool} {es : List Ent} (h : orderedE es = true) : thinC mark bottom [] es = thinR mark bottom none es := thin_eq mark bottom es [] none rfl h
end Go.Proofs.Ytelbidknefkaiaa
