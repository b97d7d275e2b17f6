/-
Plain: Visible's two answers are one.
-/
import Derived.Test.YtelbidknefkaiaaThinP
import Derived.Test.YtelbidknefkaiaaVis2
namespace Go.Proofs.Ytelbidknefkaiaa

theorem thinI_seen {mark : Int} {a : List UInt8} {p : Option Ent} {e : Ent} {l : List Ent} (hI : thinI mark a p) (ho : orderedFrom p (e :: l) = true) : a = e.key ↔ seenBy mark p e = true := by
  have hg : goodE e = true := by cases p <;> simp [orderedFrom] at ho <;> simp [ho]
  have hkey := goodE_key hg
  cases p with
  | none =>
    simp only [thinI] at hI
    subst hI
    simp only [seenBy, Bool.false_eq_true, iff_false]
    intro h; rw [← h] at hkey; simp at hkey
  | some p =>
    have hlt : cmpE p e < 0 := by simp [orderedFrom] at ho; exact ho.2.1
    simp only [thinI] at hI
    simp only [seenBy, Bool.and_eq_true, decide_eq_true_eq]
    by_cases hp : p.seq ≤ mark
    · rw [if_pos hp] at hI
      subst hI
      exact ⟨fun h => ⟨h, hp⟩, fun h => h.1⟩
    · rw [if_neg hp] at hI
      constructor
      · intro h
        subst h
        rcases cmpE_lt hlt with h1 | h1
        · exact absurd (cmpB_trans hI h1) cmpB_irrefl
        · rw [h1.1] at hI; exact absurd hI cmpB_irrefl
      · intro h; exact absurd h.2 hp
theorem thinI_next {mark : Int} {a : List UInt8} {p : Option Ent} {e : Ent} {l : List Ent} (hI : thinI mark a p) (ho : orderedFrom p (e :: l) = true) (hs : ¬ e.seq ≤ mark) : thinI mark a (some e) := by
  have hg : goodE e = true := by cases p <;> simp [orderedFrom] at ho <;> simp [ho]
  have hkey := goodE_key hg
  simp only [thinI, if_neg hs]
  cases p with
  | none => simp only [thinI] at hI; subst hI; exact cmpB_nil hkey
  | some p =>
    have hlt : cmpE p e < 0 := by simp [orderedFrom] at ho; exact ho.2.1
    simp only [thinI] at hI
    by_cases hp : p.seq ≤ mark
    · rw [if_pos hp] at hI
      subst hI
      rcases cmpE_lt hlt with h1 | h1
      · exact h1
      · omega
    · rw [if_neg hp] at hI
      rcases cmpE_lt hlt with h1 | h1
      · exact cmpB_trans hI h1
      · rw [← h1.1]; exact hI
theorem seenBy_seq {mark : Int} {p : Option Ent} {e : Ent} {l : List Ent} (ho : orderedFrom p (e :: l) = true) (h : seenBy mark p e = true) : e.seq ≤ mark := by
  cases p with
  | none => simp [seenBy] at h
  | some p =>
    have hlt : cmpE p e < 0 := by simp [orderedFrom] at ho; exact ho.2.1
    simp only [seenBy, Bool.and_eq_true, decide_eq_true_eq] at h
    rcases cmpE_lt hlt with h1 | h1
    · rw [h.1] at h1; exact absurd h1 cmpB_irrefl
    · omega
theorem vis_eq (seq : Int) : ∀ (es : List Ent) (a : List UInt8) (p : Option Ent), thinI seq a p → orderedFrom p es = true → visC seq a es = visR seq p es := by
  intro es
  induction es with
  | nil => intro a p _ _; simp [visC, visR]
  | cons e l ih =>
    intro a p hI ho
    have hol : orderedFrom (some e) l = true := by cases p <;> simp [orderedFrom] at ho <;> simp [ho]
    have hseen := thinI_seen hI ho
    simp only [visC, visR]
    by_cases hs : e.seq ≤ seq
    · have hkeep : thinI seq e.key (some e) := by simp [thinI, hs]
      rw [if_neg (show ¬ seq < e.seq by omega)]
      by_cases ha : a = e.key
      · rw [if_pos ha, if_pos (hseen.1 ha)]
        exact ih _ _ (by rw [ha]; exact hkeep) hol
      · rw [if_neg ha, if_neg (fun h => ha (hseen.2 h)), ih e.key (some e) hkeep hol]
        rcases hd : e.dead with _ | _ <;> simp [hs]
    · rw [if_pos (show seq < e.seq by omega), if_neg (fun h => hs (seenBy_seq ho h)), ih a (some e) (thinI_next hI ho hs) hol]
      simp [hs]
theorem vis_law {seq : Int} {es : List Ent} (h : orderedE es = true) : visC seq [] es = visR seq none es := vis_eq seq es [] none rfl h
end Go.Proofs.Ytelbidknefkaiaa
