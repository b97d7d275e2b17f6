/-
Plain words: bytes in order, entries and their order. No program in sight.
-/
import Derived.KernelRfl
namespace Go.Proofs.Ytelbidknefkaiaa

/-- bytes in order: -1, 0, 1 -/
def cmpB : List UInt8 → List UInt8 → Int
  | [], [] => 0
  | [], _ :: _ => -1
  | _ :: _, [] => 1
  | a :: l, b :: m => if a < b then -1 else if b < a then 1 else cmpB l m
theorem cmpB_range (a b : List UInt8) : cmpB a b = -1 ∨ cmpB a b = 0 ∨ cmpB a b = 1 := by
  induction a generalizing b with
  | nil => cases b <;> simp [cmpB]
  | cons x l ih =>
    cases b with
    | nil => simp [cmpB]
    | cons y m => simp only [cmpB]; split <;> (try split) <;> simp [ih]
theorem cmpB_self (a : List UInt8) : cmpB a a = 0 := by
  induction a with
  | nil => rfl
  | cons x l ih => simp [cmpB, ih]
theorem cmpB_eq {a b : List UInt8} : cmpB a b = 0 ↔ a = b := by
  constructor
  · intro h
    induction a generalizing b with
    | nil => cases b with
      | nil => rfl
      | cons y m => simp [cmpB] at h
    | cons x l ih =>
      cases b with
      | nil => simp [cmpB] at h
      | cons y m =>
        simp only [cmpB] at h
        split at h
        · omega
        · split at h
          · omega
          · rename_i h1 h2
            have hxy : x = y := by
              have := UInt8.le_antisymm (UInt8.not_lt.1 h2) (UInt8.not_lt.1 h1)
              exact this
            rw [hxy, ih h]
  · rintro rfl
    exact cmpB_self a
theorem cmpB_swap (a b : List UInt8) : cmpB b a = - cmpB a b := by
  induction a generalizing b with
  | nil => cases b <;> simp [cmpB]
  | cons x l ih =>
    cases b with
    | nil => simp [cmpB]
    | cons y m =>
      simp only [cmpB]
      by_cases h1 : x < y
      · have h2 : ¬ y < x := fun h => absurd (UInt8.lt_trans h1 h) (UInt8.lt_irrefl _)
        simp [h1, h2]
      · by_cases h2 : y < x
        · simp [h1, h2]
        · simp [h1, h2, ih]
theorem cmpB_trans {a b c : List UInt8} (h1 : cmpB a b < 0) (h2 : cmpB b c < 0) : cmpB a c < 0 := by
  induction a generalizing b c with
  | nil =>
    cases b with
    | nil => simp [cmpB] at h1
    | cons y m => cases c with
      | nil => simp [cmpB] at h2
      | cons z k => simp [cmpB]
  | cons x l ih =>
    cases b with
    | nil => simp [cmpB] at h1
    | cons y m =>
      cases c with
      | nil => simp [cmpB] at h2
      | cons z k =>
        simp only [cmpB] at h1 h2 ⊢
        by_cases a1 : x < y
        · by_cases a2 : y < z
          · simp [UInt8.lt_trans a1 a2]
          · by_cases a3 : z < y
            · simp [a2, a3] at h2
            · have e : y = z := UInt8.le_antisymm (UInt8.not_lt.1 a3) (UInt8.not_lt.1 a2)
              subst e
              simp [a1]
        · by_cases a2 : y < x
          · simp [a1, a2] at h1
          · have e : x = y := UInt8.le_antisymm (UInt8.not_lt.1 a2) (UInt8.not_lt.1 a1)
            subst e
            simp [a1] at h1
            by_cases a3 : x < z
            · simp [a3]
            · by_cases a4 : z < x
              · simp [a3, a4] at h2
              · simp [a3, a4] at h2 ⊢
                exact ih h1 h2

/-- an entry -/
structure Ent where
  key : List UInt8
  seq : Int
  dead : Bool
  val : List UInt8
deriving DecidableEq

/-- may an entry be, by its key's length, its number, whether it is dead, its value's length -/
def goodR (n : Nat) (seq : Int) (dead : Bool) (m : Nat) : Bool := decide (0 < n) && (decide (n ≤ 200) && (decide (0 < seq) && (decide (seq ≤ 1099511627776) && (decide (m ≤ 4096) && !(dead && decide (0 < m))))))
def goodE (e : Ent) : Bool := goodR e.key.length e.seq e.dead e.val.length
theorem goodR_t {n : Nat} {seq : Int} {dead : Bool} {m : Nat} : goodR n seq dead m = true ↔ 0 < n ∧ n ≤ 200 ∧ 0 < seq ∧ seq ≤ 1099511627776 ∧ m ≤ 4096 ∧ (dead = true → m = 0) := by
  unfold goodR
  cases dead <;> simp <;> omega
theorem goodR_f {n : Nat} {seq : Int} {dead : Bool} {m : Nat} (h : ¬ (0 < n ∧ n ≤ 200 ∧ 0 < seq ∧ seq ≤ 1099511627776 ∧ m ≤ 4096 ∧ (dead = true → m = 0))) : goodR n seq dead m = false := by
  rcases hb : goodR n seq dead m with _ | _
  · rfl
  · exact absurd (goodR_t.1 hb) h
def cmpI (a b : Int) : Int := if a < b then -1 else if b < a then 1 else 0
def cmpE (a b : Ent) : Int := if cmpB a.key b.key = 0 then cmpI b.seq a.seq else cmpB a.key b.key
theorem cmpI_swap (a b : Int) : cmpI b a = - cmpI a b := by unfold cmpI; split <;> split <;> omega
theorem cmpI_range (a b : Int) : cmpI a b = -1 ∨ cmpI a b = 0 ∨ cmpI a b = 1 := by unfold cmpI; split <;> (try split) <;> omega
theorem cmpE_swap (a b : Ent) : cmpE b a = - cmpE a b := by
  unfold cmpE
  rw [cmpB_swap a.key b.key, cmpI_swap b.seq a.seq]
  split <;> split <;> omega
theorem cmpE_range (a b : Ent) : cmpE a b = -1 ∨ cmpE a b = 0 ∨ cmpE a b = 1 := by
  unfold cmpE
  split
  · exact cmpI_range _ _
  · exact cmpB_range _ _
theorem cmpE_eq {a b : Ent} : cmpE a b = 0 ↔ a.key = b.key ∧ a.seq = b.seq := by
  unfold cmpE
  split
  · rename_i h
    rw [cmpB_eq] at h
    unfold cmpI
    constructor
    · intro h2
      refine ⟨h, ?_⟩
      split at h2 <;> (try split at h2) <;> omega
    · rintro ⟨_, h2⟩
      rw [h2]; simp
  · rename_i h
    constructor
    · intro h2; exact absurd h2 h
    · rintro ⟨h2, _⟩; exact absurd (cmpB_eq.2 h2) h
theorem cmpE_trans {a b c : Ent} (h1 : cmpE a b < 0) (h2 : cmpE b c < 0) : cmpE a c < 0 := by
  unfold cmpE at *
  by_cases k1 : cmpB a.key b.key = 0
  · have e1 := cmpB_eq.1 k1
    rw [if_pos k1] at h1
    rw [e1]
    by_cases k2 : cmpB b.key c.key = 0
    · rw [if_pos k2] at h2 ⊢
      unfold cmpI at *
      split at h1 <;> split at h2 <;> split <;> (try split at h1) <;> (try split at h2) <;> (try split) <;> omega
    · rw [if_neg k2] at h2 ⊢
      exact h2
  · rw [if_neg k1] at h1
    by_cases k2 : cmpB b.key c.key = 0
    · have e2 := cmpB_eq.1 k2
      rw [← e2, if_neg k1]
      exact h1
    · rw [if_neg k2] at h2
      have h3 := cmpB_trans h1 h2
      rw [if_neg (by omega)]
      exact h3

/-- all may be, and they are in order -/
def orderedFrom : Option Ent → List Ent → Bool
  | _, [] => true
  | none, e :: l => goodE e && orderedFrom (some e) l
  | some p, e :: l => goodE e && (decide (cmpE p e < 0) && orderedFrom (some e) l)
def orderedE (l : List Ent) : Bool := orderedFrom none l
end Go.Proofs.Ytelbidknefkaiaa
