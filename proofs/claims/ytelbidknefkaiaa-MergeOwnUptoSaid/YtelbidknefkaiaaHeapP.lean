/-
Plain: the heap that merge keeps, on lists.
-/
import Derived.Test.YtelbidknefkaiaaEntP
namespace Go.Proofs.Ytelbidknefkaiaa

/-- the order of two lists: that of their heads. -/
def cmpL : List Ent → List Ent → Int
  | a :: _, b :: _ => cmpE a b
  | _, _ => 0
section
variable {α : Type}
def swapL (l : List α) (i j : Nat) : List α :=
  match l[i]?, l[j]? with
  | some a, some b => (l.set i b).set j a
  | _, _ => l
theorem swapL_len (l : List α) (i j : Nat) : (swapL l i j).length = l.length := by
  unfold swapL; split <;> simp
theorem swapL_at {l : List α} {i j : Nat} {a b : α} (hi : l[i]? = some a) (hj : l[j]? = some b) : swapL l i j = (l.set i b).set j a := by
  simp [swapL, hi, hj]
theorem swapL_perm (l : List α) (i j : Nat) : (swapL l i j).Perm l := by
  unfold swapL
  split
  · rename_i a b hi hj
    obtain ⟨h1, e1⟩ := List.getElem?_eq_some_iff.1 hi
    obtain ⟨h2, e2⟩ := List.getElem?_eq_some_iff.1 hj
    subst e1 e2
    exact List.set_set_perm h1 h2
  · exact List.Perm.refl _
/-- the way up. -/
def siftUp (f : α → List Ent) (l : List α) : Nat → List α
  | 0 => l
  | i + 1 =>
    match l[i / 2]?, l[i + 1]? with
    | some a, some b => if cmpL (f a) (f b) ≤ 0 then l else siftUp f (swapL l (i / 2) (i + 1)) (i / 2)
    | _, _ => l
termination_by i => i
theorem siftUp_perm (f : α → List Ent) (l : List α) (i : Nat) : (siftUp f l i).Perm l := by
  induction i using Nat.strongRecOn generalizing l with
  | ind i ih =>
    cases i with
    | zero => rw [siftUp]
    | succ i =>
      rw [siftUp]
      split
      · split
        · exact List.Perm.refl _
        · exact (ih (i / 2) (by omega) _).trans (swapL_perm _ _ _)
      · exact List.Perm.refl _
/-- the way down: the least of three. -/
def leastStep (f : α → List Ent) (l : List α) (k m : Nat) : Nat :=
  match l[k]?, l[m]? with
  | some a, some b => if cmpL (f a) (f b) < 0 then k else m
  | _, _ => m
def lst (f : α → List Ent) (l : List α) (i : Nat) : Nat → Nat
  | 0 => i
  | j + 1 => leastStep f l (2 * i + 1 + j) (lst f l i j)
theorem leastStep_or (f : α → List Ent) (l : List α) (k m : Nat) : leastStep f l k m = m ∨ (leastStep f l k m = k ∧ k < l.length) := by
  unfold leastStep
  split
  · rename_i a b hk hm
    split
    · exact .inr ⟨rfl, (List.getElem?_eq_some_iff.1 hk).1⟩
    · exact .inl rfl
  · exact .inl rfl
theorem lst_or (f : α → List Ent) (l : List α) (i j : Nat) : lst f l i j = i ∨ (i < lst f l i j ∧ lst f l i j < l.length) := by
  induction j with
  | zero => exact .inl rfl
  | succ j ih =>
    rw [lst]
    rcases leastStep_or f l (2 * i + 1 + j) (lst f l i j) with h | ⟨h, h'⟩
    · rw [h]; exact ih
    · rw [h]; exact .inr ⟨by omega, h'⟩
theorem lst_two (f : α → List Ent) (l : List α) (i j : Nat) (hj : j ≤ 2) (h : j = 2 ∨ l.length ≤ 2 * i + 1 + j) : lst f l i 2 = lst f l i j := by
  have st : ∀ k m, l.length ≤ k → leastStep f l k m = m := fun k m hk => by
    rcases leastStep_or f l k m with h | ⟨h, h'⟩
    · exact h
    · omega
  rcases h with rfl | h
  · rfl
  · match j, hj, h with
    | 0, _, h => exact (st _ _ (by omega)).trans (st _ _ (by omega))
    | 1, _, h => exact st _ _ (by omega)
    | 2, _, h => rfl
def siftDown (f : α → List Ent) (l : List α) (i : Nat) : List α :=
  if _h : lst f l i 2 = i then l else siftDown f (swapL l i (lst f l i 2)) (lst f l i 2)
termination_by l.length - i
decreasing_by
  rw [swapL_len]
  rcases lst_or f l i 2 with h' | h'
  · exact absurd h' _h
  · omega
theorem siftDown_perm (f : α → List Ent) (l : List α) (i : Nat) : (siftDown f l i).Perm l := by
  induction hn : l.length - i using Nat.strongRecOn generalizing l i with
  | ind n ih =>
    rw [siftDown]
    split
    · exact List.Perm.refl _
    · rename_i h
      have := lst_or f l i 2
      refine (ih _ ?_ _ _ rfl).trans (swapL_perm _ _ _)
      rw [swapL_len]; omega
/-- what pop leaves. -/
def popL (f : α → List Ent) (l : List α) : List α :=
  match l[l.length - 1]? with
  | some z => siftDown f ((l.set 0 z).take (l.length - 1)) 0
  | none => []
end
end Go.Proofs.Ytelbidknefkaiaa
