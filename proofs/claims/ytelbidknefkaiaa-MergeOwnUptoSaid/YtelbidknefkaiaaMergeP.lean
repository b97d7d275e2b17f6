/-
Plain: what merge.Merge reckons, on lists.
-/
import Derived.Test.YtelbidknefkaiaaHeapP
import Derived.Test.YtelbidknefkaiaaOrd
namespace Go.Proofs.Ytelbidknefkaiaa
section
variable {α β : Type}
theorem swapL_map (g : α → β) (l : List α) (i j : Nat) : (swapL l i j).map g = swapL (l.map g) i j := by
  unfold swapL
  simp only [List.getElem?_map]
  cases l[i]? <;> cases l[j]? <;> simp
theorem siftUp_map (g : α → β) (f : β → List Ent) (l : List α) (i : Nat) : (siftUp (fun x => f (g x)) l i).map g = siftUp f (l.map g) i := by
  induction i using Nat.strongRecOn generalizing l with
  | ind i ih =>
    cases i with
    | zero => rw [siftUp, siftUp]
    | succ i =>
      rw [siftUp, siftUp]
      simp only [List.getElem?_map]
      cases l[i / 2]? with
      | none => simp
      | some a =>
        cases l[i + 1]? with
        | none => simp
        | some b =>
          simp only [Option.map_some]
          split
          · rfl
          · rw [ih (i / 2) (by omega), swapL_map]
theorem leastStep_map (g : α → β) (f : β → List Ent) (l : List α) (k m : Nat) : leastStep (fun x => f (g x)) l k m = leastStep f (l.map g) k m := by
  unfold leastStep
  simp only [List.getElem?_map]
  cases l[k]? <;> cases l[m]? <;> simp
theorem lst_map (g : α → β) (f : β → List Ent) (l : List α) (i j : Nat) : lst (fun x => f (g x)) l i j = lst f (l.map g) i j := by
  induction j with
  | zero => rfl
  | succ j ih => rw [lst, lst, ih, leastStep_map]
theorem siftDown_map (g : α → β) (f : β → List Ent) (l : List α) (i : Nat) : (siftDown (fun x => f (g x)) l i).map g = siftDown f (l.map g) i := by
  induction hn : l.length - i using Nat.strongRecOn generalizing l i with
  | ind n ih =>
    conv => lhs; rw [siftDown]
    conv => rhs; rw [siftDown]
    rw [← lst_map]
    by_cases h : lst (fun x => f (g x)) l i 2 = i
    · rw [dif_pos h, dif_pos h]
    · rw [dif_neg h, dif_neg h, ← swapL_map]
      have := lst_or (fun x => f (g x)) l i 2
      exact ih _ (by rw [swapL_len]; omega) _ _ rfl
theorem popL_map (g : α → β) (f : β → List Ent) (l : List α) : (popL (fun x => f (g x)) l).map g = popL f (l.map g) := by
  unfold popL
  simp only [List.length_map, List.getElem?_map]
  cases l[l.length - 1]? with
  | none => simp
  | some z => simp [siftDown_map, List.map_take, List.map_set]
theorem popL_len (f : α → List Ent) (l : List α) : (popL f l).length = l.length - 1 := by
  unfold popL
  split
  · rw [(siftDown_perm _ _ _).length_eq]; simp
  · rename_i h
    have := List.getElem?_eq_none_iff.1 h
    simp; omega
def pushL (f : α → List Ent) (l : List α) (q : α) : List α := siftUp f (l ++ [q]) l.length
theorem pushL_map (g : α → β) (f : β → List Ent) (l : List α) (q : α) : (pushL (fun x => f (g x)) l q).map g = pushL f (l.map g) (g q) := by
  unfold pushL; rw [siftUp_map]; simp
theorem pushL_perm (f : α → List Ent) (l : List α) (q : α) : (pushL f l q).Perm (l ++ [q]) := siftUp_perm _ _ _
/-- all but the top is what pop leaves. -/
theorem popL_perm (f : α → List Ent) (a : α) (l : List α) : (a :: popL f (a :: l)).Perm (a :: l) := by
  refine List.Perm.cons a ?_
  unfold popL
  have e1 : (a :: l).length - 1 = l.length := by simp
  rw [e1]
  cases hz : (a :: l)[l.length]? with
  | none => have := List.getElem?_eq_none_iff.1 hz; simp only [List.length_cons] at this; omega
  | some z =>
    refine (siftDown_perm _ _ _).trans ?_
    cases l with
    | nil => simp
    | cons b l =>
      simp only [List.length_cons, List.getElem?_cons_succ] at hz
      have hz' : z = (b :: l).getLast (by simp) := by
        obtain ⟨_, e⟩ := List.getElem?_eq_some_iff.1 hz
        rw [List.getLast_eq_getElem, ← e]; rfl
      have e2 : ((a :: b :: l).set 0 z).take (b :: l).length = z :: (b :: l).dropLast := by
        simp [List.dropLast_eq_take]
      rw [e2]
      have e3 := List.dropLast_concat_getLast (l := b :: l) (by simp)
      rw [← hz'] at e3
      have : (z :: (b :: l).dropLast).Perm ((b :: l).dropLast ++ [z]) := by
        simpa using (List.perm_append_comm (l₁ := [z]) (l₂ := (b :: l).dropLast))
      rw [e3] at this
      exact this
end
/-- the heap of some lists. -/
def heapOf (ls : List (List Ent)) : List (List Ent) := ls.foldl (fun hs l => if l = [] then hs else pushL id hs l) []
theorem heapOf_snoc (ls : List (List Ent)) (l : List Ent) : heapOf (ls ++ [l]) = if l = [] then heapOf ls else pushL id (heapOf ls) l := by
  simp [heapOf, List.foldl_append]
/-- is the last one like this? -/
def twice (out : List Ent) (e : Ent) : Bool := match out.getLast? with | some o => decide (cmpE o e = 0) | none => false
theorem twice_snoc (out : List Ent) (o e : Ent) : twice (out ++ [o]) e = decide (cmpE o e = 0) := by simp [twice]
def mergeGo : Nat → List (List Ent) → List Ent → List Ent × Int
  | 0, _, out => (out, 0)
  | k + 1, hs, out =>
    match hs with
    | (e :: l) :: _ => if twice out e = true then ([], 31) else mergeGo k (if l = [] then popL id hs else pushL id (popL id hs) l) (out ++ [e])
    | _ => (out, 0)
def total (hs : List (List Ent)) : Nat := hs.flatten.length
theorem total_perm {a b : List (List Ent)} (h : a.Perm b) : total a = total b := h.flatten.length_eq
def mergeC (ls : List (List Ent)) : List Ent × Int := if ls.all orderedE = true then mergeGo (total ls) (heapOf ls) [] else ([], 30)
theorem heapOf_perm' (ls : List (List Ent)) : ∀ hs : List (List Ent), (ls.foldl (fun hs l => if l = [] then hs else pushL id hs l) hs).Perm (hs ++ ls.filter (fun l => decide (l ≠ []))) := by
  induction ls with
  | nil => intro hs; simp
  | cons l ls ih =>
    intro hs
    rw [List.foldl_cons]
    refine (ih _).trans ?_
    by_cases h : l = []
    · simp [h]
    · rw [if_neg h, List.filter_cons, if_pos (by simp [h])]
      refine ((pushL_perm _ _ _).append_right _).trans ?_
      rw [List.append_assoc]; exact List.Perm.refl _
theorem heapOf_perm (ls : List (List Ent)) : (heapOf ls).Perm (ls.filter (fun l => decide (l ≠ []))) := by
  have := heapOf_perm' ls []
  rw [List.nil_append] at this
  exact this
theorem filter_flatten (ls : List (List Ent)) : (ls.filter (fun l => decide (l ≠ []))).flatten = ls.flatten := by
  induction ls with
  | nil => rfl
  | cons l ls ih =>
    by_cases h : l = []
    · simp [h]; simpa using ih
    · rw [List.filter_cons, if_pos (by simp [h]), List.flatten_cons, List.flatten_cons, ih]
theorem heapOf_total (ls : List (List Ent)) : total (heapOf ls) = total ls := by
  rw [total_perm (heapOf_perm ls), total, filter_flatten]; rfl
theorem total_pop (e : Ent) (l : List Ent) (hs : List (List Ent)) : total (popL id ((e :: l) :: hs)) + (l.length + 1) = total ((e :: l) :: hs) := by
  have := total_perm (popL_perm id (e :: l) hs)
  unfold total at this ⊢
  rw [← this]; simp; omega
theorem total_push (l : List Ent) (hs : List (List Ent)) : total (pushL id hs l) = total hs + l.length := by
  rw [total_perm (pushL_perm id hs l)]
  simp [total]
end Go.Proofs.Ytelbidknefkaiaa
