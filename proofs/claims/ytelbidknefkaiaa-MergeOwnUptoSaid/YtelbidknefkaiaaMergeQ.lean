/-
Plain: what Merge answers: the lists' entries in order, or that two are alike.
-/
import Derived.Test.YtelbidknefkaiaaHeapQ
import Derived.Test.YtelbidknefkaiaaKeepsP
namespace Go.Proofs.Ytelbidknefkaiaa

theorem mergeGo_step1 {K : Nat} {e : Ent} {l : List Ent} {hs : List (List Ent)} {out : List Ent} :
    mergeGo (K + 1) ((e :: l) :: hs) out = if twice out e = true then ([], 31) else mergeGo K (if l = [] then popL id ((e :: l) :: hs) else pushL id (popL id ((e :: l) :: hs)) l) (out ++ [e]) := rfl
def NoTwice (l : List Ent) : Prop := l.Pairwise (fun a b => cmpE a b ≠ 0)
theorem cmpE_ne_symm {a b : Ent} (h : cmpE a b ≠ 0) : cmpE b a ≠ 0 := by have := cmpE_swap a b; omega
theorem noTwice_perm {l l' : List Ent} (h : l.Perm l') : NoTwice l ↔ NoTwice l' := h.pairwise_iff (fun h => cmpE_ne_symm h)
theorem before_noTwice {l : List Ent} (h : l.Pairwise before) : NoTwice l := h.imp fun h => by have : cmpE _ _ < 0 := h; omega
theorem before_eq : ∀ {l l' : List Ent}, l.Perm l' → l.Pairwise before → l'.Pairwise before → l = l'
  | [], l', h, _, _ => by rw [List.nil_perm] at h; exact h.symm
  | a :: l, [], h, _, _ => by have := h.length_eq; simp at this
  | a :: l, b :: l', h, h1, h2 => by
    have ha : a = b := by
      rcases List.mem_cons.1 (h.subset (List.mem_cons_self)) with e | e
      · exact e
      · rcases List.mem_cons.1 (h.symm.subset (List.mem_cons_self)) with e' | e'
        · exact e'.symm
        · have q1 : cmpE a b < 0 := (List.pairwise_cons.1 h1).1 b e'
          have q2 : cmpE b a < 0 := (List.pairwise_cons.1 h2).1 a e
          have := cmpE_swap a b
          omega
    subst ha
    rw [before_eq (List.Perm.cons_inv h) (List.pairwise_cons.1 h1).2 (List.pairwise_cons.1 h2).2]

theorem mergeGo_spec : ∀ (k : Nat) (hs : List (List Ent)) (out : List Ent), (∀ l ∈ hs, l ≠ [] ∧ l.Pairwise before) → Heap id (fun _ => False) hs → out.Pairwise before → (∀ o ∈ out, ∀ x ∈ hs.flatten, cmpE o x ≤ 0) → total hs = k →
    (∃ r, mergeGo k hs out = (r, 0) ∧ r.Perm (out ++ hs.flatten) ∧ r.Pairwise before) ∨ (mergeGo k hs out = ([], 31) ∧ ¬ NoTwice (out ++ hs.flatten)) := by
  intro k
  induction k with
  | zero =>
    intro hs out _ _ hp _ hk
    have : hs.flatten = [] := List.eq_nil_of_length_eq_zero hk
    exact .inl ⟨out, rfl, by rw [this, List.append_nil], hp⟩
  | succ k ih =>
    intro hs out hne hh hp hle hk
    cases hs with
    | nil => simp [total] at hk
    | cons t hs =>
      cases t with
      | nil => exact absurd rfl (hne [] (by simp)).1
      | cons e l =>
        have hnes : ∀ a ∈ ((e :: l) :: hs), id a ≠ [] := fun a ha => (hne a ha).1
        have hmin : ∀ x ∈ ((e :: l) :: hs).flatten, cmpE e x ≤ 0 := by
          intro x hx
          obtain ⟨l1, hl1, hx1⟩ := List.mem_flatten.1 hx
          obtain ⟨j, hj⟩ := List.getElem?_of_mem hl1
          have htop := heap_top id _ hnes hh (t := e :: l) rfl j l1 hj
          obtain ⟨hn1, hp1⟩ := hne l1 hl1
          cases l1 with
          | nil => exact absurd rfl hn1
          | cons y l1 =>
            have h1 : cmpE e y ≤ 0 := htop
            rcases List.mem_cons.1 hx1 with rfl | h2
            · exact h1
            · have h3 : cmpE y x < 0 := (List.pairwise_cons.1 hp1).1 x h2
              exact cmpE_le_trans h1 (by omega)
        have hel : e ∈ ((e :: l) :: hs).flatten := by simp
        rw [mergeGo_step1]
        by_cases htw : twice out e = true
        · rw [if_pos htw]
          refine .inr ⟨rfl, fun hnt => ?_⟩
          rcases List.eq_nil_or_concat out with hn | ⟨os, o, hc⟩
          · rw [hn] at htw; simp [twice] at htw
          · rw [List.concat_eq_append] at hc
            rw [hc, twice_snoc] at htw
            exact (List.pairwise_append.1 hnt).2.2 o (by rw [hc]; simp) e hel (of_decide_eq_true htw)
        · rw [if_neg htw]
          have hlt : ∀ o ∈ out, before o e := by
            rcases List.eq_nil_or_concat out with hn | ⟨os, q, hc⟩
            · rw [hn]; intro o ho; simp at ho
            · rw [List.concat_eq_append] at hc
              rw [hc, twice_snoc] at htw
              have hqe : cmpE q e < 0 := by
                have h1 := hle q (by rw [hc]; simp) e hel
                have h2 : ¬ cmpE q e = 0 := fun h => htw (decide_eq_true h)
                omega
              intro o ho
              rw [hc] at ho hp
              rcases List.mem_append.1 ho with h1 | h1
              · exact cmpE_trans ((List.pairwise_append.1 hp).2.2 o h1 q (by simp)) hqe
              · simp at h1; subst h1; exact hqe
          have hpop : (popL id ((e :: l) :: hs)).Perm hs := List.Perm.cons_inv (popL_perm id (e :: l) hs)
          have hpl : l.Pairwise before := (List.pairwise_cons.1 (hne (e :: l) (by simp)).2).2
          have hperm : (if l = [] then popL id ((e :: l) :: hs) else pushL id (popL id ((e :: l) :: hs)) l).flatten.Perm (l ++ hs.flatten) := by
            split
            · rename_i h0
              rw [h0, List.nil_append]
              have := hpop.flatten
              rwa [h0] at this
            · refine (pushL_perm id _ l).flatten.trans ?_
              rw [List.flatten_append]
              refine (List.perm_append_comm).trans ?_
              simpa using hpop.flatten.append_left l
          have hne' : ∀ l1 ∈ (if l = [] then popL id ((e :: l) :: hs) else pushL id (popL id ((e :: l) :: hs)) l), l1 ≠ [] ∧ l1.Pairwise before := by
            intro l1 h1
            split at h1
            · exact hne l1 (List.mem_cons_of_mem _ (hpop.subset h1))
            · rename_i h0
              rcases List.mem_append.1 ((pushL_perm id _ l).subset h1) with h2 | h2
              · exact hne l1 (List.mem_cons_of_mem _ (hpop.subset h2))
              · simp at h2; subst h2; exact ⟨h0, hpl⟩
          have hheap : Heap id (fun _ => False) (if l = [] then popL id ((e :: l) :: hs) else pushL id (popL id ((e :: l) :: hs)) l) := by
            have hp0 := popL_heap id _ hnes hh
            split
            · exact hp0
            · rename_i h0
              exact pushL_heap id _ l (fun a ha => (hne a (List.mem_cons_of_mem _ (hpop.subset ha))).1) h0 hp0
          have hsub : ∀ x ∈ (if l = [] then popL id ((e :: l) :: hs) else pushL id (popL id ((e :: l) :: hs)) l).flatten, x ∈ ((e :: l) :: hs).flatten := by
            intro x hx
            have := hperm.subset hx
            simp only [List.flatten_cons, List.cons_append]
            exact List.mem_cons_of_mem _ this
          have hfin : ((out ++ [e]) ++ (if l = [] then popL id ((e :: l) :: hs) else pushL id (popL id ((e :: l) :: hs)) l).flatten).Perm (out ++ ((e :: l) :: hs).flatten) := by
            rw [List.append_assoc]
            refine List.Perm.append_left out ?_
            simpa using hperm.cons e
          have := ih _ (out ++ [e]) hne' hheap (by
              rw [List.pairwise_append]
              exact ⟨hp, by simp, fun o ho x hx => by simp at hx; subst hx; exact hlt o ho⟩)
            (by
              intro o ho x hx
              rcases List.mem_append.1 ho with h1 | h1
              · exact hle o h1 x (hsub x hx)
              · simp at h1; subst h1; exact hmin x (hsub x hx))
            (by
              unfold total at hk ⊢
              rw [hperm.length_eq]
              simp at hk ⊢; omega)
          rcases this with ⟨r, h1, h2, h3⟩ | ⟨h1, h2⟩
          · exact .inl ⟨r, h1, h2.trans hfin, h3⟩
          · exact .inr ⟨h1, fun h => h2 ((noTwice_perm hfin).2 h)⟩
theorem heapOf_ok (ls : List (List Ent)) : ∀ hs : List (List Ent), (∀ l ∈ hs, id l ≠ []) → Heap id (fun _ => False) hs → Heap id (fun _ => False) (ls.foldl (fun hs l => if l = [] then hs else pushL id hs l) hs) := by
  induction ls with
  | nil => intro hs _ h; exact h
  | cons l ls ih =>
    intro hs hne h
    rw [List.foldl_cons]
    by_cases h0 : l = []
    · rw [if_pos h0]; exact ih hs hne h
    · rw [if_neg h0]
      refine ih _ (fun a ha => ?_) (pushL_heap id hs l hne h0 h)
      rcases List.mem_append.1 ((pushL_perm id hs l).subset ha) with h1 | h1
      · exact hne a h1
      · simp at h1; subst h1; exact h0
theorem mergeC_spec (ls : List (List Ent)) (h : ls.all orderedE = true) :
    (∃ r, mergeC ls = (r, 0) ∧ r.Perm ls.flatten ∧ r.Pairwise before) ∨ (mergeC ls = ([], 31) ∧ ¬ NoTwice ls.flatten) := by
  unfold mergeC
  rw [if_pos h]
  have hperm : (heapOf ls).flatten.Perm ls.flatten := by
    have := (heapOf_perm ls).flatten
    rwa [filter_flatten] at this
  have hord : ∀ l ∈ ls, orderedE l = true := fun l hl => List.all_eq_true.1 h l hl
  have := mergeGo_spec (total ls) (heapOf ls) [] (fun l hl => by
      have hm := List.mem_filter.1 ((heapOf_perm ls).subset hl)
      exact ⟨by simpa using hm.2, ((ordered_iff l).1 (hord l hm.1)).2⟩)
    (heapOf_ok ls [] (fun _ h => by simp at h) (fun j a b _ _ ha => by simp at ha)) List.Pairwise.nil (fun o ho => by simp at ho) (heapOf_total ls)
  rw [List.nil_append] at this
  rcases this with ⟨r, h1, h2, h3⟩ | ⟨h1, h2⟩
  · exact .inl ⟨r, h1, h2.trans hperm, h3⟩
  · exact .inr ⟨h1, fun h => h2 ((noTwice_perm hperm).2 h)⟩
end Go.Proofs.Ytelbidknefkaiaa
