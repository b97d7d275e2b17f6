/-
Plain: the heap's order is kept by the way up and the way down.
-/
import Derived.Test.YtelbidknefkaiaaMergeP
namespace Go.Proofs.Ytelbidknefkaiaa
section
variable {α : Type} (f : α → List Ent)
/-- the order of two. -/
def leL (a b : α) : Prop := cmpL (f a) (f b) ≤ 0
theorem cmpE_le_trans {a b c : Ent} (h1 : cmpE a b ≤ 0) (h2 : cmpE b c ≤ 0) : cmpE a c ≤ 0 := by
  rcases (by omega : cmpE a b < 0 ∨ cmpE a b = 0) with h | h
  · rcases (by omega : cmpE b c < 0 ∨ cmpE b c = 0) with h' | h'
    · have := cmpE_trans h h'; omega
    · obtain ⟨e1, e2⟩ := cmpE_eq.1 h'
      unfold cmpE at h ⊢
      rw [← e1, ← e2]; omega
  · obtain ⟨e1, e2⟩ := cmpE_eq.1 h
    unfold cmpE at h2 ⊢
    rw [e1, e2]; exact h2
theorem leL_trans {a b c : α} (hb : f b ≠ []) (h1 : leL f a b) (h2 : leL f b c) : leL f a c := by
  unfold leL at *
  cases ha : f a with
  | nil => simp [cmpL]
  | cons x _ =>
    cases hb' : f b with
    | nil => exact absurd hb' hb
    | cons y _ =>
      cases hc : f c with
      | nil => simp [cmpL]
      | cons z _ =>
        rw [ha, hb'] at h1
        rw [hb', hc] at h2
        exact cmpE_le_trans (a := x) (b := y) (c := z) h1 h2
theorem leL_total {a b : α} (h : ¬ leL f a b) : leL f b a := by
  unfold leL at *
  cases ha : f a with
  | nil => rw [ha] at h; simp [cmpL] at h
  | cons x _ =>
    cases hb : f b with
    | nil => simp [cmpL]
    | cons y _ =>
      rw [ha, hb] at h
      simp only [cmpL] at h ⊢
      have := cmpE_swap x y
      omega
theorem leL_refl (a : α) : leL f a a := by
  unfold leL
  cases f a with
  | nil => simp [cmpL]
  | cons x _ => simp [cmpL, cmpE_eq.2]
theorem swapL_get {l : List α} {i j : Nat} (hi : i < l.length) (hj : j < l.length) (hij : i ≠ j) (k : Nat) : (swapL l i j)[k]? = if k = i then l[j]? else if k = j then l[i]? else l[k]? := by
  rw [swapL_at (List.getElem?_eq_getElem hi) (List.getElem?_eq_getElem hj)]
  rw [List.getElem?_set, List.getElem?_set]
  by_cases h1 : k = i
  · subst h1
    rw [if_neg (fun h => hij h.symm), if_pos rfl, if_pos rfl, List.getElem?_eq_getElem hj]
    simp [hi]
  · by_cases h2 : k = j
    · subst h2
      rw [if_pos rfl, if_neg h1, if_pos rfl, List.getElem?_eq_getElem hi]
      simp [hj]
    · rw [if_neg (fun h => h2 h.symm), if_neg (fun h => h1 h.symm), if_neg h1, if_neg h2]
/-- the heap's order, but at the places that P lets go. -/
def Heap (P : Nat → Prop) (l : List α) : Prop := ∀ j a b, 0 < j → ¬ P j → l[(j - 1) / 2]? = some a → l[j]? = some b → leL f a b
theorem siftUp_heap (l : List α) (i : Nat) (hne : ∀ a ∈ l, f a ≠ []) (hi : i < l.length) (h : Heap f (fun j => j = i) l) (hg : ∀ j a b, 0 < i → (j - 1) / 2 = i → 0 < j → l[(i - 1) / 2]? = some a → l[j]? = some b → leL f a b) : Heap f (fun _ => False) (siftUp f l i) := by
  induction i using Nat.strongRecOn generalizing l with
  | ind i ih =>
    cases i with
    | zero =>
      rw [siftUp]
      intro j a b hj _ ha hb
      exact h j a b hj (by omega) ha hb
    | succ i =>
      have h2 : i / 2 < l.length := by omega
      obtain ⟨p, hp⟩ : ∃ p, l[i / 2]? = some p := ⟨_, List.getElem?_eq_getElem h2⟩
      obtain ⟨x, hx⟩ : ∃ x, l[i + 1]? = some x := ⟨_, List.getElem?_eq_getElem hi⟩
      rw [siftUp, hp, hx]
      simp only
      have e1 : (i + 1 - 1) / 2 = i / 2 := by rw [Nat.add_sub_cancel]
      split
      · rename_i hle
        intro j a b hj _ ha hb
        by_cases hji : j = i + 1
        · subst hji
          rw [e1, hp] at ha
          rw [hx] at hb
          injection ha with ha; injection hb with hb
          subst ha hb
          exact hle
        · exact h j a b hj hji ha hb
      · rename_i hgt
        have hxp : leL f x p := leL_total f (a := p) (b := x) hgt
        have hij : i / 2 ≠ i + 1 := by omega
        have sw := swapL_get h2 hi hij
        have hpn : f p ≠ [] := hne p (List.mem_of_getElem? hp)
        refine ih (i / 2) (by omega) (swapL l (i / 2) (i + 1)) (fun a ha => hne a ((swapL_perm l _ _).subset ha)) (by rw [swapL_len]; exact h2) ?_ ?_
        · intro j a b hj hji ha hb
          simp only at hji
          rw [sw] at ha hb
          by_cases hj1 : j = i + 1
          · subst hj1
            rw [e1, if_pos rfl, hx] at ha
            rw [if_neg (fun h => hij h.symm), if_pos rfl, hp] at hb
            injection ha with ha; injection hb with hb
            subst ha hb
            exact hxp
          · rw [if_neg hji, if_neg hj1] at hb
            by_cases hpar : (j - 1) / 2 = i / 2
            · rw [if_pos hpar, hx] at ha
              injection ha with ha
              subst ha
              refine leL_trans f hpn hxp (h j p b hj hj1 ?_ hb)
              rw [hpar]; exact hp
            · rw [if_neg hpar] at ha
              by_cases hpar2 : (j - 1) / 2 = i + 1
              · rw [if_pos hpar2, hp] at ha
                injection ha with ha
                subst ha
                exact hg j p b (by omega) hpar2 hj (by rw [e1]; exact hp) hb
              · rw [if_neg hpar2] at ha
                exact h j a b hj hj1 ha hb
        · intro j a b hi0 hpar hj ha hb
          rw [sw] at ha hb
          have e2 : (i / 2 - 1) / 2 ≠ i / 2 := by omega
          have e3 : (i / 2 - 1) / 2 ≠ i + 1 := by omega
          rw [if_neg e2, if_neg e3] at ha
          have hap : leL f a p := h (i / 2) a p hi0 (by omega) ha hp
          by_cases hj1 : j = i + 1
          · subst hj1
            rw [if_neg (fun h => hij h.symm), if_pos rfl, hp] at hb
            injection hb with hb
            subst hb
            exact hap
          · have hj2 : j ≠ i / 2 := by omega
            rw [if_neg hj2, if_neg hj1] at hb
            refine leL_trans f hpn hap (h j p b hj hj1 ?_ hb)
            rw [hpar]; exact hp
theorem pushL_heap (l : List α) (q : α) (hne : ∀ a ∈ l, f a ≠ []) (hq : f q ≠ []) (h : Heap f (fun _ => False) l) : Heap f (fun _ => False) (pushL f l q) := by
  refine siftUp_heap f _ _ (fun a ha => ?_) (by simp) ?_ ?_
  · rcases List.mem_append.1 ha with h1 | h1
    · exact hne a h1
    · simp at h1; subst h1; exact hq
  · intro j a b hj hjl ha hb
    have hjlt := (List.getElem?_eq_some_iff.1 hb).1
    simp at hjlt
    simp only at hjl
    rw [List.getElem?_append_left (by omega)] at ha hb
    exact h j a b hj (fun h => h) ha hb
  · intro j a b h0 hpar hj ha hb
    have hjlt := (List.getElem?_eq_some_iff.1 hb).1
    simp at hjlt
    omega
/-- the least of a place and what stands below it. -/
theorem leastStep_le (l : List α) (k m : Nat) (hne : ∀ a ∈ l, f a ≠ []) {c : α} (hc : l[leastStep f l k m]? = some c) : (∀ a, l[k]? = some a → l[m]? ≠ none → leL f c a) ∧ (∀ b, l[m]? = some b → leL f c b) := by
  unfold leastStep at hc
  cases hk : l[k]? with
  | none =>
    rw [hk] at hc
    simp only at hc
    exact ⟨(fun a ha => by cases ha), (fun b hb => by rw [hb] at hc; injection hc with hc; subst hc; exact leL_refl f _)⟩
  | some a =>
    cases hm : l[m]? with
    | none => rw [hk, hm] at hc; simp only at hc; rw [hm] at hc; cases hc
    | some b =>
      rw [hk, hm] at hc
      simp only at hc
      split at hc
      · rename_i hlt
        rw [hk] at hc
        injection hc with hc
        subst hc
        exact ⟨fun a' ha' _ => by injection ha' with ha'; subst ha'; exact leL_refl f _, fun b' hb' => by injection hb' with hb'; subst hb'; unfold leL; omega⟩
      · rename_i hge
        rw [hm] at hc
        injection hc with hc
        subst hc
        refine ⟨fun a' ha' _ => ?_, fun b' hb' => by injection hb' with hb'; subst hb'; exact leL_refl f _⟩
        injection ha' with ha'
        subst ha'
        by_cases h0 : leL f b a
        · exact h0
        · have hna := hne a (List.mem_of_getElem? hk)
          have hnb := hne b (List.mem_of_getElem? hm)
          obtain ⟨x, lx, ex⟩ := List.exists_cons_of_ne_nil hna
          obtain ⟨y, ly, ey⟩ := List.exists_cons_of_ne_nil hnb
          unfold leL at h0 ⊢
          rw [ex, ey] at hge
          rw [ex, ey] at h0 ⊢
          simp only [cmpL] at hge h0 ⊢
          have := cmpE_swap x y
          omega
theorem lst_le (l : List α) (i : Nat) (hi : i < l.length) (hne : ∀ a ∈ l, f a ≠ []) {c : α} (hc : l[lst f l i 2]? = some c) :
    (∀ b, l[i]? = some b → leL f c b) ∧ ∀ j b, (j - 1) / 2 = i → 0 < j → l[j]? = some b → leL f c b := by
  obtain ⟨d, hd⟩ : ∃ d, l[lst f l i 1]? = some d := by
    rcases lst_or f l i 1 with h | h
    · exact ⟨_, List.getElem?_eq_getElem (by omega)⟩
    · exact ⟨_, List.getElem?_eq_getElem h.2⟩
  obtain ⟨x, hx⟩ : ∃ x, l[i]? = some x := ⟨_, List.getElem?_eq_getElem hi⟩
  have s1 := leastStep_le f l (2 * i + 1 + 0) i hne (c := d) hd
  have s2 := leastStep_le f l (2 * i + 1 + 1) (lst f l i 1) hne (c := c) hc
  have hcd : leL f c d := s2.2 d hd
  have hdn : f d ≠ [] := hne d (List.mem_of_getElem? hd)
  refine ⟨fun b hb => leL_trans f hdn hcd (s1.2 b hb), fun j b hpar hj hb => ?_⟩
  rcases (by omega : j = 2 * i + 1 + 0 ∨ j = 2 * i + 1 + 1) with rfl | rfl
  · exact leL_trans f hdn hcd (s1.1 b hb (by rw [hx]; simp))
  · exact s2.1 b hb (by rw [hd]; simp)
theorem siftDown_heap (l : List α) (i : Nat) (hne : ∀ a ∈ l, f a ≠ []) (hi : i < l.length) (h : Heap f (fun j => (j - 1) / 2 = i) l) (hg : ∀ j a b, 0 < i → (j - 1) / 2 = i → 0 < j → l[(i - 1) / 2]? = some a → l[j]? = some b → leL f a b) :
    Heap f (fun _ => False) (siftDown f l i) := by
  induction hn : l.length - i using Nat.strongRecOn generalizing l i with
  | ind n ih =>
    obtain ⟨x, hx⟩ : ∃ x, l[i]? = some x := ⟨_, List.getElem?_eq_getElem hi⟩
    rw [siftDown]
    split
    · rename_i hs
      obtain ⟨h1, h2⟩ := lst_le f l i hi hne (c := x) (by rw [hs]; exact hx)
      intro j a b hj _ ha hb
      by_cases hpar : (j - 1) / 2 = i
      · rw [hpar, hx] at ha
        injection ha with ha
        subst ha
        exact h2 j b hpar hj hb
      · exact h j a b hj hpar ha hb
    · rename_i hs
      have hor := lst_or f l i 2
      have hm1 : i < lst f l i 2 := by omega
      have hm2 : lst f l i 2 < l.length := by omega
      have hm3 : (lst f l i 2 - 1) / 2 = i := by
        rcases leastStep_or f l (2 * i + 1 + 1) (lst f l i 1) with e | ⟨e, _⟩
        · rcases leastStep_or f l (2 * i + 1 + 0) (lst f l i 0) with e' | ⟨e', _⟩
          · exact absurd (e.trans e') hs
          · have : lst f l i 2 = 2 * i + 1 + 0 := e.trans e'
            omega
        · have : lst f l i 2 = 2 * i + 1 + 1 := e
          omega
      obtain ⟨c, hc⟩ : ∃ c, l[lst f l i 2]? = some c := ⟨_, List.getElem?_eq_getElem hm2⟩
      obtain ⟨h1, h2⟩ := lst_le f l i hi hne (c := c) hc
      generalize lst f l i 2 = m at hs hm1 hm2 hm3 hc
      have sw := swapL_get (l := l) hi hm2 (by omega : i ≠ m)
      have hcn : f c ≠ [] := hne c (List.mem_of_getElem? hc)
      refine ih _ (by rw [swapL_len]; omega) (swapL l i m) m (fun a ha => hne a ((swapL_perm l _ _).subset ha)) (by rw [swapL_len]; exact hm2) ?_ ?_ rfl
      · intro j a b hj hpar ha hb
        simp only at hpar
        rw [sw] at ha hb
        by_cases hji : j = i
        · subst hji
          rw [if_pos rfl, hc] at hb
          injection hb with hb
          subst hb
          rw [if_neg (by omega), if_neg hpar] at ha
          exact hg m a c (by omega) hm3 (by omega) ha hc
        · rw [if_neg hji] at hb
          by_cases hjm : j = m
          · subst hjm
            rw [if_pos rfl, hx] at hb
            injection hb with hb
            subst hb
            rw [if_pos hm3, hc] at ha
            injection ha with ha
            subst ha
            exact h1 x hx
          · rw [if_neg hjm] at hb
            by_cases hpi : (j - 1) / 2 = i
            · rw [if_pos hpi, hc] at ha
              injection ha with ha
              subst ha
              exact h2 j b hpi hj hb
            · rw [if_neg hpi, if_neg hpar] at ha
              exact h j a b hj hpi ha hb
      · intro j a b hm0 hpar hj ha hb
        rw [sw] at ha hb
        rw [hm3, if_pos rfl, hc] at ha
        injection ha with ha
        subst ha
        rw [if_neg (by omega), if_neg (by omega)] at hb
        refine h j c b hj (by omega) (by rw [hpar]; exact hc) hb
theorem popL_heap (l : List α) (hne : ∀ a ∈ l, f a ≠ []) (h : Heap f (fun _ => False) l) : Heap f (fun _ => False) (popL f l) := by
  unfold popL
  split
  · rename_i z hz
    have hlz := (List.getElem?_eq_some_iff.1 hz).1
    have hlen : ((l.set 0 z).take (l.length - 1)).length = l.length - 1 := by simp
    rcases Nat.eq_zero_or_pos (l.length - 1) with h0 | h0
    · rw [h0, List.take_zero]
      intro j a b hj _ ha hb
      have := (List.getElem?_eq_some_iff.1 hb).1
      rw [(siftDown_perm _ _ _).length_eq] at this
      simp at this
    · refine siftDown_heap f _ 0 (fun a ha => ?_) (by omega) ?_ (fun j a b h0' => absurd h0' (by omega))
      · rcases List.mem_or_eq_of_mem_set (List.mem_of_mem_take ha) with h1 | h1
        · exact hne a h1
        · rw [h1]; exact hne z (List.mem_of_getElem? hz)
      · intro j a b hj hpar ha hb
        simp only at hpar
        rw [List.getElem?_take] at ha hb
        split at ha
        · split at hb
          · rw [List.getElem?_set, if_neg (by omega)] at ha hb
            exact h j a b hj (fun h => h) ha hb
          · cases hb
        · cases ha
  · intro j a b hj _ ha hb; simp at hb
/-- the top is the least. -/
theorem heap_top (l : List α) (hne : ∀ a ∈ l, f a ≠ []) (h : Heap f (fun _ => False) l) {t : α} (ht : l[0]? = some t) : ∀ (j : Nat) (b : α), l[j]? = some b → leL f t b := by
  intro j
  induction j using Nat.strongRecOn with
  | ind j ih =>
    intro b hb
    rcases Nat.eq_zero_or_pos j with h0 | h0
    · subst h0; rw [ht] at hb; injection hb with hb; subst hb; exact leL_refl f _
    · have hj := (List.getElem?_eq_some_iff.1 hb).1
      obtain ⟨p, hp⟩ : ∃ p, l[(j - 1) / 2]? = some p := ⟨_, List.getElem?_eq_getElem (by omega)⟩
      exact leL_trans f (hne p (List.mem_of_getElem? hp)) (ih _ (by omega) p hp) (h j p b h0 (fun h => h) hp hb)
end
end Go.Proofs.Ytelbidknefkaiaa
