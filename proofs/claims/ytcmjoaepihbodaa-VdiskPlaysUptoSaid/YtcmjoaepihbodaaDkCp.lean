/-
The plain law of VdiskCounts: what a call does to the counter; how large the files become.
-/
import Derived.Test.YtcmjoaepihbodaaDkC
namespace Go.Proofs.Ytcmjoaepihbodaa
open Go.RowKit

theorem findP_mem {x : Nm} {fs : List Fl} {f : Fl} (h : findP x fs = some f) : f ∈ fs ∧ f.name = x := by
  induction fs with
  | nil => cases h
  | cons g l ih =>
    unfold findP at h
    split at h
    · rename_i e
      obtain rfl := Option.some.inj h
      exact ⟨List.mem_cons_self, e⟩
    · exact ⟨List.mem_cons_of_mem _ (ih h).1, (ih h).2⟩
theorem mem_insP {f g : Fl} {fs : List Fl} (h : g ∈ insP f fs) : g = f ∨ g ∈ fs := by
  induction fs with
  | nil => simpa [insP] using h
  | cons a l ih =>
    unfold insP at h
    split at h
    · rcases List.mem_cons.1 h with e | e
      · exact .inl e
      · exact .inr e
    · split at h
      · rcases List.mem_cons.1 h with e | e
        · exact .inl e
        · exact .inr (List.mem_cons_of_mem _ e)
      · rcases List.mem_cons.1 h with e | e
        · exact .inr (e ▸ List.mem_cons_self)
        · exact (ih e).imp id (List.mem_cons_of_mem _)
theorem len_insP (f : Fl) (fs : List Fl) : (insP f fs).length ≤ fs.length + 1 := by
  induction fs with
  | nil => simp [insP]
  | cons a l ih =>
    unfold insP
    split
    · simp
    · split
      · simp
      · simp only [List.length_cons]; omega
theorem mem_delP {x : Nm} {g : Fl} {fs : List Fl} (h : g ∈ delP x fs) : g ∈ fs := by
  induction fs with
  | nil => cases h
  | cons a l ih =>
    unfold delP at h
    split at h
    · exact List.mem_cons_of_mem _ (ih h)
    · rcases List.mem_cons.1 h with e | e
      · exact e ▸ List.mem_cons_self
      · exact List.mem_cons_of_mem _ (ih e)
theorem len_delP (x : Nm) (fs : List Fl) : (delP x fs).length ≤ fs.length := by
  induction fs with
  | nil => simp [delP]
  | cons a l ih =>
    unfold delP
    split
    · simp only [List.length_cons]; omega
    · simp only [List.length_cons]; omega
def fitP (fs : List Fl) (N B : Nat) : Prop := fs.length ≤ N ∧ ∀ f ∈ fs, f.data.length ≤ B
theorem fitP.mono {fs : List Fl} {N B N' B' : Nat} (h : fitP fs N B) (hN : N ≤ N') (hB : B ≤ B') : fitP fs N' B' := ⟨Nat.le_trans h.1 hN, fun f hf => Nat.le_trans (h.2 f hf) hB⟩
theorem fit_upd {x : Nm} {g : Fl → Fl} {fs : List Fl} {N B n : Nat} (h : fitP fs N B) (hg : ∀ f, (g f).data.length ≤ f.data.length + n) : fitP (updP x g fs) N (B + n) := by
  refine ⟨by unfold updP; rw [List.length_map]; exact h.1, fun f hf => ?_⟩
  unfold updP at hf
  obtain ⟨a, ha, rfl⟩ := List.mem_map.1 hf
  have := h.2 a ha
  split
  · have := hg a; omega
  · omega
theorem fit_app {x : Nm} {b : List UInt8} {fs : List Fl} {N B : Nat} (h : fitP fs N B) : fitP (appFs x b fs) (N + 1) (B + b.length) := by
  unfold appFs
  refine fit_upd ?_ (fun f => by simp)
  split
  · exact h.mono (by omega) (Nat.le_refl _)
  · refine ⟨Nat.le_trans (len_insP _ _) (by have := h.1; omega), fun f hf => ?_⟩
    rcases mem_insP hf with rfl | hf
    · simp
    · exact h.2 f hf
theorem fit_del {x : Nm} {fs : List Fl} {N B : Nat} (h : fitP fs N B) : fitP (delP x fs) N B :=
  ⟨Nat.le_trans (len_delP _ _) h.1, fun f hf => h.2 f (mem_delP hf)⟩
theorem fit_ren {x y : Nm} {fs : List Fl} {N B : Nat} (h : fitP fs N B) : fitP (renFs x y fs) (N + 1) B := by
  unfold renFs
  split
  · rename_i f hf
    refine ⟨Nat.le_trans (len_insP _ _) (by have := (fit_del (x := x) h).1; omega), fun g hg => ?_⟩
    rcases mem_insP hg with rfl | hg
    · exact h.2 f (findP_mem hf).1
    · exact (fit_del h).2 g hg
  · exact h.mono (by omega) (Nat.le_refl _)
theorem fit_change {k : Pk} {N B : Nat} (h : fitP k.fs N B) : fitP (changeK k).fs N B := by
  unfold changeK
  split <;> exact h
theorem fit_appendK {k : Pk} {x : Nm} {b : List UInt8} {N B : Nat} (h : fitP k.fs N B) : fitP (appendK k x b).fs (N + 1) (B + b.length) := by
  have h1 : fitP k.fs (N + 1) (B + b.length) := h.mono (by omega) (by omega)
  unfold appendK
  split
  · split
    · exact h1
    · split
      · exact fit_change h1
      · exact fit_app h
  · exact h1
theorem fit_syncK {k : Pk} {x : Nm} {N B : Nat} (h : fitP k.fs N B) : fitP (syncK k x).fs N B := by
  unfold syncK
  split
  · split
    · exact fit_change h
    · exact fit_upd (n := 0) (fit_change h) (fun f => Nat.le_refl _)
  · exact h
theorem fit_deleteK {k : Pk} {x : Nm} {N B : Nat} (h : fitP k.fs N B) : fitP (deleteK k x).fs N B := by
  unfold deleteK
  split
  · split
    · exact fit_change h
    · exact fit_del h
  · exact h
theorem fit_renameK {k : Pk} {x y : Nm} {N B : Nat} (h : fitP k.fs N B) : fitP (renameK k x y).fs (N + 1) B := by
  have h1 : fitP k.fs (N + 1) B := h.mono (by omega) (Nat.le_refl _)
  unfold renameK
  split
  · split
    · exact fit_change h1
    · split
      · exact fit_change h1
      · exact fit_ren h
  · exact h1

/-- what a call does to the counter. -/
def stepC (k : Pk) (e : Int) (k' : Pk) : Prop :=
  (e = 20 ∧ k.ops ≤ k.done ∧ k'.down = true ∧ k'.done = k.done) ∨ (e = 0 ∧ k.done < k.ops ∧ k'.done = k.done + 1 ∧ k'.down = false ∧ k'.ops = k.ops ∧ k'.room = k.room) ∨ (e ≠ 0 ∧ e ≠ 20 ∧ k' = k)
theorem ready_codes {k : Pk} {ss : List Nm} (hd : k.down = false) : readyE k ss = 0 ∨ readyE k ss = 22 ∨ readyE k ss = 23 := by
  unfold readyE
  rw [if_neg (by rw [hd]; simp)]
  split
  · exact .inr (.inr rfl)
  · split
    · exact .inl rfl
    · split
      · exact .inr (.inl rfl)
      · exact .inl rfl
theorem step_change {k k' : Pk} (hd : k.down = false) (ho : 0 ≤ k.ops) (h : crashes k = true → k' = changeK k) (h' : crashes k = false → k'.done = (changeK k).done ∧ k'.down = k.down ∧ k'.ops = k.ops ∧ k'.room = k.room) : stepC k (changeE k) k' := by
  unfold changeE
  cases hc : crashes k with
  | true =>
    rw [if_pos rfl]
    have e := h hc
    unfold changeK at e
    rw [if_pos hc] at e
    have hc' : (decide (0 ≤ k.ops) && decide (k.ops ≤ k.done)) = true := hc
    simp at hc'
    exact .inl ⟨rfl, hc'.2, by rw [e], by rw [e]⟩
  | false =>
    rw [if_neg (by simp)]
    obtain ⟨h1, h2, h3, h4⟩ := h' hc
    have hc' : (decide (0 ≤ k.ops) && decide (k.ops ≤ k.done)) = false := hc
    have hlt : k.done < k.ops := by
      simp only [Bool.and_eq_false_iff, decide_eq_false_iff_not] at hc'
      omega
    unfold changeK at h1
    rw [if_neg (by rw [hc]; simp)] at h1
    exact .inr (.inl ⟨rfl, hlt, h1, by rw [h2, hd], h3, h4⟩)
theorem keep_change (k : Pk) : (changeK k).ops = k.ops ∧ (changeK k).room = k.room ∧ (changeK k).keep = k.keep ∧ (changeK k).fs = k.fs ∧ (crashes k = false → (changeK k).down = k.down) := by
  unfold changeK
  split
  · rename_i h
    exact ⟨rfl, rfl, rfl, rfl, fun e => by rw [h] at e; cases e⟩
  · exact ⟨rfl, rfl, rfl, rfl, fun _ => rfl⟩
theorem step_none {k : Pk} {ss : List Nm} (hd : k.down = false) (h : ¬ readyE k ss = 0) : stepC k (readyE k ss) k := by
  rcases ready_codes (ss := ss) hd with e | e | e
  · exact absurd e h
  · rw [e]; exact .inr (.inr ⟨by omega, by omega, rfl⟩)
  · rw [e]; exact .inr (.inr ⟨by omega, by omega, rfl⟩)
theorem step_sync {k : Pk} {x : Nm} (hd : k.down = false) (ho : 0 ≤ k.ops) : stepC k (syncE k x) (syncK k x) := by
  unfold syncE syncK
  have hk := keep_change k
  by_cases h : readyE k [x] = 0
  · rw [if_pos h, if_pos h]
    refine step_change hd ho (fun hc => by rw [if_pos hc]) (fun hc => ?_)
    rw [if_neg (by rw [hc]; simp)]
    exact ⟨rfl, hk.2.2.2.2 hc, hk.1, hk.2.1⟩
  · rw [if_neg h, if_neg h]
    exact step_none hd h
theorem step_delete {k : Pk} {x : Nm} (hd : k.down = false) (ho : 0 ≤ k.ops) : stepC k (syncE k x) (deleteK k x) := by
  unfold syncE deleteK
  have hk := keep_change k
  by_cases h : readyE k [x] = 0
  · rw [if_pos h, if_pos h]
    refine step_change hd ho (fun hc => by rw [if_pos hc]) (fun hc => ?_)
    rw [if_neg (by rw [hc]; simp)]
    exact ⟨rfl, hk.2.2.2.2 hc, hk.1, hk.2.1⟩
  · rw [if_neg h, if_neg h]
    exact step_none hd h
theorem step_rename {k : Pk} {x y : Nm} (hd : k.down = false) (ho : 0 ≤ k.ops) : stepC k (renameE k x y) (renameK k x y) := by
  unfold renameE renameK
  have hk := keep_change k
  by_cases h : readyE k [x, y] = 0
  · rw [if_pos h, if_pos h]
    refine step_change hd ho (fun hc => by rw [if_pos hc]) (fun hc => ?_)
    rw [if_neg (by rw [hc]; simp)]
    split
    · exact ⟨rfl, hk.2.2.2.2 hc, hk.1, hk.2.1⟩
    · exact ⟨rfl, hk.2.2.2.2 hc, hk.1, hk.2.1⟩
  · rw [if_neg h, if_neg h]
    exact step_none hd h
theorem step_append {k : Pk} {x : Nm} {b : List UInt8} (hd : k.down = false) (ho : 0 ≤ k.ops) (hr : k.room < 0) : stepC k (appendE k x b) (appendK k x b) := by
  unfold appendE appendK
  have hk := keep_change k
  have hf : fullP k b.length = false := by unfold fullP; simp; omega
  by_cases h : readyE k [x] = 0 ∨ readyE k [x] = 22
  · rw [if_pos h, if_pos h, if_neg (by rw [hf]; simp), if_neg (by rw [hf]; simp)]
    refine step_change hd ho (fun hc => by rw [if_pos hc]) (fun hc => ?_)
    rw [if_neg (by rw [hc]; simp)]
    exact ⟨rfl, hk.2.2.2.2 hc, hk.1, hk.2.1⟩
  · rw [if_neg h, if_neg h]
    exact step_none hd fun e => h (.inl e)
theorem append_down {k : Pk} {x : Nm} {b : List UInt8} (h : k.down = true) : appendE k x b = 20 ∧ appendK k x b = k := by
  have hr : readyE k [x] = 20 := by unfold readyE; rw [if_pos h]
  have hn : ¬ (readyE k [x] = 0 ∨ readyE k [x] = 22) := by rw [hr]; omega
  unfold appendE appendK
  rw [if_neg hn, if_neg hn]
  exact ⟨hr, rfl⟩
end Go.Proofs.Ytcmjoaepihbodaa
