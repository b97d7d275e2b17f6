/-
The plain law of VdiskSurvives.
-/
import Derived.Test.YtcmjoaepihbodaaDkO
namespace Go.Proofs.Ytcmjoaepihbodaa
open Go.RowKit

theorem rev_done (fs : List Fl) (keep : List Int) (b : Int) (i j : Nat) (h : i < j) : (revSt fs keep b j).1[i]? = (revSt fs keep b (i + 1)).1[i]? := by
  induction j with
  | zero => omega
  | succ j ih =>
    by_cases hij : i = j
    · rw [hij]
    · rw [← ih (by omega)]
      cases hf : fs[j]? with
      | none =>
        have h1 := rev_later fs keep b j j (Nat.le_refl _)
        rw [hf] at h1
        have e : revSt fs keep b (j + 1) = revSt fs keep b j := by
          show (match (revSt fs keep b j).1[j]? with | none => _ | some f => _) = _
          rw [h1]
        rw [e]
      | some f =>
        rw [rev_step hf]
        split
        · rfl
        · exact List.getElem?_set_ne (by omega)
/-- what a file is behind a crash. -/
def survives (a b : Fl) : Prop := a.name = b.name ∧ b.synced = b.data.length ∧ a.synced ≤ b.data.length ∧ b.data.length ≤ a.data.length ∧ b.data = a.data.take b.data.length
theorem rev_at {fs : List Fl} {keep : List Int} {bt : Int} (hok : okFs fs) {i : Nat} {a : Fl} (h : fs[i]? = some a) : ∃ b, (revSt fs keep bt fs.length).1[i]? = some b ∧ survives a b := by
  rw [rev_done fs keep bt i fs.length (List.getElem?_eq_some_iff.1 h).1, rev_step h]
  have ho := hok a (List.mem_of_getElem? h)
  have hl := rev_later fs keep bt i i (Nat.le_refl _)
  rw [h] at hl
  by_cases h0 : a.loose = 0
  · rw [if_pos h0, hl]
    unfold Fl.loose at h0
    exact ⟨a, rfl, rfl, by omega, by omega, by omega, by rw [List.take_length]⟩
  · rw [if_neg h0]
    have hk := kept_range ho.2 (revSt fs keep bt i).2.1
    generalize keptN a (revSt fs keep bt i).2.1 = n at hk ⊢
    have e1 : (((revSt fs keep bt i).1.set i (cutP a n)))[i]? = some (cutP a n) := by
      rw [List.getElem?_set_self (List.getElem?_eq_some_iff.1 hl).1]
    refine ⟨_, e1, ?_⟩
    unfold Fl.loose at hk
    have h2 : (cutP a n).data.length = (a.synced + n).toNat := by
      show (a.data.take (a.synced + n).toNat).length = _
      rw [List.length_take]
      omega
    refine ⟨rfl, ?_, ?_, ?_, ?_⟩
    · rw [h2]; show a.synced + n = _; omega
    · rw [h2]; omega
    · rw [h2]; omega
    · rw [h2]; rfl
theorem rev_still {fs : List Fl} {keep : List Int} {bt : Int} (h : ∀ f ∈ fs, f.loose = 0) (i : Nat) : revSt fs keep bt i = (fs, keep, bt) := by
  induction i with
  | zero => rfl
  | succ i ih =>
    cases hf : fs[i]? with
    | none =>
      show (match (revSt fs keep bt i).1[i]? with | none => _ | some f => _) = _
      rw [ih, hf]
    | some f => rw [rev_step hf, if_pos (h f (List.mem_of_getElem? hf)), ih]
theorem rev_ok {fs : List Fl} {keep : List Int} {bt : Int} (hok : okFs fs) : ∀ f ∈ (revSt fs keep bt fs.length).1, f.loose = 0 ∧ 0 ≤ f.synced ∧ f.synced ≤ f.data.length := by
  intro f hf
  obtain ⟨i, hi⟩ := List.getElem?_of_mem hf
  have hl : i < fs.length := by rw [← rev_len fs keep bt fs.length]; exact (List.getElem?_eq_some_iff.1 hi).1
  obtain ⟨b, hb, hs⟩ := rev_at (keep := keep) (bt := bt) hok (List.getElem?_eq_getElem hl)
  rw [hi] at hb
  obtain rfl := Option.some.inj hb
  have := hs.2.1
  unfold Fl.loose
  omega
theorem ofGo_mem {acc l r : List Fl} (h : ofGo acc l = some r) {f : Fl} (hf : f ∈ r) : f ∈ acc ∨ f ∈ l := by
  induction l generalizing acc with
  | nil => obtain rfl := Option.some.inj h; exact .inl hf
  | cons g l ih =>
    unfold ofGo at h
    split at h
    · cases h
    · rcases ih h with h1 | h1
      · rcases mem_insP h1 with rfl | h2
        · exact .inr List.mem_cons_self
        · exact .inl h2
      · exact .inr (List.mem_cons_of_mem _ h1)
theorem len_ins_new {f : Fl} {fs : List Fl} (h : findP f.name fs = none) : (insP f fs).length = fs.length + 1 := by
  induction fs with
  | nil => rfl
  | cons g l ih =>
    unfold findP at h
    split at h
    · cases h
    · rename_i h1
      unfold insP
      split
      · rfl
      · rw [if_neg fun e => h1 e.symm]
        simp [ih h]
theorem ofGo_len {acc l r : List Fl} (h : ofGo acc l = some r) : r.length = acc.length + l.length := by
  induction l generalizing acc with
  | nil => obtain rfl := Option.some.inj h; rfl
  | cons g l ih =>
    unfold ofGo at h
    split at h
    · cases h
    · rename_i h1
      rw [ih h, len_ins_new (by simpa using h1), List.length_cons]
      omega
/-- a disk that was made of files. -/
theorem of_ok {fs : List Fl} (h : ofE fs = 0) : ∃ r, ofGo [] fs = some r ∧ okFs r ∧ r.length = fs.length ∧ (∀ f ∈ r, nameB f.name = true) := by
  unfold ofE at h
  split at h
  · cases h
  · rename_i hn
    split at h
    · cases h
    · rename_i r hr
      split at h
      · cases h
      · rename_i hg
        refine ⟨r, hr, fun f hf => ?_, by rw [ofGo_len hr]; simp, fun f hf => ?_⟩
        · rcases ofGo_mem hr hf with h1 | h1
          · cases h1
          · have h2 := List.any_eq_false.1 (by simpa using hg : fs.any rgB = false) f h1
            unfold rgB at h2
            simp only [Bool.or_eq_true, decide_eq_true_eq, not_or] at h2
            omega
        · rcases ofGo_mem hr hf with h1 | h1
          · cases h1
          · have h2 := List.any_eq_false.1 (by simpa using hn : fs.any nmB = false) f h1
            unfold nmB at h2
            simpa using h2
theorem ofK_fs {fs r : List Fl} (h : ofGo [] fs = some r) (ops room : Int) (keep : List Int) : (ofK fs ops room keep).fs = r := by
  unfold ofK
  rw [h]
  rfl
/-- the end of VdiskSurvives: an Append that crashes. -/
theorem crash_append {k : Pk} (hd : k.down = false) (ho : k.ops = 0) (hr : k.room < 0) (h0 : k.done = 0) : appendE k [97] [] = 20 ∧ appendK k [97] [] = { k with down := true } := by
  have hc : crashes k = true := by unfold crashes; rw [ho, h0]; decide
  have hf : fullP k ([] : List UInt8).length = false := by unfold fullP; simp; omega
  have hre : readyE k [[97]] = 0 ∨ readyE k [[97]] = 22 := by
    unfold readyE
    rw [if_neg (by rw [hd]; simp), if_neg (by decide)]
    dsimp only
    split
    · exact .inr rfl
    · exact .inl rfl
  have e1 : appendE k [97] [] = 20 := by
    unfold appendE changeE
    rw [if_pos hre, if_neg (by rw [hf]; simp), if_pos hc]
  have e2 : appendK k [97] [] = { k with down := true } := by
    unfold appendK changeK
    rw [if_pos hre, if_neg (by rw [hf]; simp), if_pos hc, if_pos hc]
  exact ⟨e1, e2⟩
end Go.Proofs.Ytcmjoaepihbodaa
