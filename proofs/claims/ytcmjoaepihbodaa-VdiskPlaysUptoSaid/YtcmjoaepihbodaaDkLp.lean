/-
The plain side of ref07: places of files, insertion, what is left without one.
-/
import Derived.Test.YtcmjoaepihbodaaDkM
namespace Go.Proofs.Ytcmjoaepihbodaa
open Go.RowKit

def sortedP (fs : List Fl) : Prop := fs.Pairwise fun a b => a.name < b.name
/-- the place of the first file of a name. -/
def idxP (x : Nm) : List Fl → Option Nat
  | [] => none
  | f :: l => if f.name = x then some 0 else (idxP x l).map (· + 1)
def idxI (x : Nm) (fs : List Fl) : Int := match idxP x fs with | some i => i | none => -1
theorem idxP_at {x : Nm} {fs : List Fl} {k : Nat} {f : Fl} (h : fs[k]? = some f) (he : f.name = x) (hl : ∀ g ∈ fs.take k, g.name ≠ x) : idxP x fs = some k := by
  induction fs generalizing k with
  | nil => simp at h
  | cons a l ih =>
    cases k with
    | zero =>
      simp at h
      subst h
      rw [idxP, if_pos he]
    | succ k =>
      rw [idxP, if_neg (hl a (by simp)), ih (by simpa using h) (fun g hg => hl g (by rw [List.take_succ_cons]; exact List.mem_cons_of_mem _ hg))]
      rfl
theorem idxP_none {x : Nm} {fs : List Fl} (h : ∀ g ∈ fs, g.name ≠ x) : idxP x fs = none := by
  induction fs with
  | nil => rfl
  | cons a l ih => rw [idxP, if_neg (h a List.mem_cons_self), ih fun g hg => h g (List.mem_cons_of_mem _ hg)]; rfl
theorem idxP_find {x : Nm} {fs : List Fl} : (idxP x fs = none ∧ findP x fs = none) ∨ ∃ i f, idxP x fs = some i ∧ findP x fs = some f ∧ fs[i]? = some f ∧ f.name = x := by
  induction fs with
  | nil => exact .inl ⟨rfl, rfl⟩
  | cons a l ih =>
    unfold idxP findP
    by_cases h : a.name = x
    · rw [if_pos h, if_pos h]
      exact .inr ⟨0, a, rfl, rfl, by simp, h⟩
    · rw [if_neg h, if_neg h]
      rcases ih with ⟨h1, h2⟩ | ⟨i, f, h1, h2, h3, h4⟩
      · exact .inl ⟨by rw [h1]; rfl, h2⟩
      · exact .inr ⟨i + 1, f, by rw [h1]; rfl, h2, by simpa using h3, h4⟩
theorem findP_none {x : Nm} {fs : List Fl} (h : findP x fs = none) : ∀ f ∈ fs, f.name ≠ x := by
  induction fs with
  | nil => simp
  | cons a l ih =>
    unfold findP at h
    split at h
    · cases h
    · rename_i hn
      intro f hf
      rcases List.mem_cons.1 hf with rfl | hf
      · exact hn
      · exact ih h f hf
/-- in the order of the names. -/
def insI (f : Fl) : List Fl → List Fl
  | [] => [f]
  | g :: l => if f.name < g.name then f :: g :: l else g :: insI f l
theorem insI_insP {f : Fl} {fs : List Fl} (h : findP f.name fs = none) : insI f fs = insP f fs := by
  induction fs with
  | nil => rfl
  | cons a l ih =>
    have ha := findP_none h a List.mem_cons_self
    unfold findP at h
    rw [if_neg ha] at h
    unfold insI insP
    rw [if_neg (fun e : f.name = a.name => ha e.symm), ih h]
theorem len_insI (f : Fl) (fs : List Fl) : (insI f fs).length = fs.length + 1 := by
  induction fs with
  | nil => rfl
  | cons a l ih =>
    unfold insI
    split
    · simp
    · simp [ih]
theorem erase_delP {x : Nm} {fs : List Fl} {i : Nat} (hs : sortedP fs) (h : idxP x fs = some i) : delP x fs = fs.eraseIdx i := by
  induction fs generalizing i with
  | nil => cases h
  | cons a l ih =>
    obtain ⟨h1, h2⟩ := List.pairwise_cons.1 hs
    unfold idxP at h
    unfold delP
    by_cases e : a.name = x
    · rw [if_pos e] at h
      obtain rfl := Option.some.inj h
      rw [if_pos e, List.eraseIdx_cons_zero]
      have : ∀ g ∈ l, g.name ≠ x := fun g hg e' => by have := h1 g hg; rw [e, e'] at this; exact List.lt_irrefl _ this
      clear ih h h1 h2 hs
      induction l with
      | nil => rfl
      | cons b l ih => rw [delP, if_neg (this b List.mem_cons_self), ih fun g hg => this g (List.mem_cons_of_mem _ hg)]
    · rw [if_neg e] at h
      rw [if_neg e]
      cases hi : idxP x l with
      | none => rw [hi] at h; cases h
      | some j =>
        rw [hi] at h
        obtain rfl := Option.some.inj h
        rw [ih h2 hi, List.eraseIdx_cons_succ]
theorem sorted_ne {fs : List Fl} (hs : sortedP fs) : fs.Pairwise fun a b => a.name ≠ b.name := hs.imp fun h e => by rw [e] at h; exact List.lt_irrefl _ h
theorem srt_ins {f : Fl} {fs : List Fl} (hs : sortedP fs) : sortedP (insP f fs) := by
  induction fs with
  | nil => exact List.pairwise_singleton _ _
  | cons a l ih =>
    obtain ⟨h1, h2⟩ := List.pairwise_cons.1 hs
    unfold insP
    split
    · rename_i h
      exact List.pairwise_cons.2 ⟨fun g hg => by
        rcases List.mem_cons.1 hg with rfl | hg
        · exact h
        · exact List.lt_trans h (h1 g hg), hs⟩
    · split
      · rename_i e
        exact List.pairwise_cons.2 ⟨fun g hg => by rw [e]; exact h1 g hg, h2⟩
      · rename_i hn he
        refine List.pairwise_cons.2 ⟨fun g hg => ?_, ih h2⟩
        rcases mem_insP hg with rfl | hg
        · exact Std.lt_of_le_of_ne (List.not_lt.1 hn) fun e => he e.symm
        · exact h1 g hg
theorem srt_del {x : Nm} {fs : List Fl} (hs : sortedP fs) : sortedP (delP x fs) := by
  induction fs with
  | nil => exact List.Pairwise.nil
  | cons a l ih =>
    obtain ⟨h1, h2⟩ := List.pairwise_cons.1 hs
    unfold delP
    split
    · exact ih h2
    · exact List.pairwise_cons.2 ⟨fun g hg => h1 g (mem_delP hg), ih h2⟩
/-- the bytes of all files. -/
def tot (fs : List Fl) : Nat := (fs.map fun f => f.data.length).sum
theorem tot_take {fs : List Fl} {i : Nat} {f : Fl} (h : fs[i]? = some f) : tot (fs.take (i + 1)) = tot (fs.take i) + f.data.length := by
  unfold tot
  rw [List.take_add_one, h]
  simp
theorem tot_le {fs : List Fl} (i : Nat) : tot (fs.take i) ≤ tot fs := by
  unfold tot
  rw [← List.take_append_drop i fs, List.map_append, List.sum_append]
  simp only [List.take_append_drop]
  omega
theorem tot_mem {fs : List Fl} {f : Fl} (h : f ∈ fs) : f.data.length ≤ tot fs := by
  unfold tot
  induction fs with
  | nil => cases h
  | cons a l ih =>
    rw [List.map_cons, List.sum_cons]
    rcases List.mem_cons.1 h with rfl | h
    · omega
    · have := ih h; omega
theorem wrap_id {z : Int} (h1 : -9223372036854775808 ≤ z) (h2 : z ≤ 9223372036854775807) : wrap64 z = z := by unfold wrap64; omega
end Go.Proofs.Ytcmjoaepihbodaa
