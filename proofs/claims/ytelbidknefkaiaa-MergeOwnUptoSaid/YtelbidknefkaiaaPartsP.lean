/-
Plain: lists that are merged are the same in any order and in any groups.
-/
import Derived.Test.YtelbidknefkaiaaMergeQ
namespace Go.Proofs.Ytelbidknefkaiaa

/-- lists that can be merged. -/
def CanMerge (ls : List (List Ent)) : Prop := ls.all orderedE = true ∧ NoTwice ls.flatten
theorem mergeC_ok {ls : List (List Ent)} (h : CanMerge ls) : ∃ r, mergeC ls = (r, 0) ∧ r.Perm ls.flatten ∧ r.Pairwise before := by
  rcases mergeC_spec ls h.1 with h1 | ⟨_, h2⟩
  · exact h1
  · exact absurd h.2 h2
theorem mergeC_cases (ls : List (List Ent)) : (CanMerge ls ∧ ∃ r, mergeC ls = (r, 0) ∧ r.Perm ls.flatten ∧ r.Pairwise before) ∨ ∃ n : Int, n ≠ 0 ∧ mergeC ls = ([], n) := by
  rcases ho : ls.all orderedE with _ | _
  · refine .inr ⟨30, by omega, ?_⟩
    unfold mergeC; rw [ho]; rfl
  · rcases mergeC_spec ls ho with ⟨r, e, hr1, hr2⟩ | ⟨e, hnt⟩
    · exact .inl ⟨⟨ho, (noTwice_perm hr1).1 (before_noTwice hr2)⟩, r, e, hr1, hr2⟩
    · exact .inr ⟨31, by omega, e⟩
theorem canMerge_perm {a b : List (List Ent)} (h : a.Perm b) (ha : CanMerge a) : CanMerge b := by
  refine ⟨?_, (noTwice_perm h.flatten).1 ha.2⟩
  rw [List.all_eq_true] at *
  exact fun x hx => List.all_eq_true.1 ha.1 x (h.symm.subset hx)
theorem sub_flatten {a b : List (List Ent)} (h : a.Sublist b) : a.flatten.Sublist b.flatten := by
  induction h with
  | slnil => exact List.Sublist.refl _
  | cons l _ ih => rw [List.flatten_cons]; exact ih.trans (List.sublist_append_right _ _)
  | cons_cons l _ ih => rw [List.flatten_cons, List.flatten_cons]; exact List.Sublist.append (List.Sublist.refl _) ih
theorem canMerge_sub {a b : List (List Ent)} (h : a.Sublist b) (hb : CanMerge b) : CanMerge a := by
  refine ⟨?_, hb.2.sublist (sub_flatten h)⟩
  rw [List.all_eq_true]
  exact fun x hx => List.all_eq_true.1 hb.1 x (h.subset hx)
theorem merge_same {a b : List (List Ent)} {r : List Ent} (h : a.flatten.Perm b.flatten) (hb : CanMerge b) (ha : mergeC a = (r, 0)) (hca : CanMerge a) : mergeC b = (r, 0) := by
  obtain ⟨r1, e1, p1, q1⟩ := mergeC_ok hca
  obtain ⟨r2, e2, p2, q2⟩ := mergeC_ok hb
  have : r1 = r2 := before_eq (p1.trans (h.trans p2.symm)) q1 q2
  rw [e1] at ha
  injection ha with ha _
  rw [e2, ← this, ha]
theorem merged_ordered {ls : List (List Ent)} {r : List Ent} (h : CanMerge ls) (hp : r.Perm ls.flatten) (hr : r.Pairwise before) : orderedE r = true := by
  rw [ordered_iff]
  refine ⟨fun e he => ?_, hr⟩
  obtain ⟨l, hl, hel⟩ := List.mem_flatten.1 (hp.subset he)
  exact ((ordered_iff l).1 (List.all_eq_true.1 h.1 l hl)).1 e hel
/-- all the answers that MergeParts asks for. -/
theorem parts_law {ls : List (List Ent)} {x : List Ent} (k : Nat) (h : mergeC ls = (x, 0)) : mergeC ls.reverse = (x, 0) ∧ ∃ a b, mergeC (ls.take k) = (a, 0) ∧ mergeC (ls.drop k) = (b, 0) ∧ mergeC [a, b] = (x, 0) ∧ a.length + b.length = total ls := by
  rcases mergeC_cases ls with ⟨hc, _⟩ | ⟨n, hn, e⟩
  · have hrev : CanMerge ls.reverse := canMerge_perm (List.reverse_perm ls).symm hc
    refine ⟨merge_same (List.reverse_perm ls).symm.flatten hrev h hc, ?_⟩
    have ht := canMerge_sub (List.take_sublist k ls) hc
    have hd := canMerge_sub (List.drop_sublist k ls) hc
    obtain ⟨a, ea, pa, qa⟩ := mergeC_ok ht
    obtain ⟨b, eb, pb, qb⟩ := mergeC_ok hd
    have hperm : ([a, b] : List (List Ent)).flatten.Perm ls.flatten := by
      have : ls.flatten = (ls.take k).flatten ++ (ls.drop k).flatten := by rw [← List.flatten_append, List.take_append_drop]
      rw [this]
      simpa using pa.append pb
    refine ⟨a, b, ea, eb, merge_same hperm.symm ⟨?_, (noTwice_perm hperm).2 hc.2⟩ h hc, ?_⟩
    · simp [merged_ordered ht pa qa, merged_ordered hd pb qb]
    · have := hperm.length_eq
      simpa [total] using this
  · rw [e] at h
    injection h with _ h
    exact absurd h hn
end Go.Proofs.Ytelbidknefkaiaa
