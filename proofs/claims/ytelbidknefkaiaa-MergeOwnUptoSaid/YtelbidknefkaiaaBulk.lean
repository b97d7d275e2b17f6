/-
What the bound of the second form gives of the arguments.
-/
import Derived.Test.YtelbidknefkaiaaRows
import Derived.Test.YtelbidknefkaiaaOpen
namespace Go.Proofs.Ytelbidknefkaiaa
open Go.RowKit Go.ChangeShapes Go.WideShapes Go.Deep

section
variable {H : Type} {enc : TypeId × Value → H} {w : World} {base : Nat} {held : Bool} {spare : Nat → Bool}
theorem bulk_one (d : DataW H) : 1 ≤ Rows.uptoBulk d := by
  cases d with
  | lit l => cases l <;> simp [Rows.uptoBulk]
  | nil => simp [Rows.uptoBulk]
  | ptr d => simp [Rows.uptoBulk]
  | slice elems spare => simp [Rows.uptoBulk]
  | agg parts => simp [Rows.uptoBulk]
  | iface t d => simp [Rows.uptoBulk]
  | map entries => simp [Rows.uptoBulk]
  | held h => simp [Rows.uptoBulk]
theorem bulk_len (l : List (DataW H)) : l.length ≤ Rows.uptoBulkAll l := by
  induction l with
  | nil => simp [Rows.uptoBulkAll]
  | cons x r ih => have := bulk_one x; simp only [Rows.uptoBulkAll, List.length_cons]; omega
theorem bulk_part {d : DataW H} {l : List (DataW H)} (h : d ∈ l) : Rows.uptoBulk d ≤ Rows.uptoBulkAll l := by
  induction l with
  | nil => cases h
  | cons x r ih =>
    simp only [Rows.uptoBulkAll]
    rcases List.mem_cons.1 h with e | e
    · subst e; omega
    · have := ih e; omega
theorem bulk_ents (d : DataW H) : entsLen d ≤ Rows.uptoBulk d := by
  cases d with
  | slice elems spare => have := bulk_len elems; simp only [entsLen, Rows.uptoBulk]; omega
  | _ => simp [entsLen]
theorem bulk_lists (d : DataW H) : listsLen d ≤ Rows.uptoBulk d := by
  cases d with
  | slice elems spare =>
    have h : (elems.map entsLen).sum ≤ Rows.uptoBulkAll elems := by
      induction elems with
      | nil => simp [Rows.uptoBulkAll]
      | cons x r ih => have := bulk_ents x; simp only [Rows.uptoBulkAll, List.map_cons, List.sum_cons]; omega
    simp only [listsLen, Rows.uptoBulk]; omega
  | _ => simp [listsLen]
theorem arg_lists_upto {r : Reach} {b0 : Nat} {v : Value} {d : DataW H} {ps : List MemPlace} (hval : Value.okWide Try.prog w r b0 42 v) (hd : DataW.Trod enc Try.prog w base spare held 42 v d ps) (hw : ∀ n ∈ d.weights Try.prog 42, n ≤ reachBytes)
    (hk : Rows.uptoBulk d ≤ 1048576) : ∃ ls, Lists w (fun _ => True) v ls ∧ total ls ≤ 1048576 := by
  obtain ⟨ls, h1, h2⟩ := arg_lists hval hd hw
  exact ⟨ls, h1, by have := bulk_lists d; omega⟩
theorem arg_entries_upto {r : Reach} {b0 : Nat} {v : Value} {d : DataW H} {ps : List MemPlace} (hval : Value.okWide Try.prog w r b0 22 v) (hd : DataW.Trod enc Try.prog w base spare held 22 v d ps) (hw : ∀ n ∈ d.weights Try.prog 22, n ≤ reachBytes)
    (hk : Rows.uptoBulk d ≤ 1048576) : ∃ es, Ents w (fun _ => True) v es ∧ es.length ≤ 1048576 := by
  obtain ⟨n, hn⟩ := arg_slice Try.underlying22 hval hd
  obtain ⟨es, h1, h2⟩ := open_entries hn hw
  have := bulk_ents d
  simp only at h2
  exact ⟨es, h1, by omega⟩
end
end Go.Proofs.Ytelbidknefkaiaa
