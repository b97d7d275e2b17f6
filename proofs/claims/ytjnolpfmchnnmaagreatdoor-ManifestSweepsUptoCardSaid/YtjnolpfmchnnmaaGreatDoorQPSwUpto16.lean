/-
usanceref13.at and usanceref05.Less.
-/
import Derived.Test.YtjnolpfmchnnmaaGreatDoorQPSwUpto2
import Derived.Test.YtjnolpfmchnnmaaGreatDoorQPSwUpto4
import Derived.BigQuiet
section
namespace Go.Proofs.YtjnolpfmchnnmaaGreatDoor
set_option maxRecDepth 100000
open Go.RowKit Go.ChangeShapes Go.WideShapes Go.Deep
instance : Inhabited Nm := ⟨[]⟩
def nmR : Rd Nm := fun _ _ s cs => cs = [.string ⟨s.toArray⟩] ∧ s.length ≤ 140737488355328
theorem nmFine : Fine nmR 1 := ⟨fun h => by obtain ⟨rfl, _⟩ := h; rfl, fun h _ => h⟩
abbrev NmsIn (w : World) (v : Value) (l : List Nm) : Prop := Rows nmR 1 16 w (fun _ => True) v l
theorem cells_sS : Tryz.prog.cellsOf 9 = 1 := by kernel_rfl
theorem bytes_sS : Tryz.prog.bytesOf 9 = 16 := by kernel_rfl
section
variable {H : Type} {enc : TypeId × Value → H} {w : World} {base : Nat} {held : Bool} {spare : Nat → Bool}
set_option maxRecDepth 100000 in
theorem open_nm (fuel : Nat) (cs : List Value) (x : DataW H × List MemPlace) (h : DataW.trod enc Tryz.prog w base spare held fuel 9 cs = some x) (hw : ∀ n ∈ x.1.weights Tryz.prog 9, n ≤ reachBytes) :
    ∃ s : Nm, nmR w (fun _ => True) s cs ∧ s.length + 1 ≤ Rows.uptoBulk x.1 := by
  obtain ⟨s, hs, rfl, _⟩ := DataW.trod_string Tryz.underlying9 h
  have := hw s.data.toList.length (by simp [DataW.weights])
  exact ⟨s.data.toList, ⟨hs, by unfold reachBytes at this; omega⟩, by simp only [Rows.uptoBulk]; omega⟩
theorem sum_one (l : List Nm) : l.length ≤ (l.map fun s => s.length + 1).sum := by
  induction l with
  | nil => exact Nat.le_refl _
  | cons a l ih => rw [List.length_cons, List.map_cons, List.sum_cons]; omega
set_option maxRecDepth 100000 in
theorem arg_names_upto {r : Reach} {b0 : Nat} {v : Value} {d : DataW H} {ps : List MemPlace} (hval : Value.okWide Tryz.prog w r b0 64 v) (hd : DataW.Trod enc Tryz.prog w base spare held 64 v d ps) (hw : ∀ n ∈ d.weights Tryz.prog 64, n ≤ reachBytes)
    (hk : Rows.uptoBulk d ≤ 1048576) : ∃ l, NmsIn w v l ∧ l.length ≤ 1048576 := by
  obtain ⟨n, hn⟩ := arg_slice Tryz.underlying64 hval hd
  obtain ⟨l, h, hs⟩ := open_rows (R := nmR) (by decide) Tryz.underlying64 cells_sS bytes_sS (fun s => s.length + 1) open_nm hn hw
  exact ⟨l, h, Nat.le_trans (sum_one l) (Nat.le_trans hs hk)⟩
set_option maxRecDepth 100000 in
theorem arg_ids_upto {r : Reach} {b0 : Nat} {v : Value} {d : DataW H} {ps : List MemPlace} (hval : Value.okWide Tryz.prog w r b0 26 v) (hd : DataW.Trod enc Tryz.prog w base spare held 26 v d ps) (hw : ∀ n ∈ d.weights Tryz.prog 26, n ≤ reachBytes)
    (hk : Rows.uptoBulk d ≤ 1048576) : ∃ zs, IntsIn w (fun _ => True) v zs ∧ zs.length ≤ 1048576 := by
  obtain ⟨n, hn⟩ := arg_slice Tryz.underlying26 hval hd
  obtain ⟨zs, h, _⟩ := open_zs hn hw
  obtain ⟨A, c, rfl⟩ : ∃ A c, v = .slice A zs.length c := by obtain ⟨A, c, h, _⟩ := h; exact ⟨A, c, h⟩
  exact ⟨zs, h, Nat.le_trans (bulk_slice Tryz.underlying26 hn) hk⟩
end
end Go.Proofs.YtjnolpfmchnnmaaGreatDoor
end
section
namespace Go.Proofs.YtjnolpfmchnnmaaGreatDoor
set_option maxRecDepth 100000
open Go.RowKit Go.BigFrame
attribute [local go_sem ↓] Go.wp_at_zero Go.wp_at_succ
theorem frH_drewN {w : World} {k : Nat} : fr w (w.drewN k) := ⟨rfl, rfl, rfl, Nat.le_refl _, fun _ _ => rfl⟩
end Go.Proofs.YtjnolpfmchnnmaaGreatDoor
end
