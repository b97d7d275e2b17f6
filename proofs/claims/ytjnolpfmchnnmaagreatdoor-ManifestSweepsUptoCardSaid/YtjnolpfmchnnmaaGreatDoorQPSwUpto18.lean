/-
Law 13's ManifestSweeps, as its arguments come in.
-/
import Derived.Test.YtjnolpfmchnnmaaGreatDoorQPSwUpto13
import Derived.Test.YtjnolpfmchnnmaaGreatDoorQPSwUpto17
section
namespace Go.Proofs.YtjnolpfmchnnmaaGreatDoor
set_option maxRecDepth 100000
open Go.RowKit Go.BigFrame
theorem manifestSweepsArg (v0 : Value) (a0 : Edt) (v1 : Value) (a1 : List Int) (v2 : Value) (a2 : List Nm) (W : World) (w0 : (editV W (fun _ => True) v0 a0 ∧ a0.drop.length * 8 ≤ 140737488355328) ∧ (∀ t ∈ a0.add, t.count < 9223372036854775808) ∧ a0.lg < 9223372036854775808 ∧ a0.sq < 9223372036854775808)
    (w1 : IntsIn W (fun _ => True) v1 a1) (x1 : a1.length ≤ 1048576) (w2 : NmsIn W v2 a2) (x2 : a2.length ≤ 1048576) (ht : TabW W) (he : ErrW W) :
    Calls Tryz.prog 9 #[v0, v1, v2] W fun r w' => r = .returned (.bool true) ∧ fr W w' := by
  obtain ⟨⟨⟨av0, dv0, rfl, h1, h2⟩, h3⟩, h4⟩ := w0
  exact manifestSweepsLaw av0 dv0 v1 v2 a0 a1 a2 W h1 h2 h3 h4 w1 x1 w2 x2 ht he
end Go.Proofs.YtjnolpfmchnnmaaGreatDoor
end
