/-
A region that draws its order, whose operations only read, and whose callees may make memory
but hand back a value that is the same in every world that extends the one ahead: one walk.
-/
import Derived.BigQuiet
import Derived.Test.YtelbidknefkaiaaSameE
namespace Go.Proofs.Ytelbidknefkaiaa
open Go.RowKit Go.BigFrame

/-- a frame by name: all that was there stands. -/
def fr (W w' : World) : Prop := Below W.heap.size W w'
section
variable {W w' w2 : World}
theorem fr.refl : fr W W := Below.refl _ _
theorem fr.drew (h : fr W w') : fr W w'.drew := Below.drew h
theorem fr.step (h : fr W w') (hb : Below w'.heap.size w' w2) : fr W w2 := Below.trans h (hb.mono (Below.size h))
theorem fr.alloc (h : fr W w') (o : Obj) : fr W (w'.alloc o) := h.step ((Below.refl _ _).alloc (Nat.le_refl _) _)
theorem fr.cell (h : fr W w') {p : Addr} {v : Value} (hc : W.cell? p = some v) : w'.cell? p = some v := (Below.cell h (World.block_lt_of_cell? W p hc)).trans hc
theorem fr.ent (h : fr W w') {S : Nat → Prop} {v : Value} {e : Ent} (hv : EntV W S v e) : EntV w' S v e := hv.below h
end

/-- A world that extends W. -/
structure Ext (W : World) where
  w : World
  h : fr W w

instance {W : World} : Nonempty (Ext W) := ⟨⟨W, fr.refl⟩⟩

theorem Ext.cell {W : World} {p : Addr} {v : Value} (hc : W.cell? p = some v) (q : Ext W) : q.w.cell? p = some v := q.h.cell hc

theorem wp_region_quiet_ext {P : Program} {id : Nat} {Q : Exit → Act → World → Prop} {a : Act} {w : World} {l : List Oper} (hm : P.follows .mixedOrders = true) (hB : Region.lexB .any l.toArray = true)
    (h : wpQuiet P l.toArray (fun w' => ∃ p : Ext w, w' = p.w) (fun a' => ∀ w', (∃ p : Ext w, w' = p.w) → Q .normal a' w') l a) : (Code.region id l.toArray true).wp P Q a w :=
  wp_region_quiet (C := fun w' => ∃ p : Ext w, w' = p.w) hm hB ⟨⟨w.drew, fr.refl.drew⟩, rfl⟩ (by simpa using h)

theorem Ext.calls {P : Program} {f : FuncId} {args : Array Value} {W : World} {p : Ext W} {v : Value}
    (h : Calls P f args p.w fun e w' => e = .returned v ∧ Below p.w.heap.size p.w w') : Calls P f args p.w fun e w'' => e = .returned v ∧ ∃ q : Ext W, w'' = q.w :=
  h.mono fun _ _ ⟨he, hb⟩ => ⟨he, ⟨_, p.h.step hb⟩, rfl⟩

theorem Ext.calls_same {P : Program} {f : FuncId} {args : Array Value} {W : World} {p : Ext W} {v : Value}
    (h : Calls P f args p.w fun e w' => e = .returned v ∧ p.w = w') : Calls P f args p.w fun e w'' => e = .returned v ∧ ∃ q : Ext W, w'' = q.w :=
  h.mono fun _ _ ⟨he, hb⟩ => ⟨he, ⟨_, p.h⟩, hb.symm⟩

end Go.Proofs.Ytelbidknefkaiaa
