/-
Frames: only blocks of a set have turned.
-/
import Derived.Test.YtelbidknefkaiaaEnt
namespace Go.Proofs.Ytelbidknefkaiaa
open Go.RowKit

theorem Only.refl (S : Nat → Prop) (w : World) : Only S w w := ⟨rfl, rfl, rfl, Nat.le_refl _, fun _ _ _ => rfl⟩
theorem Only.trans {S : Nat → Prop} {a b c : World} (h : Only S a b) (k : Only S b c) : Only S a c :=
  ⟨k.os.trans h.os, k.tape.trans h.tape, k.output.trans h.output, Nat.le_trans h.size k.size, fun i hi hS => (k.block i (Nat.lt_of_lt_of_le hi h.size) hS).trans (h.block i hi hS)⟩
theorem Only.mono {S S' : Nat → Prop} {a b : World} (h : Only S a b) (hS : ∀ i, S i → S' i) : Only S' a b :=
  ⟨h.os, h.tape, h.output, h.size, fun i hi hn => h.block i hi (fun h' => hn (hS i h'))⟩
theorem Only.of_below {S : Nat → Prop} {a b : World} (h : Below a.heap.size a b) : Only S a b := ⟨h.os, h.tape, h.output, h.size, fun i hi _ => h.block i hi⟩
theorem Only.below {S : Nat → Prop} {a b : World} {B : Nat} (h : Only S a b) (hB : B ≤ a.heap.size) (hS : ∀ i, S i → B ≤ i) : Below B a b :=
  ⟨h.os, h.tape, h.output, h.size, fun i hi => h.block i (Nat.lt_of_lt_of_le hi hB) (fun h' => by have := hS i h'; omega)⟩
theorem Only.setCell {S : Nat → Prop} {a b : World} (h : Only S a b) {p : Addr} (hp : S p.block) (u : Value) : Only S a (b.setCell p u) :=
  h.trans ⟨rfl, rfl, rfl, by simp [World.setCell], fun i _ hS => Below.heap_setCell _ _ _ _ (fun e => hS (by rw [e]; exact hp))⟩
theorem Only.alloc {S : Nat → Prop} {a b : World} (h : Only S a b) (o : Obj) : Only S a (b.alloc o) :=
  h.trans ⟨rfl, rfl, rfl, by simp, fun _ hi _ => Below.heap_alloc _ _ _ hi⟩
theorem Only.drew {S : Nat → Prop} {a b : World} (h : Only S a b) : Only S a b.drew := ⟨h.os, h.tape, h.output, h.size, h.block⟩
theorem Only.drewN {S : Nat → Prop} {a b : World} (h : Only S a b) (k : Nat) : Only S a (b.drewN k) := ⟨h.os, h.tape, h.output, h.size, h.block⟩
theorem Row.only {w w' : World} {T S : Nat → Prop} {A : Option Addr} {n size : Nat} {xs : List Value} (h : Row w T A n size xs) (ho : Only S w w') (hd : ∀ i, i < w.heap.size → T i → ¬ S i) : Row w' T A n size xs :=
  h.keep ho.size fun i hi hT => ho.block i hi (hd i hi hT)
theorem Byt.only {w w' : World} {T S : Nat → Prop} {v : Value} {bs : List UInt8} (h : Byt w T v bs) (ho : Only S w w') (hd : ∀ i, i < w.heap.size → T i → ¬ S i) : Byt w' T v bs :=
  h.keep ho.size fun i hi hT => ho.block i hi (hd i hi hT)
theorem EntV.only {w w' : World} {T S : Nat → Prop} {v : Value} {e : Ent} (h : EntV w T v e) (ho : Only S w w') (hd : ∀ i, i < w.heap.size → T i → ¬ S i) : EntV w' T v e := by
  obtain ⟨k, u, rfl, h1, h2⟩ := h
  exact ⟨k, u, rfl, h1.only ho hd, h2.only ho hd⟩
end Go.Proofs.Ytelbidknefkaiaa
