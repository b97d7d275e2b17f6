/-
A slice of slices of bytes that came in.
-/
import Derived.Test.YtjnolpfmchnnmaaGreatDoorQPSwUpto0
import Derived.RangeFuncNested
import Derived.RangeFuncBound
import Derived.RangeFuncCalls
import Derived.RangeFuncLeaves
import Derived.Laws.BitsLemmas
import Derived.Test.YtjnolpfmchnnmaaGreatDoorProg
import Derived.Deep.WholeRow
import Derived.Laws.ResultCell
import Derived.Laws.CopyRow
import Derived.Laws.CopyOwn
import Derived.Laws.Rows
import Derived.Deep.Cut
import Derived.OwnWalk
import Derived.Test.YtjnolpfmchnnmaaGreatDoorQPSwUpto2
section
namespace Go.Proofs.YtjnolpfmchnnmaaGreatDoor
set_option maxRecDepth 100000
open Go.RowKit
def Idle (Z : Nat → Prop) (base : Nat) (A B : World) : Prop := Only (fun i => Z i ∨ (base ≤ i ∧ ∃ o, A.heap[i]? = some o ∧ o.isCells = false)) A B
theorem Idle.mono {Z : Nat → Prop} {b b' : Nat} {A B : World} (h : Idle Z b A B) (hb : b' ≤ b) : Idle Z b' A B := Only.mono h fun _ hi => hi.imp id fun hi => ⟨Nat.le_trans hb hi.1, hi.2⟩
theorem Idle.wide {Z Z' : Nat → Prop} {b : Nat} {A B : World} (h : Idle Z b A B) (hZ : ∀ i, Z i → Z' i) : Idle Z' b A B := Only.mono h fun i hi => hi.imp (hZ i) id
theorem Idle.trans {Z : Nat → Prop} {base : Nat} {A B C : World} (h : Idle Z base A B) (k : Idle Z base B C) : Idle Z base A C :=
  ⟨k.os.trans h.os, k.tape.trans h.tape, k.output.trans h.output, Nat.le_trans h.size k.size, fun i hi hn => by
    have e := h.block i hi hn
    exact (k.block i (Nat.lt_of_lt_of_le hi h.size) fun hk => hn (hk.imp id fun hk => ⟨hk.1, by rw [← e]; exact hk.2⟩)).trans e⟩
theorem Idle.of_below {Z : Nat → Prop} {base : Nat} {A B : World} (h : Below A.heap.size A B) : Idle Z base A B := Only.of_below h
theorem Idle.of_only {Z : Nat → Prop} {base : Nat} {A B : World} (h : Only Z A B) : Idle Z base A B := Only.mono h fun _ hi => .inl hi
theorem Idle.putObj {Z : Nat → Prop} {base l : Nat} {A : World} {o o' : Obj} (hl : base ≤ l) (hlo : A.heap[l]? = some o) (ho : o.isCells = false) : Idle Z base A (A.putObj l o') :=
  ⟨rfl, rfl, rfl, by simp, fun i _ hn => World.putObj_heap_other fun e => hn (by subst e; exact .inr ⟨hl, o, hlo, ho⟩)⟩
theorem Idle.cells {Z : Nat → Prop} {base i : Nat} {A B : World} {o : Obj} (h : Idle Z base A B) (hZ : ¬ Z i) (hi : A.heap[i]? = some o) (ho : o.isCells = true) : B.heap[i]? = some o :=
  (h.block i (Array.getElem?_eq_some_iff.1 hi).1 fun hk => by
    rcases hk with hk | ⟨_, o', e, h'⟩
    · exact hZ hk
    · rw [hi] at e; injection e with e; subst e; rw [ho] at h'; cases h').trans hi
theorem Idle.low {Z : Nat → Prop} {base i : Nat} {A B : World} {o : Obj} (h : Idle Z base A B) (hZ : ¬ Z i) (hi : A.heap[i]? = some o) (hb : i < base) : B.heap[i]? = some o :=
  (h.block i (Array.getElem?_eq_some_iff.1 hi).1 fun hk => hk.elim hZ fun hk => by omega).trans hi
def Grew (s : Nat) (T T' : Nat → Prop) : Prop := ∀ i, T' i → T i ∨ s ≤ i
def Still (Z : Nat → Prop) (base : Nat) (I : World → Prop) : Prop := ∀ A B, I A → Idle Z base A B → I B
variable {F : Fence} {n : Nat} {P : Program}
def Tells {α : Type} (F : Fence) (n : Nat) (P : Program) (gf : Nat) (lb : Array Value) (encs : α → Array Value) (Ok : List α → (Nat → Prop) → α → World → Prop) (S Sp : List α → World → Prop) (D Z : Nat → Prop) (w : World) : Prop :=
  ∀ (l : Nat) (J Jx : List α → (Nat → Prop) → World → Prop) (T0 : Nat → Prop) (W : World), Below w.heap.size w W → (∀ i, T0 i → ¬ D i) →
    (∀ pre T, Still Z W.heap.size (J pre T)) → (∀ pre T, Still Z W.heap.size (Jx pre T)) → (∀ pre T A i, J pre T A → T i → i < A.heap.size) →
    (∀ pre T x A, J pre T A → Ok pre T x A → YieldAt F (n - 1) P l (encs x) A fun e B => ∃ T', Grew A.heap.size T T' ∧ Only T A B ∧ ((e = .returned (.bool true) ∧ J (pre ++ [x]) T' B) ∨ (e = .returned (.bool false) ∧ Jx (pre ++ [x]) T' B))) →
    J [] T0 W → CallsIn F n P gf (#[.func (.yield l) #[] #[]] ++ lb) W fun e W' => (∃ v, e = .returned v) ∧ ((∃ xs T, S xs W' ∧ J xs T W') ∨ (∃ xs T, Sp xs W' ∧ Jx xs T W'))
def offPost {α : Type} (sA : Nat) (T : Nat → Prop) (I : List α → (Nat → Prop) → World → Prop) (Ix : Code → List α → (Nat → Prop) → World → Prop) (xs : List α) (W : World) : Exit → Act → World → Prop
  | .normal, _, W' => ∃ T', Grew sA T T' ∧ Only (fun i => T i ∨ sA ≤ i) W W' ∧ I xs T' W'
  | .ret, _, W' => ∃ T', Grew sA T T' ∧ Only (fun i => T i ∨ sA ≤ i) W W' ∧ Ix .ret xs T' W'
  | .exit id, _, W' => ∃ T', Grew sA T T' ∧ Only (fun i => T i ∨ sA ≤ i) W W' ∧ Ix (.exit id) xs T' W'
  | .goto t, _, W' => ∃ T', Grew sA T T' ∧ Only (fun i => T i ∨ sA ≤ i) W W' ∧ Ix (.goto t) xs T' W'
  | _, _, _ => False
theorem range_tells {α : Type} {g : Operand} {ps : Array Tmp} {assign body : Code} {Q : Exit → Act → World → Prop} {a : Act} {w : World}
    (hro : F.round = none) (h1 : 1 ≤ n) {gf : Nat} {lb : Array Value} (hg : a.eval g = .func (.func gf) #[] lb) (hFg : F.fn gf) (eg : ∀ args w, (callFunc gf args).run P w = .ok (.enter gf args) w)
    {encs : α → Array Value} {Ok : List α → (Nat → Prop) → α → World → Prop} {S Sp : List α → World → Prop} {D Z : Nat → Prop} (hseq : Tells F (n - 1) P gf lb encs Ok S Sp D Z w) (hD : ∀ i, D i → i < w.heap.size) (hZ : ∀ i, Z i → D i)
    (hOk : ∀ pre T T' x A, (∀ i, T' i → T i) → Ok pre T x A → Ok pre T' x A)
    (hS : ∀ xs, Still (fun _ => False) w.heap.size (S xs)) (hSp : ∀ xs, Still (fun _ => False) w.heap.size (Sp xs)) (hps : ∀ x, (encs x).size = ps.size)
    (I : List α → (Nat → Prop) → World → Prop) (Ix : Code → List α → (Nat → Prop) → World → Prop) (hI : ∀ pre T, Still Z w.heap.size (I pre T)) (hIx : ∀ c pre T, Still Z w.heap.size (Ix c pre T))
    (T0 : Nat → Prop) (hT0 : ∀ i, T0 i → i < w.heap.size ∧ ¬ D i) (h0 : I [] T0 w)
    (Ax : List α → (Nat → Prop) → α → Act → World → Prop) (hAx : ∀ pre T x a', Still Z w.heap.size (Ax pre T x a'))
    (hassign : ∀ (l : Nat) (pre : List α) (T : Nat → Prop) (x : α) (W : World) (K : Act → World → Prop), I pre T W → Ok pre T x W → (∀ a' W', Below W.heap.size W W' → I pre T W' → Ax pre T x a' W' → K a' W') →
      assign.wpIn (F.inRound l) (n - 1 - 1) P (Exit.then K (fun _ _ _ => False)) { tmps := (ps.zip (encs x)).foldl (fun t (p, v) => t.setIfInBounds p v) a.tmps, defers := [] } W)
    (hbody : ∀ (l : Nat) (pre : List α) (T : Nat → Prop) (x : α) (a' : Act) (sA : Nat) (W : World), w.heap.size ≤ l → l < sA → (∃ r, W.heap[l]? = some (.loop r)) → (∀ i, T i → T0 i ∨ (w.heap.size + 1 < i ∧ i < sA)) → sA ≤ W.heap.size → I pre T W → Ax pre T x a' W → body.wpIn (F.inRound l) (n - 1 - 1) P (offPost sA T I Ix (pre ++ [x]) W) a' W)
    (hdone : ∀ (D' : Nat) (xs : List α) (T : Nat → Prop) (W : World), w.heap.size ≤ D' → (∀ i, T i → T0 i ∨ (D' < i ∧ i < W.heap.size)) → S xs W → I xs T W → W.heap[D']? = some (.deferred (some [])) → Q .normal { a with defers := { target := .collected D', args := #[] } :: a.defers } W)
    (hstop : ∀ (D' : Nat) (c : Code) (xs : List α) (T : Nat → Prop) (W : World), w.heap.size ≤ D' → (∀ i, T i → T0 i ∨ (D' < i ∧ i < W.heap.size)) → Sp xs W → Ix c xs T W → W.heap[D']? = some (.deferred (some [])) → c.wpIn F n P Q { a with defers := { target := .collected D', args := #[] } :: a.defers } W)
    (hIs : ∀ pre T W i, I pre T W → T i → i < W.heap.size) (hIxs : ∀ c pre T W i, Ix c pre T W → T i → i < W.heap.size) :
    (Code.rangeFunc g ps assign body).wpIn F n P Q a w := by
  refine wpIn_rangeFunc fun fn hfn => ?_
  rw [hro]
  obtain ⟨rec, hrec⟩ : ∃ rec : LoopState → Option Code → Loop, rec = fun st pe => { state := st, pending := pe, fn, tmps := a.tmps, params := ps, assign, body, defers := w.heap.size } := ⟨_, rfl⟩
  obtain ⟨W1, hW1⟩ : ∃ W1, (w.alloc (.deferred (some []))).alloc (.loop (rec .ready none)) = W1 := ⟨_, rfl⟩
  have hL1 : W1.heap[w.heap.size + 1]? = some (.loop (rec .ready none)) := by
    rw [← hW1]; have := World.alloc_heap_new (w.alloc (.deferred (some []))) (.loop (rec .ready none)); rwa [World.size_alloc] at this
  have hK1 : W1.heap[w.heap.size]? = some (.deferred (some [])) := by
    rw [← hW1]; exact (Below.heap_alloc _ _ _ (by simp)).trans (World.alloc_heap_new w _)
  have hb1 : Below w.heap.size w W1 := by
    rw [← hW1]; exact ((Below.refl _ w).alloc (Nat.le_refl _) _).alloc (by simp) _
  have hz1 : W1.heap.size = w.heap.size + 2 := by rw [← hW1]; simp
  have hI1 : I [] T0 W1 := hI _ _ _ _ h0 (Idle.of_below hb1)
  refine ⟨w.heap.size + 1, [{ target := .collected w.heap.size, args := #[] }], W1, { target := .fn (.func gf) lb, args := #[.func (.yield (w.heap.size + 1)) #[] #[]] }, W1, gf,
    #[.func (.yield (w.heap.size + 1)) #[] #[]] ++ lb, W1, ?_, ?_, ?_, ?_, fun _ => h1, ?_⟩
  · rw [← hW1, hrec]; exact run_enterLoop_outer _ _ _ _ _
  · simp only [resolve, hg]
    simp [go_sem]
  · intro f' hf'; simp [Target.leads] at hf'; subst hf'; exact hFg
  · simp [invoke, go_sem, eg]
  refine (hseq (w.heap.size + 1)
    (fun pre T W => ∃ Tc, (∀ i, T i → Tc i ∨ i = w.heap.size + 1) ∧ T (w.heap.size + 1) ∧ (∀ i, Tc i → T i) ∧ (∀ i, Tc i → T0 i ∨ (w.heap.size + 1 < i ∧ i < W.heap.size)) ∧ I pre Tc W ∧ W.heap[w.heap.size + 1]? = some (.loop (rec .ready none)) ∧ W.heap[w.heap.size]? = some (.deferred (some [])))
    (fun pre T W => ∃ c Tc, (∀ i, Tc i → T0 i ∨ (w.heap.size + 1 < i ∧ i < W.heap.size)) ∧ Ix c pre Tc W ∧ W.heap[w.heap.size + 1]? = some (.loop (rec .done (some c))) ∧ W.heap[w.heap.size]? = some (.deferred (some [])))
    (fun i => T0 i ∨ i = w.heap.size + 1) W1 hb1 ?_ ?_ ?_ ?_ ?_ ⟨T0, fun i hi => hi, .inr rfl, fun i hi => .inl hi, fun i hi => .inl hi, hI1, hL1, hK1⟩).mono ?_
  · rintro i (hi | rfl) hd
    · exact (hT0 i hi).2 hd
    · have := hD _ hd
      omega
  · rintro pre T A B ⟨Tc, c1, c2, c3, c4, hi, hl, hk⟩ hAB
    have hid : Idle Z w.heap.size A B := hAB.mono (by omega)
    exact ⟨Tc, c1, c2, c3, fun i hi => (c4 i hi).imp id fun h => ⟨h.1, Nat.lt_of_lt_of_le h.2 hAB.size⟩, hI _ _ _ _ hi hid, hAB.low (fun h => by have := hD _ (hZ _ h); omega) hl (by omega), hAB.low (fun h => by have := hD _ (hZ _ h); omega) hk (by omega)⟩
  · rintro pre T A B ⟨c, Tc, c4, hi, hl, hk⟩ hAB
    have hid : Idle Z w.heap.size A B := hAB.mono (by omega)
    exact ⟨c, Tc, fun i hi => (c4 i hi).imp id fun h => ⟨h.1, Nat.lt_of_lt_of_le h.2 hAB.size⟩, hIx _ _ _ _ _ hi hid, hAB.low (fun h => by have := hD _ (hZ _ h); omega) hl (by omega), hAB.low (fun h => by have := hD _ (hZ _ h); omega) hk (by omega)⟩
  · rintro pre T A i ⟨Tc, c1, c2, c3, c4, hi, hl, hk⟩ hTi
    rcases c1 i hTi with h | rfl
    · exact hIs _ _ _ _ hi h
    · exact (Array.getElem?_eq_some_iff.1 hl).1
  · rintro pre T x A ⟨Tc, c1, c2, c3, c4, hi, hl, hk⟩ hok
    replace hok := hOk _ _ _ _ _ c3 hok
    have hlt : w.heap.size + 1 < A.heap.size := (Array.getElem?_eq_some_iff.1 hl).1
    have hy := run_yield (P := P) (args := encs x) hl (by rw [hrec]; exact hps x)
    rw [hrec] at hy
    refine ⟨fn, _, assign, body, hy, roundIn_of_wpIn hfn (hassign _ pre Tc x A _ hi hok ?_)⟩
    clear hy
    intro a' W hbA hia hax
    replace hl := (hbA.block _ hlt).trans hl
    replace hk := (hbA.block _ (by omega)).trans hk
    have hltW : w.heap.size + 1 < W.heap.size := (Array.getElem?_eq_some_iff.1 hl).1
    refine ⟨_, run_beginRound hl (by rw [hrec]), ?_⟩
    have hid2 : Idle Z w.heap.size W (W.putObj (w.heap.size + 1) (.loop { rec .ready none with state := .busy })) := Idle.putObj (by omega) hl rfl
    have hl2 : (W.putObj (w.heap.size + 1) (.loop { rec .ready none with state := .busy })).heap[w.heap.size + 1]? = some (.loop { rec .ready none with state := .busy }) := World.putObj_heap_same hltW
    have hk2 : (W.putObj (w.heap.size + 1) (.loop { rec .ready none with state := .busy })).heap[w.heap.size]? = some (.deferred (some [])) := (World.putObj_heap_other (by omega)).trans hk
    obtain ⟨W2, hW2⟩ : ∃ W2, W.putObj (w.heap.size + 1) (.loop { rec .ready none with state := .busy }) = W2 := ⟨_, rfl⟩
    rw [hW2] at hid2 hl2 hk2 ⊢
    have ho2 : Only (fun i => Tc i ∨ i = w.heap.size + 1) A W2 := by
      refine Only.trans (Only.of_below hbA) ⟨hid2.os, hid2.tape, hid2.output, hid2.size, fun i _ hn => ?_⟩
      rw [← hW2]
      exact World.putObj_heap_other fun e => hn (.inr e)
    refine wpIn_mono (hbody _ pre Tc x a' A.heap.size W2 (by omega) hlt ⟨_, hl2⟩ c4 (Nat.le_trans hbA.size hid2.size) (hI _ _ _ _ hia hid2) (hAx _ _ _ _ _ _ hax hid2)) ?_
    have hnT : ∀ i, i ≤ w.heap.size + 1 → w.heap.size ≤ i → ¬ (Tc i ∨ A.heap.size ≤ i) := fun i h1 h2 h => by
      rcases h with h | h
      · rcases c4 i h with h | h
        · have := (hT0 i h).1
          omega
        · omega
      · omega
    have fin : ∀ (jump : Option Code) (W3 : World), Only (fun i => Tc i ∨ A.heap.size ≤ i) W2 W3 →
        (Instr.endRound (w.heap.size + 1) jump).run P W3 = .ok (.bool jump.isNone) (W3.putObj (w.heap.size + 1) (.loop (rec (if jump.isNone then .ready else .done) jump))) ∧
        Idle Z w.heap.size W3 (W3.putObj (w.heap.size + 1) (.loop (rec (if jump.isNone then .ready else .done) jump))) ∧
        (W3.putObj (w.heap.size + 1) (.loop (rec (if jump.isNone then .ready else .done) jump))).heap[w.heap.size + 1]? = some (.loop (rec (if jump.isNone then .ready else .done) jump)) ∧
        (W3.putObj (w.heap.size + 1) (.loop (rec (if jump.isNone then .ready else .done) jump))).heap[w.heap.size]? = some (.deferred (some [])) ∧
        Only T A (W3.putObj (w.heap.size + 1) (.loop (rec (if jump.isNone then .ready else .done) jump))) := fun jump W3 h3 => by
      have hl3 := (h3.block _ (Array.getElem?_eq_some_iff.1 hl2).1 (hnT _ (by omega) (by omega))).trans hl2
      have hk3 := (h3.block _ (Array.getElem?_eq_some_iff.1 hk2).1 (hnT _ (by omega) (by omega))).trans hk2
      have := run_endRound (P := P) jump hl3
      rw [hrec] at this ⊢
      refine ⟨this, Idle.putObj (by omega) hl3 rfl, World.putObj_heap_same (Array.getElem?_eq_some_iff.1 hl3).1, (World.putObj_heap_other (by omega)).trans hk3, h3.os.trans ho2.os, h3.tape.trans ho2.tape, h3.output.trans ho2.output, ?_, fun i hi hn => ?_⟩
      · have := h3.size
        have := ho2.size
        simp
        omega
      · have hne : i ≠ w.heap.size + 1 := fun e => hn (by rw [e]; exact c2)
        refine (World.putObj_heap_other hne).trans ((h3.block i (Nat.lt_of_lt_of_le hi ho2.size) ?_).trans (ho2.block i hi ?_))
        · rintro (h | h)
          · exact hn (c3 i h)
          · omega
        · rintro (h | h)
          · exact hn (c3 i h)
          · exact hne h
    have grow : ∀ (T' : Nat → Prop) (W4 : World), Grew A.heap.size Tc T' → (∀ i, T' i → i < W4.heap.size) → A.heap.size ≤ W4.heap.size → ∀ i, T' i → T0 i ∨ (w.heap.size + 1 < i ∧ i < W4.heap.size) := fun T' W4 h1 h2 h3 i hi => by
      rcases h1 i hi with h | h
      · exact (c4 i h).imp id fun h => ⟨h.1, by omega⟩
      · exact .inr ⟨by omega, h2 i hi⟩
    have wrap : ∀ (T' : Nat → Prop), Grew A.heap.size Tc T' → Grew A.heap.size T (fun i => T' i ∨ i = w.heap.size + 1) := fun T' h1 i hi => by
      rcases hi with hi | rfl
      · exact (h1 i hi).imp (c3 i) id
      · exact .inl c2
    rintro e a3 W3 hp
    cases e with
    | normal =>
      obtain ⟨T', g1, o1, hi3⟩ := hp
      obtain ⟨hr, hid, hl4, hk4, ho4⟩ := fin none W3 o1
      have hi4 := hI _ _ _ _ hi3 hid
      exact ⟨_, _, hr, _, wrap T' g1, ho4, .inl ⟨rfl, T', fun i hi => hi, .inr rfl, fun i hi => .inl hi, grow T' _ g1 (fun i hi => hIs _ _ _ _ hi4 hi) ho4.size, hi4, hl4, hk4⟩⟩
    | ret =>
      obtain ⟨T', g1, o1, hi3⟩ := hp
      obtain ⟨hr, hid, hl4, hk4, ho4⟩ := fin (some .ret) W3 o1
      have hi4 := hIx _ _ _ _ _ hi3 hid
      exact ⟨_, _, hr, _, wrap T' g1, ho4, .inr ⟨rfl, .ret, T', grow T' _ g1 (fun i hi => hIxs _ _ _ _ _ hi4 hi) ho4.size, hi4, hl4, hk4⟩⟩
    | exit id =>
      obtain ⟨T', g1, o1, hi3⟩ := hp
      obtain ⟨hr, hid, hl4, hk4, ho4⟩ := fin (some (.exit id)) W3 o1
      have hi4 := hIx _ _ _ _ _ hi3 hid
      exact ⟨_, _, hr, _, wrap T' g1, ho4, .inr ⟨rfl, .exit id, T', grow T' _ g1 (fun i hi => hIxs _ _ _ _ _ hi4 hi) ho4.size, hi4, hl4, hk4⟩⟩
    | goto t =>
      obtain ⟨T', g1, o1, hi3⟩ := hp
      obtain ⟨hr, hid, hl4, hk4, ho4⟩ := fin (some (.goto t)) W3 o1
      have hi4 := hIx _ _ _ _ _ hi3 hid
      exact ⟨_, _, hr, _, wrap T' g1, ho4, .inr ⟨rfl, .goto t, T', grow T' _ g1 (fun i hi => hIxs _ _ _ _ _ hi4 hi) ho4.size, hi4, hl4, hk4⟩⟩
    | panic ch => exact hp.elim
    | outgrown => exact hp.elim
  · rintro e W2 ⟨⟨v, rfl⟩, (⟨xs, T, hs, Tc, c1, c2, c3, c4, hi, hl, hk⟩ | ⟨xs, T, hs, c, Tc, c4, hi, hl, hk⟩)⟩
    · have hend := run_endLoop (P := P) hl (by rw [hrec]; simp)
      rw [hrec] at hend
      have hid : ∀ Z o', Idle Z w.heap.size W2 (W2.putObj (w.heap.size + 1) o') := fun Z o' => Idle.putObj (by omega) hl rfl
      exact ⟨none, _, hend, hdone _ xs Tc _ (Nat.le_refl _) (fun i hi => (c4 i hi).imp id fun h => ⟨by omega, by simpa using h.2⟩) (hS _ _ _ hs (hid _ _)) (hI _ _ _ _ hi (hid _ _)) ((World.putObj_heap_other (by omega)).trans hk)⟩
    · have hend := run_endLoop (P := P) hl (by rw [hrec]; simp)
      rw [hrec] at hend
      have hid : ∀ Z o', Idle Z w.heap.size W2 (W2.putObj (w.heap.size + 1) o') := fun Z o' => Idle.putObj (by omega) hl rfl
      exact ⟨some c, _, hend, hstop _ c xs Tc _ (Nat.le_refl _) (fun i hi => (c4 i hi).imp id fun h => ⟨by omega, by simpa using h.2⟩) (hSp _ _ _ hs (hid _ _)) (hIx _ _ _ _ _ hi (hid _ _)) ((World.putObj_heap_other (by omega)).trans hk)⟩
end Go.Proofs.YtjnolpfmchnnmaaGreatDoor
end
section
namespace Go.Proofs.YtjnolpfmchnnmaaGreatDoor
set_option maxRecDepth 100000
def formF : Nat → Nat → List UInt8
  | 0, v => [UInt8.ofNat v]
  | k + 1, v => if v ≤ 127 then [UInt8.ofNat v] else UInt8.ofNat (v % 128 + 128) :: formF k (v / 128)
def formN (v : Nat) : List UInt8 := formF 9 v
theorem formF_len : ∀ k v, 1 ≤ (formF k v).length ∧ (formF k v).length ≤ k + 1
  | 0, v => by simp [formF]
  | k + 1, v => by
    unfold formF
    split
    · simp
    · have := formF_len k (v / 128)
      simp only [List.length_cons]
      omega
theorem formN_len (v : Nat) : 1 ≤ (formN v).length ∧ (formN v).length ≤ 10 := formF_len 9 v
def crcBit (c : Nat) : Nat := (c >>> 1) ^^^ (if c % 2 = 1 then 3988292384 else 0)
def crcTab (i : Nat) : Nat := crcBit (crcBit (crcBit (crcBit (crcBit (crcBit (crcBit (crcBit i)))))))
def crcStep (c : Nat) (x : UInt8) : Nat := crcTab ((c % 256) ^^^ x.toNat) ^^^ (c >>> 8)
def crcGo (c : Nat) (bs : List UInt8) : Nat := bs.foldl crcStep c
def sumN (bs : List UInt8) : Nat := 4294967295 ^^^ crcGo 4294967295 bs
def le32 (n : Nat) : List UInt8 := [UInt8.ofNat n, UInt8.ofNat (n / 256), UInt8.ofNat (n / 65536), UInt8.ofNat (n / 16777216)]
def un32 : List UInt8 → Nat
  | a :: b :: c :: d :: _ => a.toNat + b.toNat * 256 + c.toNat * 65536 + d.toNat * 16777216
  | _ => 0
theorem un_le32 {n : Nat} (h : n < 4294967296) (rest : List UInt8) : un32 (le32 n ++ rest) = n := by
  unfold le32 un32
  simp
  omega
def putF (p : List UInt8) : List UInt8 := le32 p.length ++ le32 (sumN (le32 p.length ++ p)) ++ p
theorem le32_len (n : Nat) : (le32 n).length = 4 := rfl
theorem putF_len (p : List UInt8) : (putF p).length = p.length + 8 := by
  unfold putF
  simp only [List.length_append, le32_len]
  omega
end Go.Proofs.YtjnolpfmchnnmaaGreatDoor
end
section
namespace Go.Proofs.YtjnolpfmchnnmaaGreatDoor
set_option maxRecDepth 100000
theorem xor_nat (k : IntKind) (j : Nat) (hj : j ≤ k.bits) (hk : ∀ n : Int, 0 ≤ n → n < 2 ^ j → k.wrap n = n) (a b : Nat) (ha : a < 2 ^ j) (hb : b < 2 ^ j) : bits .xor k a b = ((a ^^^ b : Nat) : Int) := by
  have hp : 2 ^ j ≤ 2 ^ k.bits := Nat.pow_le_pow_right (by decide) hj
  have ha' : a % 2 ^ k.bits = a := Nat.mod_eq_of_lt (Nat.lt_of_lt_of_le ha hp)
  have hb' : b % 2 ^ k.bits = b := Nat.mod_eq_of_lt (Nat.lt_of_lt_of_le hb hp)
  simp only [bits, BitVec.ofInt_natCast, BitVec.toNat_xor, BitVec.toNat_ofNat, ha', hb']
  exact hk _ (Int.natCast_nonneg _) (by exact_mod_cast Nat.xor_lt_two_pow ha hb)
theorem wraps32 (n : Int) (h₀ : 0 ≤ n) (h₁ : n < 2 ^ 32) : IntKind.u32.wrap n = n := by rw [IntKind.wrap_u32]; omega
theorem wraps64 (n : Int) (h₀ : 0 ≤ n) (h₁ : n < 2 ^ 64) : IntKind.u64.wrap n = n := by simp [IntKind.wrap, IntKind.bits, IntKind.signed]; omega
theorem wrap_u64 (n : Int) : IntKind.u64.wrap n = n % 18446744073709551616 := by simp [IntKind.wrap, IntKind.bits, IntKind.signed]
theorem crc_bits {c : Nat} (h : c < 4294967296) : bits .xor .u32 ((c : Int) / 2) (bits .and .u32 3988292384 (-bits .and .u32 (c : Int) 1 % 4294967296)) = ((crcBit c : Nat) : Int) := by
  have h1 : bits .and .u32 (c : Int) 1 = (c : Int) % 2 := by
    have := bits_mask .u32 32 (by decide) wraps32 1 (by decide) (c : Int) (by omega) (by omega)
    simpa using this
  have key : ∀ d : Nat, d < 4294967296 → bits .xor .u32 ((c : Int) / 2) (d : Int) = (((c >>> 1) ^^^ d : Nat) : Int) := fun d hd => by
    have := xor_nat .u32 32 (by decide) wraps32 (c / 2) d (by omega) (by omega)
    rw [Nat.shiftRight_eq_div_pow]
    simpa using this
  unfold crcBit
  rw [h1]
  rcases (by omega : c % 2 = 0 ∨ c % 2 = 1) with h2 | h2
  · have e : (c : Int) % 2 = 0 := by omega
    rw [e, if_neg (by omega)]
    have e2 : bits .and .u32 3988292384 (-0 % 4294967296) = ((0 : Nat) : Int) := by decide
    rw [e2]
    exact key 0 (by decide)
  · have e : (c : Int) % 2 = 1 := by omega
    rw [e, if_pos h2]
    have e2 : bits .and .u32 3988292384 (-1 % 4294967296) = ((3988292384 : Nat) : Int) := by decide +kernel
    rw [e2]
    exact key 3988292384 (by decide)
theorem crc_index {c x : Nat} (hx : x < 256) : bits .xor .u8 ((c : Int) % 256) (x : Int) = (((c % 256) ^^^ x : Nat) : Int) := by
  have := xor_nat .u8 8 (by decide) wraps_u8 (c % 256) x (by omega) (by omega)
  simpa using this
theorem crc_mix {a c : Nat} (ha : a < 4294967296) (hc : c < 4294967296) : bits .xor .u32 (a : Int) ((c : Int) / 256) = ((a ^^^ (c >>> 8) : Nat) : Int) := by
  have := xor_nat .u32 32 (by decide) wraps32 a (c / 256) (by omega) (by omega)
  rw [Nat.shiftRight_eq_div_pow]
  simpa using this
end Go.Proofs.YtjnolpfmchnnmaaGreatDoor
end
section
namespace Go.Proofs.YtjnolpfmchnnmaaGreatDoor
set_option maxRecDepth 100000
open Go.RowKit Go.BigFrame
attribute [local go_sem ↓] Go.wp_at_zero Go.wp_at_succ
def crcIt : Nat → Nat → Nat
  | 0, c => c
  | j + 1, c => crcBit (crcIt j c)
theorem crcBit_lt {c : Nat} (h : c < 4294967296) : crcBit c < 4294967296 := by
  unfold crcBit
  have h1 : c >>> 1 < 2 ^ 32 := by rw [Nat.shiftRight_eq_div_pow]; omega
  have h2 : (if c % 2 = 1 then 3988292384 else 0) < 2 ^ 32 := by split <;> omega
  exact Nat.xor_lt_two_pow h1 h2
theorem crcIt_lt {c : Nat} (h : c < 4294967296) : ∀ j, crcIt j c < 4294967296
  | 0 => h
  | j + 1 => crcBit_lt (crcIt_lt h j)
def tabTo (i : Nat) : Array Value := ((List.range 256).map fun j => if j < i then .int .u32 (crcTab j : Nat) else .int .u32 0).toArray
theorem tabTo_at {i k : Nat} (h : k < 256) : (tabTo i)[k]? = some (if k < i then .int .u32 (crcTab k : Nat) else .int .u32 0) := by
  unfold tabTo
  rw [List.getElem?_toArray, List.getElem?_map, List.getElem?_range h]
  rfl
theorem tabTo_size (i : Nat) : (tabTo i).size = 256 := by unfold tabTo; simp
theorem tabTo_set {i : Nat} : (tabTo i).setIfInBounds i (.int .u32 (crcTab i : Nat)) = tabTo (i + 1) := by
  apply Array.ext_getElem?
  intro k
  by_cases hk : k < 256
  · rw [tabTo_at hk]
    by_cases hki : i = k
    · subst hki
      rw [Array.getElem?_setIfInBounds_self, if_pos (by rw [tabTo_size]; exact hk), if_pos (by omega)]
    · rw [Array.getElem?_setIfInBounds_ne hki, tabTo_at hk]
      by_cases h2 : k < i
      · rw [if_pos h2, if_pos (by omega)]
      · rw [if_neg h2, if_neg (by omega)]
  · rw [Array.getElem?_eq_none (by rw [Array.size_setIfInBounds, tabTo_size]; omega), Array.getElem?_eq_none (by rw [tabTo_size]; omega)]
theorem tabTo_zero : Tryz.zeroCells279 = tabTo 0 := by kernel_rfl
set_option maxRecDepth 100000 in
set_option maxHeartbeats 4000000 in
theorem table_any (w : World) : Calls Tryz.prog 193 #[] w fun r w' => r = .returned (.agg (tabTo 256)) ∧ fr w w' := by
  have hz : ∀ w, (zeroValue 279).run Tryz.prog w = .ok (.agg (tabTo 0)) w := fun w => by rw [← tabTo_zero]; exact Tryz.zeroValue279 w
  have P1 : ((w.alloc (.cells (tabTo 0) 279)).alloc (.cells (tabTo 0) 279)).heap[w.heap.size + 1]? = some (.cells (tabTo 0) 279 (0, 0)) := by
    have := heap_alloc_new (w.alloc (.cells (tabTo 0) 279)) (.cells (tabTo 0) 279)
    rwa [World.size_alloc] at this
  have P0 : ((w.alloc (.cells (tabTo 0) 279)).alloc (.cells (tabTo 0) 279)).heap[w.heap.size]? = some (.cells (tabTo 0) 279 (0, 0)) := (Below.heap_alloc _ _ _ (by simp)).trans (heap_alloc_new w _)
  go_enter Tryz.func193, Tryz.ntmps193
  go_wp2
  go_loopw [4] (fun t wr => ∃ i : Nat, i ≤ 256 ∧ t = .int .i64 i ∧ wr.heap[w.heap.size + 1]? = some (.cells (tabTo i) 279 (0, 0)) ∧ wr.heap[w.heap.size]? = some (.cells (tabTo 0) 279 (0, 0)) ∧ fr w wr) (fun t _ => 256 - (intOf t).toNat)
  case atStart => exact ⟨0, Nat.zero_le _, rfl, P1, P0, fr.alloc (fr.alloc fr.refl _) _⟩
  case round =>
    clear P1 P0
    obtain ⟨i, hi, rfl, p1, p0, hfr⟩ := hrel
    have HP1 := Lib.hid p1
    have HP0 := Lib.hid p0
    have HFR := Lib.hid hfr
    clear p1 p0 hfr
    by_cases hin : i < 256
    · have hu : IntKind.u32.wrap (i : Int) = (i : Int) := by simp [IntKind.wrap, IntKind.signed, IntKind.bits]; omega
      go_wp2
      go_loopw [3, 9] (fun c t wx => ∃ j : Nat, j ≤ 8 ∧ t = .int .i64 j ∧ c = .int .u32 (crcIt j i : Nat) ∧ wx = wr) (fun _ t _ => 8 - (intOf t).toNat)
      case atStart => exact ⟨0, Nat.zero_le _, rfl, rfl, rfl⟩
      case round =>
        obtain ⟨j, hj, rfl, rfl, rfl⟩ := hrel
        by_cases hj8 : j < 8
        · have hlt := crcIt_lt (show i < 4294967296 by omega) j
          have hne : crcIt (j + 1) i = crcBit (crcIt j i) := rfl
          obtain ⟨c, hc⟩ : ∃ c, crcIt j i = c := ⟨_, rfl⟩
          rw [hc] at hlt hne ⊢
          go_wp2
          exact ⟨⟨j + 1, by omega, by go_num, by rw [hne, crc_bits hlt], trivial⟩, by simp [intOf]; omega⟩
        · obtain rfl : j = 8 := by omega
          have hcell : wr.cell? ⟨w.heap.size + 1, i, none⟩ = some (.int .u32 0) := (cell_of_row wr _ i _ _ _ HP1.out).trans (by rw [tabTo_at hin, if_neg (by omega)])
          have hfz := frozen_of_row wr _ i _ _ HP1.out
          go_wp2
          refine ⟨⟨i + 1, by omega, by go_num, ?_, ?_, RowKit.Below.setCell HFR.out (Nat.le_add_right _ _) _⟩, by simp [intOf]; omega⟩
          · rw [heap_setCell_same wr _ i _ _ _ HP1.out, show crcIt 8 i = crcTab i from rfl, tabTo_set]
          · exact (heap_setCell_other wr ⟨w.heap.size + 1, i, none⟩ w.heap.size _ (by simp)).trans HP0.out
    · obtain rfl : i = 256 := by omega
      have hu := Tryz.underlying279
      have hi2 : (Tryz.prog.info? 279).map (·.size) = some (tabTo 256).size := by rw [tabTo_size]; kernel_rfl
      have hq1 : ∀ v ∈ (tabTo 256).toList, v.oneCell' = true := fun v hv => by
        unfold tabTo at hv
        simp only [List.mem_map, List.mem_range] at hv
        obtain ⟨j, _, rfl⟩ := hv
        split <;> rfl
      have hst := run_storeCells_at (P := Tryz.prog) w.heap.size 0 279 (tabTo 256).toList 0 (tabTo 0) wr HP0.out (by simp [tabTo_size]) hq1
      have h256 : ((tabTo 0).toList.take (0 + 0) ++ (tabTo 256).toList ++ (tabTo 0).toList.drop (0 + 0 + (tabTo 256).toList.length)).toArray = tabTo 256 := by
        rw [List.drop_eq_nil_of_le (by simp [tabTo_size])]
        simp
      rw [h256] at hst
      have hpr := setRow_heap wr w.heap.size _ (tabTo 256) _ _ HP0.out
      have hfr : fr w (wr.setRow w.heap.size (tabTo 256)) := below_setRow HFR.out (Nat.le_refl _) _
      generalize wr.setRow w.heap.size (tabTo 256) = w9 at hst hpr hfr
      go_wp2
      refine wp_load_row 279 (.tmp 1) rfl (w.heap.size + 1) rfl 279 (tabTo 256) (0, 0) _ HP1.out hu rfl hi2 ?_
      go_wp2
      exact bodyPost_ret (v := .agg (tabTo 256)) (results_cell_row (p := 0) rfl _ _ w.heap.size 279 (tabTo 256) (0, 0) _ rfl hpr hu rfl hi2) rfl ⟨rfl, hfr⟩
end Go.Proofs.YtjnolpfmchnnmaaGreatDoor
end
section
namespace Go.Proofs.YtjnolpfmchnnmaaGreatDoor
set_option maxRecDepth 100000
open Go.RowKit Go.BigFrame
attribute [local go_sem ↓] Go.wp_at_zero Go.wp_at_succ
def BytsV (w : World) (S : Nat → Prop) (v : Value) (ps : List (List UInt8)) : Prop :=
  ∃ (A : Option Addr) (c : Nat) (vs : List Value), v = .slice A ps.length c ∧ ps.length ≤ c ∧ c ≤ 9223372036854775807 ∧ Row w S A ps.length 1 vs ∧ ∀ (i : Nat) (p : List UInt8), ps[i]? = some p → ∃ x, vs[i]? = some x ∧ Byt w S x p
theorem BytsV.below {w w' : World} {S : Nat → Prop} {v : Value} {ps : List (List UInt8)} (h : BytsV w S v ps) (hb : Below w.heap.size w w') : BytsV w' S v ps := by
  obtain ⟨A, c, vs, e, h1, h2, h3, h4⟩ := h
  exact ⟨A, c, vs, e, h1, h2, h3.below hb, fun i p hp => by obtain ⟨x, hx, hy⟩ := h4 i p hp; exact ⟨x, hx, hy.below hb⟩⟩
theorem crcGo_append (c : Nat) (a b : List UInt8) : crcGo c (a ++ b) = crcGo (crcGo c a) b := by unfold crcGo; rw [List.foldl_append]
theorem crcTab_lt {i : Nat} (h : i < 256) : crcTab i < 4294967296 := crcIt_lt (show i < 4294967296 by omega) 8
theorem crcIdx_lt {c : Nat} (x : UInt8) : (c % 256) ^^^ x.toNat < 256 := Nat.xor_lt_two_pow (n := 8) (Nat.mod_lt _ (by decide)) x.toNat_lt
theorem crcStep_lt {c : Nat} (h : c < 4294967296) (x : UInt8) : crcStep c x < 4294967296 := by
  unfold crcStep
  exact Nat.xor_lt_two_pow (n := 32) (crcTab_lt (crcIdx_lt x)) (by rw [Nat.shiftRight_eq_div_pow]; omega)
theorem crcGo_lt : ∀ {c : Nat} (_ : c < 4294967296) (bs : List UInt8), crcGo c bs < 4294967296
  | _, h, [] => h
  | _, h, x :: bs => crcGo_lt (crcStep_lt h x) bs
theorem crcGo_snoc {c : Nat} {bs : List UInt8} {j : Nat} {x : UInt8} (h : bs[j]? = some x) : crcGo c (bs.take (j + 1)) = crcStep (crcGo c (bs.take j)) x := by
  rw [take_snoc h, crcGo_append]
  rfl
theorem sumN_lt (bs : List UInt8) : sumN bs < 4294967296 := Nat.xor_lt_two_pow (n := 32) (by decide) (crcGo_lt (by decide) bs)
set_option maxRecDepth 100000 in
set_option maxHeartbeats 4000000 in
theorem sum_any (S : Nat → Prop) (v : Value) (ps : List (List UInt8)) (w : World) (hv : BytsV w S v ps) :
    Calls Tryz.prog 123 #[v] w fun r w' => r = .returned (.int .u32 (sumN ps.flatten : Nat)) ∧ fr w w' := by
  have hz : ∀ w, (zeroValue 279).run Tryz.prog w = .ok (.agg (tabTo 0)) w := fun w => by rw [← tabTo_zero]; exact Tryz.zeroValue279 w
  have HV := Lib.hid hv
  obtain ⟨A, c, vs, rfl, hc, hcm, hr, he⟩ := hv
  obtain ⟨n, hn⟩ : ∃ n, ps.length = n := ⟨_, rfl⟩
  rw [hn] at hr hc ⊢
  have HN := Lib.hid hn
  have HE := Lib.hid he
  have HR := Lib.hid hr
  have hi2 : (Tryz.prog.info? 279).map (·.size) = some (tabTo 256).size := by rw [tabTo_size]; kernel_rfl
  have hq1 : (tabTo 256).all (·.oneCell') = true := by
    rw [Array.all_eq_true_iff_forall_mem]
    intro v hv
    unfold tabTo at hv
    simp only [List.mem_toArray, List.mem_map, List.mem_range] at hv
    obtain ⟨j, _, rfl⟩ := hv
    split <;> rfl
  have hst : ∀ w1 : World, (storeCells ⟨w1.heap.size, 0, none⟩ (tabTo 256).toList 0).run Tryz.prog (w1.alloc (.cells (tabTo 0) 279)) = .ok () (w1.alloc (.cells (tabTo 256) 279)) := fun w1 =>
    run_storeCells_new (P := Tryz.prog) w1 279 (tabTo 0) (tabTo 256) hi2 (by rw [tabTo_size, tabTo_size]) hq1
  clear hn hr he HV
  go_enter Tryz.func123, Tryz.ntmps123
  go_wp2_with (go_at_call 193; refine (table_any _).mono ?_; rintro r w1 ⟨rfl, f1⟩)
  have hp : (w1.alloc (.cells (tabTo 256) 279)).heap[w1.heap.size]? = some (.cells (tabTo 256) 279 (0, 0)) := heap_alloc_new w1 _
  have hfr : fr w (w1.alloc (.cells (tabTo 256) 279)) := fr.alloc f1 _
  have hzw := Below.size f1
  generalize hb : w1.heap.size = B at hp hzw ⊢
  generalize hw : w1.alloc (.cells (tabTo 256) 279) = w2 at hp hfr ⊢
  clear hw hb f1 hst
  have HP := Lib.hid hp
  have HF := Lib.hid hfr
  have HT : Hid (∀ x : Nat, x < 256 → w2.cell? ⟨B, x, none⟩ = some (.int .u32 (crcTab x : Nat))) := Lib.hid fun x hx => by rw [cell_of_row w2 B x _ _ _ HP.out, tabTo_at hx, if_pos hx]
  clear hp hfr hi2 hq1 hz
  go_loopw [4, 12] (fun x t wr => ∃ k : Nat, k ≤ n ∧ t = .int .i64 k ∧ x = .int .u32 (crcGo 4294967295 (ps.take k).flatten : Nat) ∧ wr = w2) (fun _ t _ => n - (intOf t).toNat)
  case atStart => exact ⟨0, Nat.zero_le _, rfl, rfl, rfl⟩
  case round =>
    obtain ⟨k, hk, rfl, rfl, rfl⟩ := hrel
    obtain ⟨c0, hc0⟩ : ∃ c, crcGo 4294967295 (ps.take k).flatten = c := ⟨_, rfl⟩
    have hlt0 : c0 < 4294967296 := by rw [← hc0]; exact crcGo_lt (by decide) _
    have HC0 := Lib.hid hc0
    rw [hc0]
    clear hc0
    by_cases hkn : k < n
    · obtain ⟨p, hpk⟩ : ∃ p, ps[k]? = some p := ⟨_, List.getElem?_eq_getElem (by rw [HN.out]; exact hkn)⟩
      obtain ⟨x, hx, hxe⟩ := HE.out k p hpk
      obtain ⟨b, o, u, rfl, _, _, hu, hcell⟩ := (HR.out.below HF.out).at_ hkn
      obtain rfl : u = x := by rw [hx] at hu; injection hu with hu; exact hu.symm
      obtain ⟨A1, c1, rfl⟩ := slice_form hxe
      have hl1 := hxe.len
      obtain ⟨m, hm⟩ : ∃ m, p.length = m := ⟨_, rfl⟩
      rw [hm] at hxe hcell hl1
      have HM := Lib.hid hm
      obtain ⟨A', c', hE, _, _, _, hrow⟩ := hxe.below HF.out
      injection hE with e1 e2 e3
      subst e1
      have HRW := Lib.hid hrow
      have HPK := Lib.hid hpk
      clear hx hu hxe e3 hrow hpk hm e2
      go_wp2
      clear hcell
      go_loopw [4, 18] (fun x t wx => ∃ j : Nat, j ≤ m ∧ t = .int .i64 j ∧ x = .int .u32 (crcGo c0 (p.take j) : Nat) ∧ wx = wr) (fun _ t _ => m - (intOf t).toNat)
      case atStart => exact ⟨0, Nat.zero_le _, rfl, rfl, rfl⟩
      case round =>
        obtain ⟨j, hj, rfl, rfl, rfl⟩ := hrel
        by_cases hjm : j < m
        · obtain ⟨y, hy⟩ : ∃ y, p[j]? = some y := ⟨_, List.getElem?_eq_getElem (by rw [HM.out]; exact hjm)⟩
          have hsn := crcGo_snoc (c := c0) hy
          obtain ⟨c2, hc2⟩ : ∃ c, crcGo c0 (p.take j) = c := ⟨_, rfl⟩
          have hlt2 : c2 < 4294967296 := by rw [← hc2]; exact crcGo_lt hlt0 _
          rw [hc2] at hsn ⊢
          have HSN := Lib.hid hsn
          obtain ⟨b3, o3, u3, rfl, _, _, hu3, hcell3⟩ := HRW.out.at_ (k := j) (by rw [HM.out]; exact hjm)
          obtain rfl : u3 = bcell y := by rw [List.getElem?_map, hy] at hu3; injection hu3 with hu; exact hu.symm
          have hix := crc_index (c := c2) y.toNat_lt
          have hil := crcIdx_lt (c := c2) y
          have htab := HT.out _ hil
          have hmix := crc_mix (crcTab_lt hil) hlt2
          obtain ⟨ix, hixe⟩ : ∃ i, (c2 % 256) ^^^ y.toNat = i := ⟨_, rfl⟩
          have HIX := Lib.hid hixe
          rw [hixe] at hix hil htab hmix
          unfold bcell at hcell3
          clear hu3 hy hc2 hsn hixe
          go_wp2
          exact ⟨⟨j + 1, by omega, by go_num, by rw [HSN.out]; unfold crcStep; rw [HIX.out], trivial⟩, by simp [intOf]; omega⟩
        · obtain rfl : j = m := by omega
          have htk : p.take j = p := List.take_of_length_le (by rw [HM.out]; exact Nat.le_refl _)
          have hnx : crcGo 4294967295 (ps.take (k + 1)).flatten = crcGo c0 p := by
            rw [take_snoc HPK.out, List.flatten_append, List.flatten_singleton, crcGo_append, HC0.out]
          rw [htk]
          have HNX := Lib.hid hnx
          clear htk hnx
          go_wp2
          exact ⟨⟨k + 1, by omega, by go_num, by rw [HNX.out], trivial⟩, by simp [intOf]; omega⟩
    · obtain rfl : k = n := by omega
      have htk : ps.take k = ps := List.take_of_length_le (by rw [HN.out]; exact Nat.le_refl _)
      rw [htk] at HC0
      clear htk
      go_wp2
      refine bodyPost_ret (v := .int .u32 _) (by simp [results, Tryz.results123, go_sem]; rfl) rfl ?_
      refine ⟨?_, HF.out⟩
      unfold sumN
      rw [HC0.out]
      have := xor_nat .u32 32 (by decide) wraps32 4294967295 c0 (by decide) hlt0
      rw [show IntKind.u32.max = ((4294967295 : Nat) : Int) by decide, this]
end Go.Proofs.YtjnolpfmchnnmaaGreatDoor
end
section
namespace Go.Proofs.YtjnolpfmchnnmaaGreatDoor
set_option maxRecDepth 100000
open Go.RowKit Go.BigFrame
attribute [local go_sem ↓] Go.wp_at_zero Go.wp_at_succ
abbrev OwnF (w : World) (lo : Nat) (v : Value) (bs : List UInt8) : Prop := OwnB w (fun i => lo ≤ i) v bs
theorem byte_of {n : Nat} : Value.int .u8 ((n : Int) % 256) = bcell (UInt8.ofNat n) := by
  unfold bcell
  congr 1
theorem le32_cells (n : Nat) : (#[.int .u8 ((n : Int) % 256), .int .u8 ((n : Int) / 256 % 256), .int .u8 ((n : Int) / 65536 % 256), .int .u8 ((n : Int) / 16777216 % 256)] : Array Value) = ((le32 n).map bcell).toArray := by
  have e1 : ((n : Int) / 256) = ((n / 256 : Nat) : Int) := by simp
  have e2 : ((n : Int) / 65536) = ((n / 65536 : Nat) : Int) := by simp
  have e3 : ((n : Int) / 16777216) = ((n / 16777216 : Nat) : Int) := by simp
  rw [e1, e2, e3, byte_of, byte_of, byte_of, byte_of]
  rfl
theorem or_hi {v c i : Nat} (hv : v < 2 ^ i) : v ||| c * 2 ^ i = v + c * 2 ^ i := by
  rw [Nat.or_comm, Nat.mul_comm c, ← Nat.two_pow_add_eq_or_of_lt hv]
  omega
theorem or32 {v c i : Nat} (hv : v < 2 ^ i) (h : v + c * 2 ^ i < 4294967296) : bits .or .u32 (v : Int) ((c * 2 ^ i : Nat) : Int) = ((v + c * 2 ^ i : Nat) : Int) := by
  have := (bits_nat .u32 32 (by decide) wraps32 v (c * 2 ^ i) (by omega) (by omega)).2
  rw [this, or_hi hv]
theorem get_bits (x0 x1 x2 x3 : UInt8) : bits .or .u32 (bits .or .u32 (bits .or .u32 ((x0.toNat : Int) % 4294967296) ((x1.toNat : Int) % 4294967296 * 256 % 4294967296)) ((x2.toNat : Int) % 4294967296 * 65536 % 4294967296)) ((x3.toNat : Int) % 4294967296 * 16777216 % 4294967296) =
    ((x0.toNat + x1.toNat * 256 + x2.toNat * 65536 + x3.toNat * 16777216 : Nat) : Int) := by
  have h0 := x0.toNat_lt
  have h1 := x1.toNat_lt
  have h2 := x2.toNat_lt
  have h3 := x3.toNat_lt
  rw [show (x0.toNat : Int) % 4294967296 = (x0.toNat : Int) by omega, show (x1.toNat : Int) % 4294967296 * 256 % 4294967296 = ((x1.toNat * 2 ^ 8 : Nat) : Int) by omega,
    show (x2.toNat : Int) % 4294967296 * 65536 % 4294967296 = ((x2.toNat * 2 ^ 16 : Nat) : Int) by omega, show (x3.toNat : Int) % 4294967296 * 16777216 % 4294967296 = ((x3.toNat * 2 ^ 24 : Nat) : Int) by omega]
  rw [or32 (i := 8) (by omega) (by omega), or32 (i := 16) (by omega) (by omega), or32 (i := 24) (by omega) (by omega)]
theorem Byt.lit4 (w : World) (S : Nat → Prop) (hS : S w.heap.size) (bs : List UInt8) (o : Obj) (n : Nat) (hn : bs.length = n) (h4 : n ≤ 140737488355328) (ho : o = .cells (bs.map bcell).toArray 5 (0, 0)) : Byt (w.alloc o) S (.slice (some ⟨w.heap.size, 0, none⟩) n n) bs := by
  subst hn ho
  refine ⟨_, _, rfl, Nat.le_refl _, by omega, h4, by simp, fun _ => ⟨w.heap.size, 0, rfl, hS, by simp, fun j u hu => ?_⟩⟩
  rw [World.cell?_alloc_at _ _ _ _ rfl]
  simpa using hu
set_option maxRecDepth 100000 in
set_option maxHeartbeats 2000000 in
theorem put_any (lo n : Nat) (v : Value) (bs : List UInt8) (w : World) (hv : OwnF w lo v bs) (hn : n < 4294967296) (hl : bs.length + 4 ≤ 140737488355328) (hlo : lo ≤ w.heap.size) :
    Calls Tryz.prog 122 #[v, .int .u32 n] w fun r w' => ∃ A c, r = .returned (.slice A (bs.length + 4) c) ∧ OwnF w' lo (.slice A (bs.length + 4) c) (bs ++ le32 n) ∧ Below lo w w' := by
  obtain ⟨A, c, rfl⟩ := hv.form
  have HV := Lib.hid hv
  have HN := Lib.hid hn
  clear hv hn
  go_enter Tryz.func122, Tryz.ntmps122
  have hlt : Byt (w.alloc (.cells #[.int .u8 ((n : Int) % 256), .int .u8 ((n : Int) / 256 % 256), .int .u8 ((n : Int) / 65536 % 256), .int .u8 ((n : Int) / 16777216 % 256)] 5)) (fun _ => True) (.slice (some ⟨w.heap.size, 0, none⟩) 4 4) (le32 n) := Byt.lit4 w _ trivial (le32 n) _ 4 rfl (by omega) (by rw [le32_cells])
  have hal : OwnF (w.alloc (.cells #[.int .u8 ((n : Int) % 256), .int .u8 ((n : Int) / 256 % 256), .int .u8 ((n : Int) / 65536 % 256), .int .u8 ((n : Int) / 16777216 % 256)] 5)) lo (.slice A bs.length c) bs := HV.out.below (fr.alloc fr.refl _)
  go_wp2_with (at_builtin; refine wpList_append_ownB rfl _ _ rfl (fun i => lo ≤ i) (fun i => lo ≤ i) (.slice A bs.length c) _ rfl rfl (fun _ => True) bs (le32 n) hal hlt (by rw [le32_len]; exact hl) (fun _ h => h) (by rw [World.size_alloc]; omega) ?_; intro v2 w2 hown hgrow hat; obtain ⟨A2, c2, rfl⟩ := hown.form; rw [List.length_append, le32_len] at hown ⊢)
  refine bodyPost_ret (v := .slice A2 (bs.length + 4) c2) (by simp [results, Tryz.results122, go_sem]) rfl ?_
  refine ⟨A2, c2, rfl, hown, ?_⟩
  exact RowKit.Below.grown (B := lo) ((Below.refl lo w).alloc hlo _) hgrow (by rw [World.size_alloc]; omega) (fun j e => (HV.out.blk e).1)
set_option maxRecDepth 100000 in
set_option maxHeartbeats 2000000 in
theorem get_any (S : Nat → Prop) (v : Value) (bs : List UInt8) (w : World) (hv : Byt w S v bs) (h4 : 4 ≤ bs.length) :
    Calls Tryz.prog 237 #[v] w fun r w' => r = .returned (.int .u32 (un32 bs : Nat)) ∧ fr w w' := by
  obtain ⟨A, c, rfl, hc, hcm, hl, hr⟩ := hv
  obtain ⟨b, o, rfl, hS, hb, hcell⟩ := hr.2 (by omega)
  match bs, h4, hcell, hl with
  | x0 :: x1 :: x2 :: x3 :: rest, _, hcell, hl =>
    obtain ⟨n, hn⟩ : ∃ n, (x0 :: x1 :: x2 :: x3 :: rest).length = n := ⟨_, rfl⟩
    have hn4 : 4 ≤ n := by rw [← hn]; simp
    have c0 : w.cell? ⟨b, o, none⟩ = some (.int .u8 (x0.toNat : Int)) := hcell 0 _ rfl
    have c1 : w.cell? ⟨b, o + 1, none⟩ = some (.int .u8 (x1.toNat : Int)) := hcell 1 _ rfl
    have c2 : w.cell? ⟨b, o + 2, none⟩ = some (.int .u8 (x2.toNat : Int)) := hcell 2 _ rfl
    have c3 : w.cell? ⟨b, o + 3, none⟩ = some (.int .u8 (x3.toNat : Int)) := hcell 3 _ rfl
    have l0 : (0 : Int) < (n : Int) := by omega
    have l1 : (1 : Int) < (n : Int) := by omega
    have l2 : (2 : Int) < (n : Int) := by omega
    have l3 : (3 : Int) < (n : Int) := by omega
    have F0 : ∀ q : Ext w, q.w.cell? { block := b, off := o } = _ := fun q => q.h.cell c0
    have F1 : ∀ q : Ext w, q.w.cell? { block := b, off := o + 1 } = _ := fun q => q.h.cell c1
    have F2 : ∀ q : Ext w, q.w.cell? { block := b, off := o + 2 } = _ := fun q => q.h.cell c2
    have F3 : ∀ q : Ext w, q.w.cell? { block := b, off := o + 3 } = _ := fun q => q.h.cell c3
    rw [hn]
    clear hr hcell hn hl c0 c1 c2 c3
    go_enter Tryz.func237, Tryz.ntmps237
    go_wp2
    (refine wp_region_quiet_ext (by kernel_rfl) (by kernel_rfl) ?_; (repeat (go_big_quiet_step (fail))); refine wpQuiet_nil ?_; intro wq hw'; obtain ⟨⟨_, hq⟩, hw''⟩ := hw'; subst hw'')
    go_wp2
    refine bodyPost_ret (v := .int .u32 _) (by simp [results, Tryz.results237, go_sem]; rfl) rfl ?_
    exact ⟨by rw [get_bits]; rfl, hq⟩
end Go.Proofs.YtjnolpfmchnnmaaGreatDoor
end
section
namespace Go.Proofs.YtjnolpfmchnnmaaGreatDoor
set_option maxRecDepth 100000
open Go.RowKit Go.BigFrame
attribute [local go_sem ↓] Go.wp_at_zero Go.wp_at_succ
theorem BytsV.lit (w : World) (vs : List Value) (ps : List (List UInt8)) (n : Nat) (o : Obj) (ho : o = .cells vs.toArray 35 (0, 0)) (hn : ps.length = n) (hl : vs.length = n) (hb : n ≤ 9223372036854775807) (h : ∀ (i : Nat) (p : List UInt8), ps[i]? = some p → ∃ x, vs[i]? = some x ∧ Byt w (fun _ => True) x p) :
    BytsV (w.alloc o) (fun _ => True) (.slice (some ⟨w.heap.size, 0, none⟩) n n) ps := by
  subst hn ho
  refine ⟨_, _, vs, rfl, Nat.le_refl _, hb, ⟨by simp [hl], fun _ => ⟨w.heap.size, 0, rfl, trivial, by simp, fun j u hu => ?_⟩⟩, fun i p hp => by obtain ⟨x, hx, hy⟩ := h i p hp; exact ⟨x, hx, hy.below (fr.alloc fr.refl _)⟩⟩
  rw [World.cell?_alloc_at _ _ _ _ rfl]
  simpa using hu
set_option maxRecDepth 100000 in
set_option maxHeartbeats 4000000 in
theorem fput_any (S : Nat → Prop) (v : Value) (bs : List UInt8) (w : World) (hv : Byt w S v bs) :
    Calls Tryz.prog 73 #[v] w fun r w' => (bs.length ≤ 2097152 → ∃ A c, r = .returned (.tuple #[.slice A (bs.length + 8) c, .int .i64 0]) ∧ OwnF w' w.heap.size (.slice A (bs.length + 8) c) (putF bs)) ∧ (¬ bs.length ≤ 2097152 → r = .returned (.tuple #[.slice none 0 0, .int .i64 3])) ∧ fr w w' := by
  obtain ⟨i0, hi, hz0, hz1, hz2⟩ := info_parts info5
  have hby := Lib.hid hz2
  have hz1' := Lib.hid hz1
  clear hz2 hz1
  obtain ⟨A, c, rfl⟩ := slice_form hv
  have HV := Lib.hid hv
  obtain ⟨n, hn⟩ : ∃ n, bs.length = n := ⟨_, rfl⟩
  have HN := Lib.hid hn
  rw [hn] at HV ⊢
  clear hv hn
  by_cases hle : n ≤ 2097152
  case neg =>
    have hgt : (2097152 : Int) < (n : Int) := by omega
    go_enter Tryz.func73, Tryz.ntmps73
    go_wp2
    refine bodyPost_ret (v := .tuple #[_, _]) (by simp [results, Tryz.results73, go_sem]; exact ⟨rfl, rfl⟩) rfl ?_
    exact ⟨fun h => absurd h hle, fun _ => rfl, fr.refl⟩
  case pos =>
    have hmod : (n : Int) % 4294967296 = (n : Int) := by omega
    have hgt : ¬ (2097152 : Int) < (n : Int) := by omega
    have hsum := sumN_lt (le32 n ++ bs)
    obtain ⟨s, hs⟩ : ∃ s, sumN (le32 n ++ bs) = s := ⟨_, rfl⟩
    rw [hs] at hsum
    have HS := Lib.hid hs
    clear hs
    go_enter Tryz.func73, Tryz.ntmps73
    go_upto_region 4 with (first
      | (at_make; refine wpList_make_own _ rfl _ _ 35 rfl w.heap.size 5 i0 (.int .u8 0) 1 Tryz.underlying35 hi hz0 hz1'.out _ _ _ (8 + n) rfl rfl (by omega) (by rw [hby.out]; omega) (by unfold maxLen; omega) (Nat.le_refl _) ?_; intro w1 hown hgrow)
      | (go_at_call 122; refine (put_any w.heap.size n _ [] w1 (OwnB.of_own hown (by simp) (fun _ h => h)) (by omega) (by simp) hgrow.size).mono ?_; rintro r w2 ⟨A2, c2, rfl, ho2, hb2⟩; simp only [List.length_nil, Nat.zero_add, List.nil_append] at ho2 ⊢))
    have hw1 : Below w.heap.size w w1 := RowKit.Below.grown (B := w.heap.size) (Below.refl _ _) hgrow (Nat.le_refl _) (fun j e => by simp at e)
    have hw2 : Below w.heap.size w w2 := hw1.trans hb2
    have HW2 := Lib.hid hw2
    have HO2 := Lib.hid ho2
    have hbl : BytsV (w2.alloc (.cells #[.slice A2 4 c2, .slice A n c] 35)) (fun _ => True) (.slice (some ⟨w2.heap.size, 0, none⟩) 2 2) [le32 n, bs] := BytsV.lit w2 [.slice A2 4 c2, .slice A n c] [le32 n, bs] 2 _ rfl rfl rfl (by omega) (fun i p hp => by
      match i, hp with
      | 0, hp => simp at hp; subst hp; exact ⟨_, rfl, ho2.byt.mono fun _ _ => trivial⟩
      | 1, hp => simp at hp; subst hp; exact ⟨_, rfl, (HV.out.below hw2).mono fun _ _ => trivial⟩
      | i + 2, hp => simp at hp)
    have hsu := sum_any _ _ _ _ hbl
    rw [show [le32 n, bs].flatten = le32 n ++ bs by simp, HS.out] at hsu
    have HSU := Lib.hid hsu
    have HPF : Hid (putF bs = le32 n ++ le32 s ++ bs) := Lib.hid (by unfold putF; rw [HN.out, HS.out])
    have hal : fr w2 (w2.alloc (.cells #[.slice A2 4 c2, .slice A n c] 35)) := fr.alloc fr.refl _
    have HAL := Lib.hid hal
    clear hsu hbl hal hw2 hw1 hb2 ho2 hown hgrow HS
    go_wp2_with (first
      | (go_at_call 123; refine HSU.out.mono ?_; rintro r w3 ⟨rfl, f3⟩)
      | (go_at_call 122; refine (put_any w.heap.size s _ (le32 n) w3 (HO2.out.below (fr.step HAL.out f3)) hsum (by rw [le32_len]; omega) (by have := HW2.out.size; have := (fr.step HAL.out f3).size; omega)).mono ?_; rintro r w4 ⟨A4, c4, rfl, ho4, hb4⟩; simp only [le32_len, Nat.reduceAdd] at ho4 ⊢)
      | (at_builtin; refine wpList_append_ownB rfl _ _ rfl (fun i => w.heap.size ≤ i) (fun i => w.heap.size ≤ i) (.slice A4 8 c4) _ rfl rfl S (le32 n ++ le32 s) bs ho4 (HV.out.below ((HW2.out.trans ((fr.step HAL.out f3).mono HW2.out.size)).trans hb4)) (by simp only [List.length_append, le32_len, HN.out]; omega) (fun _ h => h) (by have := HW2.out.size; have := (fr.step HAL.out f3).size; have := hb4.size; omega) ?_; intro v5 w5 hown5 hgrow5 hat5; obtain ⟨A5, c5, rfl⟩ := hown5.form; simp only [List.length_append, le32_len, HN.out, Nat.reduceAdd] at hown5 ⊢))
    have hw4 : Below w.heap.size w w4 := (HW2.out.trans ((fr.step HAL.out f3).mono HW2.out.size)).trans hb4
    have hw5 : fr w w5 := RowKit.Below.grown (B := w.heap.size) hw4 hgrow5 hw4.size (fun j e => (ho4.blk e).1)
    refine bodyPost_ret (v := .tuple #[.slice A5 (8 + n) c5, .int .i64 0]) (by simp [results, Tryz.results73, go_sem]) rfl ?_
    rw [Nat.add_comm 8 n] at hown5 ⊢
    exact ⟨fun _ => ⟨A5, c5, rfl, by rw [HPF.out]; exact hown5⟩, fun h => absurd hle h, hw5⟩
end Go.Proofs.YtjnolpfmchnnmaaGreatDoor
end
section
namespace Go.Proofs.YtjnolpfmchnnmaaGreatDoor
set_option maxRecDepth 100000
open Go.RowKit Go.BigFrame
attribute [local go_sem ↓] Go.wp_at_zero Go.wp_at_succ
def readF (bs : List UInt8) : List UInt8 × Nat × Int :=
  if bs.length = 0 then ([], 0, 12) else if bs.length < 8 then ([], 0, 10) else
  if 2097152 < un32 bs then ([], 0, 11) else if bs.length - 8 < un32 bs then ([], 0, 10) else
  if un32 (bs.drop 4) ≠ sumN (bs.take 4 ++ (bs.drop 8).take (un32 bs)) then ([], 0, 11) else ((bs.drop 8).take (un32 bs), 8 + un32 bs, 0)
theorem un32_lt (bs : List UInt8) : un32 bs < 4294967296 := by
  unfold un32
  split
  · rename_i a b c d _
    have ha := a.toNat_lt
    have hb := b.toNat_lt
    have hc := c.toNat_lt
    have hd := d.toNat_lt
    omega
  · omega
theorem undrewF {w w' : World} (g : fr w.drew w') : fr w w' := fr.step (fr.drew fr.refl) g
theorem Byt.cut {w : World} {S : Nat → Prop} {b o n c : Nat} {bs : List UInt8} (h : Byt w S (.slice (some ⟨b, o, none⟩) n c) bs) {f m c' : Nat} (hf : f + m ≤ n) (hc : m ≤ c') (hcm : c' ≤ 9223372036854775807) :
    Byt w S (.slice (some ⟨b, o + f, none⟩) m c') ((bs.drop f).take m) := by
  obtain ⟨A, ca, hE, h1, h2, h3, hr⟩ := h
  injection hE with e1 e2 e3
  subst e1
  have hl : ((bs.drop f).take m).length = m := by rw [List.length_take, List.length_drop]; omega
  refine ⟨_, _, by rw [hl], by omega, hcm, by omega, by rw [List.length_map, hl, Nat.mul_one], fun h0 => ?_⟩
  rw [hl] at h0
  obtain ⟨b', o', e, hS, hb, hc⟩ := hr.2 (by omega)
  injection e with e
  injection e with e4 e5
  subst e4 e5
  refine ⟨b, o + f, rfl, hS, hb, fun j u hu => ?_⟩
  rw [Nat.add_assoc]
  refine hc (f + j) u ?_
  rw [List.map_take, List.getElem?_take] at hu
  split at hu
  · rw [List.map_drop, List.getElem?_drop] at hu
    exact hu
  · cases hu
set_option maxRecDepth 100000 in
set_option maxHeartbeats 1000000 in
theorem fread_some (S : Nat → Prop) (b o n c k : Nat) (bs : List UInt8) (w : World) (hv : Byt w S (.slice (some ⟨b, o, none⟩) n c) bs) (hk : k ≤ n) (hn : bs.length = n) :
    Calls Tryz.prog 192 #[.slice (some ⟨b, o, none⟩) n c, .int .i64 k] w fun r w' => ∃ v' p q e, readF (bs.drop k) = (p, q, e) ∧ r = .returned (.tuple #[v', .int .i64 (if e = 0 then ((k + q : Nat) : Int) else 0), .int .i64 e]) ∧ BytL w' w.heap.size v' p ∧ fr w w' := by
  have hl := hv.len
  rw [hn] at hl
  have hcc : n ≤ c ∧ c ≤ 9223372036854775807 := by obtain ⟨A, ca, hE, h1, h2, _⟩ := hv; injection hE with _ e2 e3; omega
  have hkc : ((c : Int) - (k : Int)) = ((c - k : Nat) : Int) := by omega
  obtain ⟨m, hm⟩ : ∃ m, n - k = m := ⟨_, rfl⟩
  obtain ⟨cm, hcm⟩ : ∃ m, c - k = m := ⟨_, rfl⟩
  have HV := Lib.hid hv
  have HR : Hid (Byt w S (.slice (some ⟨b, o + k, none⟩) m cm) (bs.drop k)) := Lib.hid (by
    have := Byt.cut hv (f := k) (m := m) (c' := cm) (by omega) (by omega) (by omega)
    rwa [List.take_of_length_le (by rw [List.length_drop, hn]; omega)] at this)
  obtain ⟨rs, hrs⟩ : ∃ rs, bs.drop k = rs := ⟨_, rfl⟩
  have hrl : rs.length = m := by rw [← hrs, List.length_drop, hn, hm]
  rw [hrs] at HR ⊢
  have HRL := Lib.hid hrl
  clear hv hrs hrl
  have hk0 : decide ((k : Int) < 0) = false := by simp
  have hk1 : decide (n < k) = false := by simp; omega
  have hk2 : decide ((n : Int) < (k : Int)) = false := by simp; omega
  rcases (by omega : m = 0 ∨ (0 < m ∧ m < 8) ∨ 8 ≤ m) with h0 | ⟨h0, h8⟩ | h8
  · have HF : Hid (readF rs = ([], 0, 12)) := Lib.hid (by unfold readF; rw [if_pos (by rw [HRL.out]; exact h0)])
    have hm0 : ((m : Int) == 0) = true := by simp; omega
    clear h0
    go_enter Tryz.func192, Tryz.ntmps192
    go_wp2
    all_goals
      refine bodyPost_ret (v := .tuple #[.slice none 0 0, .int .i64 0, .int .i64 12]) (by simp [results, Tryz.results192, go_sem]) rfl ?_
      exact ⟨_, [], 0, 12, HF.out, rfl, BytL.nil _ _, fr.refl⟩
  · have HF : Hid (readF rs = ([], 0, 10)) := Lib.hid (by unfold readF; rw [HRL.out, if_neg (by omega), if_pos h8])
    have hm0 : ((m : Int) == 0) = false := by simp; omega
    have hck : ¬ c = k := by omega
    have hm8 : decide ((m : Int) < 8) = true := by simp; omega
    have hm9 : decide (m < 8) = true := by simp; omega
    clear h0
    go_enter Tryz.func192, Tryz.ntmps192
    go_wp2
    refine bodyPost_ret (v := .tuple #[.slice none 0 0, .int .i64 0, .int .i64 10]) (by simp [results, Tryz.results192, go_sem]) rfl ?_
    exact ⟨_, [], 0, 10, HF.out, rfl, BytL.nil _ _, fr.refl⟩
  · have hm0 : ((m : Int) == 0) = false := by simp; omega
    have hm8 : decide ((m : Int) < 8) = false := by simp; omega
    have hm9 : decide (m < 8) = false := by simp; omega
    have hq : un32 rs < 4294967296 := un32_lt rs
    obtain ⟨q, hqe⟩ : ∃ q, un32 rs = q := ⟨_, rfl⟩
    rw [hqe] at hq
    have HQ := Lib.hid hqe
    have CG : Hid (∀ wx, fr w wx → Calls Tryz.prog 237 #[.slice (some ⟨b, o + k, none⟩) m cm] wx fun r w' => r = .returned (.int .u32 q) ∧ fr wx w') := Lib.hid fun wx hx => by
      have := get_any S _ rs wx (HR.out.below hx) (by rw [HRL.out]; omega)
      rwa [HQ.out] at this
    clear hqe
    rcases (by omega : 2097152 < q ∨ q ≤ 2097152) with hbig | hbig
    · have HF : Hid (readF rs = ([], 0, 11)) := Lib.hid (by unfold readF; rw [HRL.out, if_neg (by omega), if_neg (by omega), HQ.out, if_pos hbig])
      have hb1 : (2097152 : Int) < (q : Int) := by omega
      go_enter Tryz.func192, Tryz.ntmps192
      go_wp2_with (go_at_call 237; refine (CG.out _ fr.refl).mono ?_; rintro r w1 ⟨rfl, f1⟩)
      refine bodyPost_ret (v := .tuple #[.slice none 0 0, .int .i64 0, .int .i64 11]) (by simp [results, Tryz.results192, go_sem]) rfl ?_
      exact ⟨_, [], 0, 11, HF.out, rfl, BytL.nil _ _, f1⟩
    · have hb1 : ¬ (2097152 : Int) < (q : Int) := by omega
      have hqm : (q : Int) % 18446744073709551616 = (q : Int) := by omega
      rcases (by omega : m - 8 < q ∨ q ≤ m - 8) with hs | hs
      · have HF : Hid (readF rs = ([], 0, 10)) := Lib.hid (by unfold readF; rw [HRL.out, if_neg (by omega), if_neg (by omega), HQ.out, if_neg (by omega), if_pos hs])
        have hb2 : ((m : Int) - 8) < (q : Int) := by omega
        go_enter Tryz.func192, Tryz.ntmps192
        go_wp2_with (go_at_call 237; refine (CG.out _ fr.refl).mono ?_; rintro r w1 ⟨rfl, f1⟩)
        refine bodyPost_ret (v := .tuple #[.slice none 0 0, .int .i64 0, .int .i64 10]) (by simp [results, Tryz.results192, go_sem]) rfl ?_
        exact ⟨_, [], 0, 10, HF.out, rfl, BytL.nil _ _, f1⟩
      · have hb2 : ¬ ((m : Int) - 8) < (q : Int) := by omega
        have hck : ¬ c = k := by omega
        have hck4 : ¬ cm = 4 := by omega
        obtain ⟨m4, hm4⟩ : ∃ x, m - 4 = x := ⟨_, rfl⟩
        obtain ⟨c4, hc4⟩ : ∃ x, cm - 4 = x := ⟨_, rfl⟩
        obtain ⟨c8, hc8⟩ : ∃ x, cm - 8 = x := ⟨_, rfl⟩
        have h4m : (4 : Int) ≤ (m : Int) := by omega
        have h4c : (4 : Int) ≤ (cm : Int) := by omega
        have h8q : (8 : Int) + (q : Int) ≤ (cm : Int) := by omega
        have hq8 : 8 + q - 8 = q := by omega
        obtain ⟨u, hu⟩ : ∃ u, un32 (rs.drop 4) = u := ⟨_, rfl⟩
        obtain ⟨pp, hpp⟩ : ∃ pp, (rs.drop 8).take q = pp := ⟨_, rfl⟩
        obtain ⟨s, hss⟩ : ∃ s, sumN (rs.take 4 ++ pp) = s := ⟨_, rfl⟩
        have hppl : pp.length = q := by rw [← hpp, List.length_take, List.length_drop, HRL.out]; omega
        have HU := Lib.hid hu
        have HPD := Lib.hid hpp
        have HSS := Lib.hid hss
        have HPL := Lib.hid hppl
        have H04 : Hid (Byt w S (.slice (some ⟨b, o + k, none⟩) 4 cm) (rs.take 4)) := Lib.hid (by
          have := Byt.cut HR.out (f := 0) (m := 4) (c' := cm) (by omega) (by omega) (by omega)
          simpa using this)
        have CG4 : Hid (∀ wx, fr w wx → Calls Tryz.prog 237 #[.slice (some ⟨b, o + k + 4, none⟩) m4 c4] wx fun r w' => r = .returned (.int .u32 u) ∧ fr wx w') := Lib.hid fun wx hx => by
          have h4 := Byt.cut HR.out (f := 4) (m := m4) (c' := c4) (by omega) (by omega) (by omega)
          rw [List.take_of_length_le (by rw [List.length_drop, HRL.out]; omega)] at h4
          have := get_any S _ (rs.drop 4) wx (h4.below hx) (by rw [List.length_drop, HRL.out]; omega)
          rwa [HU.out] at this
        clear hu hpp hss hppl
        by_cases hk8 : cm = 8
        · have hq0 : q = 0 := by omega
          obtain rfl : c4 = 4 := by omega
          obtain rfl : c8 = 0 := by omega
          subst hk8
          clear hc4 hc8
          have HPP : Hid (Byt w S (.slice (some ⟨b, o + k, none⟩) q 0) pp) := Lib.hid (by have := Byt.cut HR.out (f := 0) (m := q) (c' := 0) (by omega) (by omega) (by omega); have e : pp = [] := List.eq_nil_of_length_eq_zero (by rw [HPL.out]; exact hq0); rw [e]; rw [hq0] at this ⊢; simpa using this)
          have CS : Hid (∀ X wx, fr w X → fr (X.alloc (.cells #[.slice (some ⟨b, o + k, none⟩) 4 8, .slice (some ⟨b, o + k, none⟩) q 0] 35)) wx → Calls Tryz.prog 123 #[.slice (some ⟨X.heap.size, 0, none⟩) 2 2] wx fun r w' => r = .returned (.int .u32 s) ∧ fr wx w') := Lib.hid fun X wx hX hx => by
            have hbl : BytsV (X.alloc (.cells #[.slice (some ⟨b, o + k, none⟩) 4 8, .slice (some ⟨b, o + k, none⟩) q 0] 35)) (fun _ => True) (.slice (some ⟨X.heap.size, 0, none⟩) 2 2) [rs.take 4, pp] := BytsV.lit X [.slice (some ⟨b, o + k, none⟩) 4 8, .slice (some ⟨b, o + k, none⟩) q 0] [rs.take 4, pp] 2 _ rfl rfl rfl (by omega) (fun i p hp => by
              match i, hp with
              | 0, hp => simp at hp; subst hp; exact ⟨_, rfl, (H04.out.below hX).mono fun _ _ => trivial⟩
              | 1, hp => simp at hp; subst hp; exact ⟨_, rfl, (HPP.out.below hX).mono fun _ _ => trivial⟩
              | i + 2, hp => simp at hp)
            have := sum_any _ _ _ _ (hbl.below hx)
            rwa [show [rs.take 4, pp].flatten = rs.take 4 ++ pp by simp, HSS.out] at this
          have CC : Hid (∀ wx, fr w wx → Calls Tryz.prog 89 #[.slice (some ⟨b, o + k, none⟩) q 0] wx fun r w' => ∃ v', r = .returned v' ∧ BytL w' w.heap.size v' pp ∧ fr wx w') := Lib.hid fun wx hx => (bcloneL_any S _ pp wx (HPP.out.below hx)).mono fun r w' h => by
            obtain ⟨v', e, h1, h2⟩ := h
            exact ⟨v', e, h1.mono hx.size, h2⟩
          clear HV HR hq0
          by_cases hus : u = s
          · have HF : Hid (readF rs = (pp, 8 + q, 0)) := Lib.hid (by unfold readF; rw [HRL.out, if_neg (by omega), if_neg (by omega), HQ.out, if_neg (by omega), if_neg (by omega), HU.out, HPD.out, HSS.out, if_neg (by simpa using hus)])
            subst hus
            go_enter Tryz.func192, Tryz.ntmps192
            go_upto_region 14 with (go_at_call 237; refine (CG.out _ fr.refl).mono ?_; rintro r w1 ⟨rfl, f1⟩)
            go_region_held3 (fun _ => True) (trivial)
              (first
                | (go_split_ands; go_at_call 237; (with_reducible (refine Calls.mono (CG4.out _ ?_) ?_)); (focus ((repeat (first | with_reducible assumption | with_reducible exact fr.refl | with_reducible refine fr.alloc ?_ _ | with_reducible refine fr.drew ?_)))); rintro r w2 ⟨rfl, g2⟩; (have f2 : fr w w2 := fr.step (by (repeat (first | with_reducible assumption | with_reducible exact fr.refl | with_reducible refine fr.alloc ?_ _ | with_reducible refine fr.drew ?_))) g2))
                | (go_split_ands; go_at_call 123; (with_reducible (refine Calls.mono (CS.out _ _ ?_ ?_) ?_)); (focus ((repeat (first | with_reducible assumption | with_reducible exact fr.refl | with_reducible refine fr.alloc ?_ _ | with_reducible refine fr.drew ?_)))); (focus ((repeat (first | with_reducible assumption | with_reducible exact fr.refl | with_reducible exact undrewF g2 | with_reducible refine fr.alloc ?_ _ | with_reducible refine fr.drew ?_)))); rintro r w3 ⟨rfl, g3⟩; (have f3 : fr w w3 := fr.step (by (repeat (first | with_reducible assumption | with_reducible exact fr.refl | with_reducible refine fr.alloc ?_ _ | with_reducible refine fr.drew ?_))) g3)))
            all_goals
              go_wp2_with (go_at_call 89; (with_reducible (refine Calls.mono (CC.out _ ?_) ?_)); (focus (with_reducible assumption)); rintro r w5 ⟨v5, rfl, hv5, g5⟩)
              refine bodyPost_ret (v := .tuple #[v5, .int .i64 ((k : Int) + 8 + q), .int .i64 0]) (by simp [results, Tryz.results192, go_sem]) rfl ?_
              refine ⟨_, pp, 8 + q, 0, HF.out, by simp; omega, hv5, ?_⟩
              first
                | exact fr.step f3 g5
                | exact fr.step f2 g5
          · have HF : Hid (readF rs = ([], 0, 11)) := Lib.hid (by unfold readF; rw [HRL.out, if_neg (by omega), if_neg (by omega), HQ.out, if_neg (by omega), if_neg (by omega), HU.out, HPD.out, HSS.out, if_pos (by simpa using hus)])
            have hu1 : ((u : Int) == (s : Int)) = false := by simp; omega
            have hu2 : ((u : Int) != (s : Int)) = true := by simp; omega
            have hu3 : (u != s) = true := by simp; omega
            have hu4 : (u == s) = false := by simp; omega
            go_enter Tryz.func192, Tryz.ntmps192
            go_upto_region 14 with (go_at_call 237; refine (CG.out _ fr.refl).mono ?_; rintro r w1 ⟨rfl, f1⟩)
            go_region_held3 (fun _ => True) (trivial)
              (first
                | (go_split_ands; go_at_call 237; (with_reducible (refine Calls.mono (CG4.out _ ?_) ?_)); (focus ((repeat (first | with_reducible assumption | with_reducible exact fr.refl | with_reducible refine fr.alloc ?_ _ | with_reducible refine fr.drew ?_)))); rintro r w2 ⟨rfl, g2⟩; (have f2 : fr w w2 := fr.step (by (repeat (first | with_reducible assumption | with_reducible exact fr.refl | with_reducible refine fr.alloc ?_ _ | with_reducible refine fr.drew ?_))) g2))
                | (go_split_ands; go_at_call 123; (with_reducible (refine Calls.mono (CS.out _ _ ?_ ?_) ?_)); (focus ((repeat (first | with_reducible assumption | with_reducible exact fr.refl | with_reducible refine fr.alloc ?_ _ | with_reducible refine fr.drew ?_)))); (focus ((repeat (first | with_reducible assumption | with_reducible exact fr.refl | with_reducible exact undrewF g2 | with_reducible refine fr.alloc ?_ _ | with_reducible refine fr.drew ?_)))); rintro r w3 ⟨rfl, g3⟩; (have f3 : fr w w3 := fr.step (by (repeat (first | with_reducible assumption | with_reducible exact fr.refl | with_reducible refine fr.alloc ?_ _ | with_reducible refine fr.drew ?_))) g3)))
            all_goals
              go_wp2_with fail
              refine bodyPost_ret (v := .tuple #[.slice none 0 0, .int .i64 0, .int .i64 11]) (by simp [results, Tryz.results192, go_sem]) rfl ?_
              refine ⟨_, [], 0, 11, HF.out, rfl, BytL.nil _ _, ?_⟩
              first
                | exact f3
                | exact f2
        · have hk9 : ¬ (cm : Int) = 8 := by omega
          have HPP : Hid (Byt w S (.slice (some ⟨b, o + k + 8, none⟩) q c8) pp) := Lib.hid (by have := Byt.cut HR.out (f := 8) (m := q) (c' := c8) (by omega) (by omega) (by omega); rwa [HPD.out] at this)
          have CS : Hid (∀ X wx, fr w X → fr (X.alloc (.cells #[.slice (some ⟨b, o + k, none⟩) 4 cm, .slice (some ⟨b, o + k + 8, none⟩) q c8] 35)) wx → Calls Tryz.prog 123 #[.slice (some ⟨X.heap.size, 0, none⟩) 2 2] wx fun r w' => r = .returned (.int .u32 s) ∧ fr wx w') := Lib.hid fun X wx hX hx => by
            have hbl : BytsV (X.alloc (.cells #[.slice (some ⟨b, o + k, none⟩) 4 cm, .slice (some ⟨b, o + k + 8, none⟩) q c8] 35)) (fun _ => True) (.slice (some ⟨X.heap.size, 0, none⟩) 2 2) [rs.take 4, pp] := BytsV.lit X [.slice (some ⟨b, o + k, none⟩) 4 cm, .slice (some ⟨b, o + k + 8, none⟩) q c8] [rs.take 4, pp] 2 _ rfl rfl rfl (by omega) (fun i p hp => by
              match i, hp with
              | 0, hp => simp at hp; subst hp; exact ⟨_, rfl, (H04.out.below hX).mono fun _ _ => trivial⟩
              | 1, hp => simp at hp; subst hp; exact ⟨_, rfl, (HPP.out.below hX).mono fun _ _ => trivial⟩
              | i + 2, hp => simp at hp)
            have := sum_any _ _ _ _ (hbl.below hx)
            rwa [show [rs.take 4, pp].flatten = rs.take 4 ++ pp by simp, HSS.out] at this
          have CC : Hid (∀ wx, fr w wx → Calls Tryz.prog 89 #[.slice (some ⟨b, o + k + 8, none⟩) q c8] wx fun r w' => ∃ v', r = .returned v' ∧ BytL w' w.heap.size v' pp ∧ fr wx w') := Lib.hid fun wx hx => (bcloneL_any S _ pp wx (HPP.out.below hx)).mono fun r w' h => by
            obtain ⟨v', e, h1, h2⟩ := h
            exact ⟨v', e, h1.mono hx.size, h2⟩
          clear HV HR
          by_cases hus : u = s
          · have HF : Hid (readF rs = (pp, 8 + q, 0)) := Lib.hid (by unfold readF; rw [HRL.out, if_neg (by omega), if_neg (by omega), HQ.out, if_neg (by omega), if_neg (by omega), HU.out, HPD.out, HSS.out, if_neg (by simpa using hus)])
            subst hus
            go_enter Tryz.func192, Tryz.ntmps192
            go_upto_region 14 with (go_at_call 237; refine (CG.out _ fr.refl).mono ?_; rintro r w1 ⟨rfl, f1⟩)
            go_region_held3 (fun _ => True) (trivial)
              (first
                | (go_split_ands; go_at_call 237; (with_reducible (refine Calls.mono (CG4.out _ ?_) ?_)); (focus ((repeat (first | with_reducible assumption | with_reducible exact fr.refl | with_reducible refine fr.alloc ?_ _ | with_reducible refine fr.drew ?_)))); rintro r w2 ⟨rfl, g2⟩; (have f2 : fr w w2 := fr.step (by (repeat (first | with_reducible assumption | with_reducible exact fr.refl | with_reducible refine fr.alloc ?_ _ | with_reducible refine fr.drew ?_))) g2))
                | (go_split_ands; go_at_call 123; (with_reducible (refine Calls.mono (CS.out _ _ ?_ ?_) ?_)); (focus ((repeat (first | with_reducible assumption | with_reducible exact fr.refl | with_reducible refine fr.alloc ?_ _ | with_reducible refine fr.drew ?_)))); (focus ((repeat (first | with_reducible assumption | with_reducible exact fr.refl | with_reducible exact undrewF g2 | with_reducible refine fr.alloc ?_ _ | with_reducible refine fr.drew ?_)))); rintro r w3 ⟨rfl, g3⟩; (have f3 : fr w w3 := fr.step (by (repeat (first | with_reducible assumption | with_reducible exact fr.refl | with_reducible refine fr.alloc ?_ _ | with_reducible refine fr.drew ?_))) g3)))
            all_goals
              go_wp2_with (go_at_call 89; (with_reducible (refine Calls.mono (CC.out _ ?_) ?_)); (focus (with_reducible assumption)); rintro r w5 ⟨v5, rfl, hv5, g5⟩)
              refine bodyPost_ret (v := .tuple #[v5, .int .i64 ((k : Int) + 8 + q), .int .i64 0]) (by simp [results, Tryz.results192, go_sem]) rfl ?_
              refine ⟨_, pp, 8 + q, 0, HF.out, by simp; omega, hv5, ?_⟩
              first
                | exact fr.step f3 g5
                | exact fr.step f2 g5
          · have HF : Hid (readF rs = ([], 0, 11)) := Lib.hid (by unfold readF; rw [HRL.out, if_neg (by omega), if_neg (by omega), HQ.out, if_neg (by omega), if_neg (by omega), HU.out, HPD.out, HSS.out, if_pos (by simpa using hus)])
            have hu1 : ((u : Int) == (s : Int)) = false := by simp; omega
            have hu2 : ((u : Int) != (s : Int)) = true := by simp; omega
            have hu3 : (u != s) = true := by simp; omega
            have hu4 : (u == s) = false := by simp; omega
            go_enter Tryz.func192, Tryz.ntmps192
            go_upto_region 14 with (go_at_call 237; refine (CG.out _ fr.refl).mono ?_; rintro r w1 ⟨rfl, f1⟩)
            go_region_held3 (fun _ => True) (trivial)
              (first
                | (go_split_ands; go_at_call 237; (with_reducible (refine Calls.mono (CG4.out _ ?_) ?_)); (focus ((repeat (first | with_reducible assumption | with_reducible exact fr.refl | with_reducible refine fr.alloc ?_ _ | with_reducible refine fr.drew ?_)))); rintro r w2 ⟨rfl, g2⟩; (have f2 : fr w w2 := fr.step (by (repeat (first | with_reducible assumption | with_reducible exact fr.refl | with_reducible refine fr.alloc ?_ _ | with_reducible refine fr.drew ?_))) g2))
                | (go_split_ands; go_at_call 123; (with_reducible (refine Calls.mono (CS.out _ _ ?_ ?_) ?_)); (focus ((repeat (first | with_reducible assumption | with_reducible exact fr.refl | with_reducible refine fr.alloc ?_ _ | with_reducible refine fr.drew ?_)))); (focus ((repeat (first | with_reducible assumption | with_reducible exact fr.refl | with_reducible exact undrewF g2 | with_reducible refine fr.alloc ?_ _ | with_reducible refine fr.drew ?_)))); rintro r w3 ⟨rfl, g3⟩; (have f3 : fr w w3 := fr.step (by (repeat (first | with_reducible assumption | with_reducible exact fr.refl | with_reducible refine fr.alloc ?_ _ | with_reducible refine fr.drew ?_))) g3)))
            all_goals
              go_wp2_with fail
              refine bodyPost_ret (v := .tuple #[.slice none 0 0, .int .i64 0, .int .i64 11]) (by simp [results, Tryz.results192, go_sem]) rfl ?_
              refine ⟨_, [], 0, 11, HF.out, rfl, BytL.nil _ _, ?_⟩
              first
                | exact f3
                | exact f2
end Go.Proofs.YtjnolpfmchnnmaaGreatDoor
end
section
namespace Go.Proofs.YtjnolpfmchnnmaaGreatDoor
set_option maxRecDepth 100000
open Go.RowKit Go.BigFrame
theorem Byt.looseOnly {W W' : World} {R S : Nat → Prop} {v : Value} {bs : List UInt8} (h : Byt W (fun i => R i ∧ Loose W i) v bs) (ho : Only S W W') (hd : ∀ i, R i → ¬ S i) : Byt W' (fun i => R i ∧ Loose W' i) v bs :=
  Byt.mono (S := fun i => R i ∧ Loose W i) (Byt.only (T := fun i => R i ∧ Loose W i) h ho fun i _ hi => hd i hi.1) fun i hi => ⟨hi.1, hi.2.only ho (hd i hi.1)⟩
abbrev FrE := Nat × Value × List UInt8
def OkF (lo : Nat) (T : Nat → Prop) (x : FrE) (W : World) : Prop := Byt W (fun i => (lo ≤ i ∧ ¬ T i) ∧ Loose W i) x.2.1 x.2.2
theorem OkF.anti {lo : Nat} {T T' : Nat → Prop} {x : FrE} {W : World} (h : OkF lo T x W) (hT : ∀ i, T' i → T i) : OkF lo T' x W :=
  Byt.mono (S := fun i => (lo ≤ i ∧ ¬ T i) ∧ Loose W i) h fun i hi => ⟨⟨hi.1.1, fun h => hi.1.2 (hT i h)⟩, hi.2⟩
structure PairsK (w : World) (B Bw b o n c : Nat) (S0 : Nat → Prop) (bs : List UInt8) : Prop where
  b1 : Boxed w B 35 (.slice (some ⟨b, o, none⟩) n c)
  b2 : Boxed w (B + 1) 206 (.pointer (some ⟨Bw, 0, none⟩))
  b3 : Boxed w Bw 31 (.int .i64 0)
  byt : Byt w S0 (.slice (some ⟨b, o, none⟩) n c) bs
theorem boxedFr {w w' : World} {B : Nat} {t : TypeId} {v : Value} (h : Boxed w B t v) (hf : fr w w') : Boxed w' B t v := (Below.block hf B h.lt).trans h
theorem boxedOnly {w w' : World} {B : Nat} {t : TypeId} {v : Value} {S : Nat → Prop} (h : Boxed w B t v) (hf : Only S w w') (hS : ¬ S B) : Boxed w' B t v := (hf.block B h.lt hS).trans h
section
variable {w w' : World} {B Bw b o n c : Nat} {S0 : Nat → Prop} {bs : List UInt8}
theorem PairsK.fr (h : PairsK w B Bw b o n c S0 bs) (hf : fr w w') : PairsK w' B Bw b o n c S0 bs := ⟨boxedFr h.b1 hf, boxedFr h.b2 hf, boxedFr h.b3 hf, h.byt.below hf⟩
theorem PairsK.only (h : PairsK w B Bw b o n c S0 bs) {T : Nat → Prop} (hf : Only T w w') (hT : ∀ i, T i → ¬ (i = B ∨ i = B + 1 ∨ i = Bw ∨ S0 i)) : PairsK w' B Bw b o n c S0 bs :=
  ⟨boxedOnly h.b1 hf fun h => hT _ h (.inl rfl), boxedOnly h.b2 hf fun h => hT _ h (.inr (.inl rfl)), boxedOnly h.b3 hf fun h => hT _ h (.inr (.inr (.inl rfl))), h.byt.only hf fun i _ hi h => hT i h (.inr (.inr (.inr hi)))⟩
theorem PairsK.ne1 (h : PairsK w B Bw b o n c S0 bs) : B ≠ Bw := by
  rintro rfl
  have := h.b1.symm.trans h.b3
  injection this with this
  injection this with _ this
  exact absurd this (by decide)
theorem PairsK.ne2 (h : PairsK w B Bw b o n c S0 bs) : B + 1 ≠ Bw := by
  rintro rfl
  have := h.b2.symm.trans h.b3
  injection this with this
  injection this with _ this
  exact absurd this (by decide)
theorem PairsK.why (h : PairsK w B Bw b o n c S0 bs) (hS : ¬ S0 Bw) : PairsK (w.setCell ⟨Bw, 0, none⟩ (.int .i64 0)) B Bw b o n c S0 bs :=
  ⟨h.b1.other h.ne1 _, h.b2.other h.ne2 _, h.b3.set _, h.byt.only (only_set w Bw 0 _) fun _ _ hi e => hS (e ▸ hi)⟩
end
def bvR : Rd (List UInt8) := fun w S bs cs => ∃ v, cs = [v] ∧ Byt w S v bs
theorem bvFine : Fine bvR 1 := ⟨fun h => by obtain ⟨v, rfl, _⟩ := h; rfl, fun h hk => by obtain ⟨v, rfl, h1⟩ := h; exact ⟨v, rfl, h1.keepR hk⟩⟩
theorem infoB : (Tryz.prog.info? 35).map (fun i => (i.zero, i.size, i.bytes)) = some (some (.slice none 0 0), 1, 24) := by kernel_rfl
def frB (rs : List (List UInt8)) : List UInt8 := (rs.map putF).flatten
theorem frB_cons (p : List UInt8) (rs : List (List UInt8)) : frB (p :: rs) = putF p ++ frB rs := rfl
theorem frB_append (a b : List (List UInt8)) : frB (a ++ b) = frB a ++ frB b := by unfold frB; rw [List.map_append, List.flatten_append]
theorem frB_pos (p : List UInt8) (rs : List (List UInt8)) : 8 ≤ (frB (p :: rs)).length := by rw [frB_cons, List.length_append, putF_len]; omega
theorem frB_many (rs : List (List UInt8)) : rs.length * 8 ≤ (frB rs).length := by
  induction rs with
  | nil => simp
  | cons p rs ih => rw [frB_cons, List.length_append, putF_len, List.length_cons]; omega
theorem readF_put (p rest : List UInt8) (h : p.length ≤ 2097152) : readF (putF p ++ rest) = (p, 8 + p.length, 0) := by
  have hl : (putF p ++ rest).length = p.length + 8 + rest.length := by rw [List.length_append, putF_len]
  have hs := sumN_lt (le32 p.length ++ p)
  have e1 : putF p ++ rest = le32 p.length ++ (le32 (sumN (le32 p.length ++ p)) ++ (p ++ rest)) := by unfold putF; simp [List.append_assoc]
  have u1 : un32 (putF p ++ rest) = p.length := by rw [e1]; exact un_le32 (by omega) _
  have d4 : (putF p ++ rest).drop 4 = le32 (sumN (le32 p.length ++ p)) ++ (p ++ rest) := by rw [e1, List.drop_left' (le32_len _)]
  have u2 : un32 ((putF p ++ rest).drop 4) = sumN (le32 p.length ++ p) := by rw [d4]; exact un_le32 hs _
  have t4 : (putF p ++ rest).take 4 = le32 p.length := by rw [e1, List.take_left' (le32_len _)]
  have d8 : (putF p ++ rest).drop 8 = p ++ rest := by
    rw [show 8 = 4 + 4 from rfl, ← List.drop_drop, d4, List.drop_left' (le32_len _)]
  unfold readF
  rw [if_neg (by omega), if_neg (by omega), u1, if_neg (by omega), if_neg (by omega), u2, t4, d8, List.take_left' rfl, if_neg (by simp)]
end Go.Proofs.YtjnolpfmchnnmaaGreatDoor
end
section
namespace Go.Proofs.YtjnolpfmchnnmaaGreatDoor
set_option maxRecDepth 100000
open Go.RowKit Go.ChangeShapes Go.WideShapes Go.Deep
instance : Inhabited (List UInt8) := ⟨[]⟩
section
variable {H : Type} {enc : TypeId × Value → H} {w : World} {base : Nat} {held : Bool} {spare : Nat → Bool}
end
end Go.Proofs.YtjnolpfmchnnmaaGreatDoor
end
