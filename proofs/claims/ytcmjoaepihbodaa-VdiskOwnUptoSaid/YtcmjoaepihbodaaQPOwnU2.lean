/-
vdisk's change, ready.
-/
import Derived.Test.YtcmjoaepihbodaaQPOwnU1
import Derived.Deep.Cut
import Derived.Deep.CutRange
import Derived.Deep.DeepCutAuto
section
namespace Go.Proofs.Ytcmjoaepihbodaa
open Go.RowKit Go.BigFrame Go.Sort Go.Shelf Go.Lib Go.Maps
attribute [local go_sem ↓] Go.wp_at_zero Go.wp_at_succ
/-- the block that a slice with room leads to. -/
def blkB : Value → Option Nat
  | .slice (some a) _ c => if c = 0 then none else some a.block
  | _ => none
/-- a slice of bytes in a block of its own, from its beginning on. -/
def OwnB (w : World) (F : Nat → Prop) (v : Value) (bs : List UInt8) : Prop :=
  ∃ A c, v = .slice A bs.length c ∧ bs.length ≤ c ∧ c ≤ 9223372036854775807 ∧ bs.length ≤ 140737488355328 ∧ (c = 0 ∨ ∃ (g : Nat) (cur : Array Value), A = some ⟨g, 0, none⟩ ∧ F g ∧ w.heap[g]? = some (.cells cur 5 (0, 0)) ∧ c ≤ cur.size ∧ cur.toList.take bs.length = bs.map bcell)
theorem OwnB.nil (w : World) (F : Nat → Prop) : OwnB w F (.slice none 0 0) [] := ⟨none, 0, rfl, Nat.le_refl _, by omega, by simp, .inl rfl⟩
theorem OwnB.form {w : World} {F : Nat → Prop} {v : Value} {bs : List UInt8} (h : OwnB w F v bs) : ∃ A c, v = .slice A bs.length c := by
  obtain ⟨A, c, e, _⟩ := h
  exact ⟨A, c, e⟩
theorem OwnB.len {w : World} {F : Nat → Prop} {v : Value} {bs : List UInt8} (h : OwnB w F v bs) : bs.length ≤ 140737488355328 := by
  obtain ⟨A, c, e, _, _, h, _⟩ := h
  exact h
theorem OwnB.mono {w : World} {F F' : Nat → Prop} {v : Value} {bs : List UInt8} (h : OwnB w F v bs) (hb : ∀ i, F i → F' i) : OwnB w F' v bs := by
  obtain ⟨A, c, e, h1, h2, h3, h4⟩ := h
  refine ⟨A, c, e, h1, h2, h3, h4.imp id fun ⟨g, cur, a, b, r⟩ => ⟨g, cur, a, hb g b, r⟩⟩
/-- its block. -/
theorem OwnB.blk {w : World} {F : Nat → Prop} {v : Value} {bs : List UInt8} (h : OwnB w F v bs) {g : Nat} (hg : blkB v = some g) : F g ∧ Loose w g ∧ g < w.heap.size := by
  obtain ⟨A, c, rfl, h1, h2, h3, h4⟩ := h
  rcases h4 with rfl | ⟨g', cur, rfl, hb, hh, _⟩
  · cases A <;> simp [blkB] at hg
  · by_cases hc : c = 0
    · simp [blkB, hc] at hg
    · simp only [blkB, if_neg hc, Option.some.injEq] at hg
      subst hg
      exact ⟨hb, ⟨cur, hh⟩, (Array.getElem?_eq_some_iff.1 hh).1⟩
theorem OwnB.kept {w w' : World} {F : Nat → Prop} {v : Value} {bs : List UInt8} (h : OwnB w F v bs) (hk : ∀ g, blkB v = some g → w'.heap[g]? = w.heap[g]?) : OwnB w' F v bs := by
  obtain ⟨A, c, rfl, h1, h2, h3, h4⟩ := h
  refine ⟨A, c, rfl, h1, h2, h3, ?_⟩
  rcases h4 with rfl | ⟨g, cur, rfl, hb, hh, r⟩
  · exact .inl rfl
  · by_cases hc : c = 0
    · exact .inl hc
    · exact .inr ⟨g, cur, rfl, hb, (hk g (by simp [blkB, hc])).trans hh, r⟩
theorem OwnB.below {w w' : World} {F : Nat → Prop} {v : Value} {bs : List UInt8} (h : OwnB w F v bs) (hb : Below w.heap.size w w') : OwnB w' F v bs :=
  h.kept fun g hg => hb.block g (h.blk hg).2.2
theorem OwnB.only {w w' : World} {F : Nat → Prop} {v : Value} {bs : List UInt8} {S : Nat → Prop} (h : OwnB w F v bs) (ho : Only S w w') (hd : ∀ g, blkB v = some g → ¬ S g) : OwnB w' F v bs :=
  h.kept fun g hg => ho.block g (h.blk hg).2.2 (hd g hg)
theorem OwnB.byt {w : World} {F : Nat → Prop} {v : Value} {bs : List UInt8} (h : OwnB w F v bs) : Byt w (fun i => F i ∧ Loose w i) v bs := by
  obtain ⟨A, c, rfl, h1, h2, h3, h4⟩ := h
  refine ⟨A, c, rfl, h1, h2, h3, by simp, fun hn => ?_⟩
  rcases h4 with rfl | ⟨g, cur, rfl, hb, hh, hc, ht⟩
  · omega
  · refine ⟨g, 0, rfl, ⟨hb, cur, hh⟩, (Array.getElem?_eq_some_iff.1 hh).1, fun j u hu => ?_⟩
    rw [cell_of_row w g _ cur _ _ hh, Nat.zero_add]
    rw [← ht, List.getElem?_take] at hu
    split at hu
    · simpa using hu
    · cases hu
theorem OwnB.of_own {w : World} {base : Nat} {F : Nat → Prop} {v : Value} {bs : List UInt8} (h : w.ownsRow base 5 1 v bs.length (bs.map bcell)) (hl : bs.length ≤ 140737488355328) (hF : ∀ i, base ≤ i → F i) : OwnB w F v bs := by
  rcases h.2 with ⟨rfl, h0⟩ | ⟨g, cap, cur, rfl, hbg, hh, hcap, hcm, hcs, ht⟩
  · have : bs = [] := List.eq_nil_of_length_eq_zero h0
    subst this
    exact OwnB.nil _ _
  · exact ⟨_, _, rfl, hcap, by unfold maxLen at hcm; omega, hl, .inr ⟨g, cur, rfl, hF g hbg, hh, by omega, by simpa using ht⟩⟩
theorem run_append_ownB (w : World) (F F' : Nat → Prop) (ty : TypeId) (v src : Value) (S : Nat → Prop) (bs cs : List UInt8) (hown : OwnB w F v bs) (h : Byt w S src cs) (hl : bs.length + cs.length ≤ 140737488355328) (hF : ∀ i, F i → F' i) (hnew : F' w.heap.size) :
    ∃ v' w', (Builtin.append_ #[35, 35] ty #[v, src]).run Try.prog w = .ok v' w' ∧ OwnB w' F' v' (bs ++ cs) ∧ w.grownBy w' (blkB v) ∧ (blkB v' = blkB v ∨ blkB v' = some w.heap.size) := by
  obtain ⟨i0, hi, hz0, hz1, hz2⟩ := info_parts info5
  obtain ⟨B, d, rfl, g1, g2, g3, hr⟩ := h
  rcases Nat.eq_zero_or_pos cs.length with h0 | h0
  · have : cs = [] := List.eq_nil_of_length_eq_zero h0
    subst this
    rw [List.append_nil]
    have hown' := hown.mono hF
    obtain ⟨A, c, rfl, h1, h2, h3, h4⟩ := hown
    refine ⟨_, w, ?_, hown', World.grownBy.refl w _, .inl rfl⟩
    rcases A with _ | a
    · have hn : bs.length = 0 := by rcases h4 with h4 | ⟨g, cur, h4, _⟩; omega; cases h4
      rcases B with _ | b <;> simp [Builtin.append_, run_underlying Try.underlying35, sizeOf, typeInfo, hi, Builtin.lenOf, Builtin.firstCells, loadCells, loadCellsFrom, hn]
    · rcases B with _ | b <;> simp [Builtin.append_, run_underlying Try.underlying35, sizeOf, typeInfo, hi, Builtin.lenOf, Builtin.firstCells, loadCells, loadCellsFrom, h1, storeCells]
  · obtain ⟨b, o, rfl, _, _, hc⟩ := hr.2 h0
    have hnews : ∀ j u, (cs.map bcell)[j]? = some u → w.cell? ((⟨b, o, none⟩ : Addr).add j) = some u := fun j u hu => by rw [Addr.add_lit]; exact hc j u hu
    obtain ⟨A, c, rfl, h1, h2, h3, h4⟩ := hown
    have hll : (bs ++ cs).length = bs.length + cs.length := by simp
    by_cases hroom : bs.length + cs.length ≤ c
    · rcases h4 with rfl | ⟨g, cur, rfl, hb, hh, hcc, ht⟩
      · omega
      · have hrun := run_append_room (P := Try.prog) w 35 ty 5 i0 Try.underlying35 hi g bs.length c cur hh ⟨b, o, none⟩ cs.length d (cs.map bcell) (by simp [hz1]) hnews (by simp [Value.oneCell', bcell]) hroom (by simp [hz1]; omega)
        refine ⟨_, _, hrun, ⟨_, _, by rw [hll], by omega, h2, by omega, .inr ⟨g, _, rfl, hF g hb, setRow_heap w g cur _ 5 _ hh, ?_, ?_⟩⟩, ⟨rfl, rfl, rfl, by simp, fun k _ hk => setRow_other w g k _ (fun e => hk (by rw [e]; simp [blkB]; omega))⟩, .inl rfl⟩
        · simp [hz1]
          omega
        · rw [hz1, Nat.mul_one, ht, hll, ← List.map_append]
          have : ((bs ++ cs).map bcell).length = bs.length + cs.length := by simp
          rw [← this]
          exact List.take_left
    · have hA : ∃ olds : List Value, olds = bs.map bcell ∧ ∀ a, A = some a → ∀ j u, olds[j]? = some u → w.cell? (a.add j) = some u := by
        refine ⟨_, rfl, fun a ha j u hu => ?_⟩
        rcases h4 with rfl | ⟨g, cur, rfl, hb, hh, hcc, ht⟩
        · have : bs = [] := List.eq_nil_of_length_eq_zero (by omega)
          subst this
          simp at hu
        · obtain rfl := Option.some.inj ha
          rw [Addr.add_lit, cell_of_row w g _ cur _ _ hh, Nat.zero_add]
          rw [← ht, List.getElem?_take] at hu
          split at hu
          · simpa using hu
          · cases hu
      obtain ⟨olds, ho, hA⟩ := hA
      have key : ∀ (w' : World) (cap : Nat), bs.length + cs.length ≤ cap → cap ≤ maxLen → w' = w.drew.alloc (.cells (olds.toArray ++ (cs.map bcell).toArray ++ Builtin.zeroCells (Value.cells (.int .u8 0)) (cap - (bs.length + cs.length))) 5) →
          OwnB w' F' (.slice (some ⟨w.heap.size, 0, none⟩) (bs.length + cs.length) cap) (bs ++ cs) ∧ w.grownBy w' (blkB (.slice A bs.length c)) ∧ blkB (.slice (some ⟨w.heap.size, 0, none⟩) (bs.length + cs.length) cap) = some w.heap.size := by
        intro w' cap hc1 hc2 hw
        subst hw
        refine ⟨⟨_, _, by rw [hll], by omega, by unfold maxLen at hc2; omega, by omega, .inr ⟨w.heap.size, _, rfl, hnew, heap_alloc_new w.drew _, ?_, ?_⟩⟩, ⟨rfl, rfl, rfl, by simp, fun k hk _ => Below.heap_alloc w.drew _ k hk⟩, by simp [blkB]; omega⟩
        · simp only [Array.size_append, List.size_toArray, size_zeroCells, ho, List.length_map]
          simp [Value.cells]
          omega
        · simp only [Array.toList_append, ho, List.append_assoc]
          rw [← List.append_assoc, ← List.map_append, hll]
          have : ((bs ++ cs).map bcell).length = bs.length + cs.length := by simp
          rw [← this]
          exact List.take_left
      rcases A with _ | a
      · have hbs : bs = [] := by
          rcases h4 with rfl | ⟨g, cur, h4, _⟩
          · exact List.eq_nil_of_length_eq_zero (by omega)
          · cases h4
        subst hbs
        have hc0 : c = 0 := by rcases h4 with h4 | ⟨g, cur, h4, _⟩; exact h4; cases h4
        subst hc0
        have hrun := run_append_nil (P := Try.prog) w 35 ty 5 i0 (.int .u8 0) Try.underlying35 hi hz0 ⟨b, o, none⟩ cs.length d (cs.map bcell) (by simp [hz1]) hnews (by omega) (by simp at hl; omega) (by rw [hz2]; simp at hl; omega)
        have hk := key _ _ (by simpa using grownCap_ge w cs.length 0 5) (grownCap_le_maxLen w cs.length 0 5 (by unfold maxLen; omega)) rfl
        subst ho
        simp only [List.length_nil, Nat.zero_add, List.map_nil, List.append_toArray, List.nil_append] at hk ⊢
        exact ⟨_, _, hrun, hk.1, hk.2.1, .inr hk.2.2⟩
      · have hrun := run_append_grow (P := Try.prog) w 35 ty 5 i0 (.int .u8 0) Try.underlying35 hi hz0 a bs.length c olds (by simp [ho, hz1]) (hA a rfl) ⟨b, o, none⟩ cs.length d (cs.map bcell) (by simp [hz1]) hnews (by omega) (by omega) (growslice_fits (by omega) (by rw [hz2]; omega))
        have hk := key _ (grownCap w (bs.length + cs.length) c 5) (grownCap_ge w _ c 5) (grownCap_le_maxLen w _ c 5 (by unfold maxLen; omega)) rfl
        exact ⟨_, _, hrun, hk.1, hk.2.1, .inr hk.2.2⟩
theorem wpList_append_ownB {w : World} {ops : Array Oper} {rest : List Oper} {o : Oper} {a : Act} {Q : Exit → Act → World → Prop} (hgd : o.guard = none) (s x : Operand)
    (ho : o.op = .call { callee := .builtin .append, args := #[s, x], argTypes := #[35, 35] }) (F F' : Nat → Prop) (v src : Value) (hs : a.eval s = v) (hx : a.eval x = src)
    (S : Nat → Prop) (bs cs : List UInt8) (hown : OwnB w F v bs) (h : Byt w S src cs) (hl : bs.length + cs.length ≤ 140737488355328) (hF : ∀ i, F i → F' i) (hnew : F' w.heap.size)
    (hK : ∀ v' w', OwnB w' F' v' (bs ++ cs) → w.grownBy w' (blkB v) → (blkB v' = blkB v ∨ blkB v' = some w.heap.size) → wpList Try.prog ops Q rest (a.put o.dst v') w') : wpList Try.prog ops Q (o :: rest) a w :=
  wpList_plain hgd fun _ hk => by
    obtain ⟨v', w', hrun, h2, h3, h4⟩ := run_append_ownB w F F' o.type v src S bs cs hown h hl hF hnew
    unfold Oper.wp execOp
    simp only [ho, resolve, invoke, builtin, Sem.run_bind, Sem.run_pure, Result.andThen_ok, List.map_toArray, List.map_cons, List.map_nil, hs, hx, hrun]
    exact hk _ _ (hK v' w' h2 h3 h4)
end Go.Proofs.Ytcmjoaepihbodaa
end
section
namespace Go.Proofs.Ytcmjoaepihbodaa
open Go.RowKit
structure Fl where
  name : Nm
  data : List UInt8
  synced : Int
structure Pk where
  fs : List Fl
  ops : Int
  room : Int
  keep : List Int
  done : Int
  bytes : Int
  down : Bool
def Fd.fl (f : Fd) : Fl := ⟨f.name, f.data, f.synced⟩
def Dk.pk (d : Dk) : Pk := ⟨d.ns.map Fd.fl, d.ops, d.room, d.keep, d.done, d.bytes, d.down⟩
def findP (x : Nm) : List Fl → Option Fl
  | [] => none
  | f :: l => if f.name = x then some f else findP x l
def insP (f : Fl) : List Fl → List Fl
  | [] => [f]
  | g :: l => if f.name < g.name then f :: g :: l else if f.name = g.name then f :: l else g :: insP f l
def delP (x : Nm) : List Fl → List Fl
  | [] => []
  | f :: l => if f.name = x then delP x l else f :: delP x l
def updP (x : Nm) (g : Fl → Fl) (ns : List Fl) : List Fl := ns.map fun f => if f.name = x then g f else f
theorem findP_map (x : Nm) (ns : List Fd) : findP x (ns.map Fd.fl) = (findF x ns).map Fd.fl := by
  induction ns with
  | nil => rfl
  | cons f l ih =>
    show (if f.name = x then some f.fl else findP x (l.map Fd.fl)) = _
    unfold findF
    split
    · rfl
    · exact ih
theorem insP_map (f : Fd) (ns : List Fd) : insP f.fl (ns.map Fd.fl) = (insF f ns).map Fd.fl := by
  induction ns with
  | nil => rfl
  | cons g l ih =>
    show (if f.name < g.name then f.fl :: g.fl :: l.map Fd.fl else if f.name = g.name then f.fl :: l.map Fd.fl else g.fl :: insP f.fl (l.map Fd.fl)) = _
    unfold insF
    split
    · rfl
    · split
      · rfl
      · rw [ih]; rfl
theorem delP_map (x : Nm) (ns : List Fd) : delP x (ns.map Fd.fl) = (delF x ns).map Fd.fl := by
  induction ns with
  | nil => rfl
  | cons g l ih =>
    show (if g.name = x then delP x (l.map Fd.fl) else g.fl :: delP x (l.map Fd.fl)) = _
    unfold delF
    split
    · exact ih
    · rw [ih]; rfl
theorem updP_map (x : Nm) (g : Fd → Fd) (g' : Fl → Fl) (h : ∀ f, (g f).fl = g' f.fl) (ns : List Fd) : updP x g' (ns.map Fd.fl) = (updF x g ns).map Fd.fl := by
  unfold updP updF
  rw [List.map_map, List.map_map]
  refine List.map_congr_left fun f _ => ?_
  show (if f.name = x then g' f.fl else f.fl) = (if f.name = x then g f else f).fl
  split
  · rw [h]
  · rfl
/-- ready's answer. -/
def readyE (k : Pk) (ss : List Nm) : Int :=
  if k.down = true then 20 else if ss.all nameB = false then 23 else match ss with
    | [] => 0
    | x :: _ => if (findP x k.fs).isNone then 22 else 0
def crashes (k : Pk) : Bool := decide (0 ≤ k.ops) && decide (k.ops ≤ k.done)
def changeE (k : Pk) : Int := if crashes k = true then 20 else 0
def changeK (k : Pk) : Pk := if crashes k = true then { k with down := true } else { k with done := k.done + 1 }
def updK (k : Pk) (x : Nm) (g : Fl → Fl) : Pk := { k with fs := updP x g k.fs }
def syncE (k : Pk) (x : Nm) : Int := if readyE k [x] = 0 then changeE k else readyE k [x]
def syncK (k : Pk) (x : Nm) : Pk := if readyE k [x] = 0 then (if crashes k = true then changeK k else updK (changeK k) x fun f => { f with synced := f.data.length }) else k
def lenP (k : Pk) (x : Nm) : Nat := match findP x k.fs with | some f => f.data.length | none => 0
def deleteK (k : Pk) (x : Nm) : Pk := if readyE k [x] = 0 then (if crashes k = true then changeK k else { changeK k with fs := delP x k.fs, bytes := wrap64 (k.bytes - lenP k x) }) else k
def renameE (k : Pk) (x y : Nm) : Int := if readyE k [x, y] = 0 then changeE k else readyE k [x, y]
/-- the files behind a renaming. -/
def renFs (x y : Nm) (fs : List Fl) : List Fl := match findP x fs with | some f => insP { f with name := y } (delP x fs) | none => fs
def renameK (k : Pk) (x y : Nm) : Pk := if readyE k [x, y] = 0 then (if crashes k = true then changeK k else if x = y then changeK k else { changeK k with fs := renFs x y k.fs, bytes := if (findP y (delP x k.fs)).isSome = true then wrap64 (k.bytes - lenP k y) else k.bytes }) else k
def fullP (k : Pk) (n : Nat) : Bool := decide (0 ≤ k.room) && decide (wrap64 (k.room - k.bytes) < (n : Int))
/-- the files behind an Append. -/
def appFs (x : Nm) (b : List UInt8) (fs : List Fl) : List Fl := updP x (fun f => { f with data := f.data ++ b }) (if (findP x fs).isSome = true then fs else insP ⟨x, [], 0⟩ fs)
def appendE (k : Pk) (x : Nm) (b : List UInt8) : Int := if readyE k [x] = 0 ∨ readyE k [x] = 22 then (if fullP k b.length = true then 21 else changeE k) else readyE k [x]
def appendK (k : Pk) (x : Nm) (b : List UInt8) : Pk := if readyE k [x] = 0 ∨ readyE k [x] = 22 then (if fullP k b.length = true then k else if crashes k = true then changeK k else { changeK k with fs := appFs x b k.fs, bytes := wrap64 (k.bytes + b.length) }) else k
end Go.Proofs.Ytcmjoaepihbodaa
end
section
namespace Go.Proofs.Ytcmjoaepihbodaa
open Go.RowKit Go.BigFrame Go.Sort Go.Shelf Go.Lib Go.Maps
attribute [local go_sem ↓] Go.wp_at_zero Go.wp_at_succ
structure FileV (w : World) (F : Nat → Prop) (f : Fd) : Prop where
  cells : w.heap[f.blk]? = some (.cells #[f.sl, .int .i64 f.synced] 75 (0, 0))
  own : OwnB w F f.sl f.data
  lo : F f.blk
/-- the plan's own copy of the numbers. -/
def KeepV (w : World) (F : Nat → Prop) (kv : Value) (keep : List Int) : Prop :=
  ∃ A c, kv = .slice A keep.length c ∧ keep.length ≤ c ∧ keep.length ≤ 140737488355328 ∧ (0 < keep.length → ∃ (g o : Nat) (cs : Array Value), A = some ⟨g, o, none⟩ ∧ F g ∧ w.heap[g]? = some (.cells cs 3 (0, 0)) ∧ ∀ j z, keep[j]? = some z → cs[o + j]? = some (.int .i64 z))
structure DiskV (w : World) (F : Nat → Prop) (p mb : Nat) (kv : Value) (d : Dk) : Prop where
  head : w.heap[p]? = some (.cells #[.map (some mb), .int .i64 d.ops, .int .i64 d.room, kv, .int .i64 d.done, .int .i64 d.bytes, .bool d.down] 72 (0, 0))
  map : ∃ D, w.ownsMap Try.prog 9 ptrR mb d.ns.length D ∧ MapIs D d.ns
  files : ∀ f ∈ d.ns, FileV w F f
  keep : KeepV w F kv d.keep
  names : ∀ f ∈ d.ns, nameB f.name = true
  sorted : sortedF d.ns
  blks : d.ns.Pairwise fun a b => a.blk ≠ b.blk
  sls : d.ns.Pairwise fun a b => ∀ g, blkB a.sl = some g → blkB b.sl ≠ some g
  loP : F p
  loM : F mb
/-- a disk at p that is k. -/
def DiskP (w : World) (F : Nat → Prop) (p : Nat) (k : Pk) : Prop := ∃ mb kv d, DiskV w F p mb kv d ∧ d.pk = k
section
variable {w w' : World} {F : Nat → Prop} {p mb : Nat} {kv : Value} {d : Dk}
theorem KeepV.kept {keep : List Int} (h : KeepV w F kv keep) (hk : ∀ g cs, F g → w.heap[g]? = some (.cells cs 3 (0, 0)) → w'.heap[g]? = w.heap[g]?) : KeepV w' F kv keep := by
  obtain ⟨A, c, e, h1, h2, h3⟩ := h
  refine ⟨A, c, e, h1, h2, fun hn => ?_⟩
  obtain ⟨g, o, cs, e1, e2, e3, e4⟩ := h3 hn
  exact ⟨g, o, cs, e1, e2, (hk g cs e2 e3).trans e3, e4⟩
theorem FileV.below {f : Fd} (h : FileV w F f) (hb : Below w.heap.size w w') : FileV w' F f :=
  ⟨(hb.block _ (Array.getElem?_eq_some_iff.1 h.cells).1).trans h.cells, h.own.below hb, h.lo⟩
theorem DiskV.ltP (h : DiskV w F p mb kv d) : p < w.heap.size := (Array.getElem?_eq_some_iff.1 h.head).1
theorem DiskV.ltM (h : DiskV w F p mb kv d) : mb < w.heap.size := by obtain ⟨D, h, _⟩ := h.map; exact h.lt
theorem ownsMap_block {D : DataW Unit} {n : Nat} (h : w.ownsMap Try.prog 9 ptrR mb n D) (he : w'.heap[mb]? = w.heap[mb]?) : w'.ownsMap Try.prog 9 ptrR mb n D := by
  obtain ⟨es, clock, hb, r⟩ := h
  exact ⟨es, clock, he.trans hb, r⟩
/-- the disk stands where none of its blocks turns. -/
theorem DiskV.kept (h : DiskV w F p mb kv d) (hk : ∀ i, F i → i < w.heap.size → w'.heap[i]? = w.heap[i]?) : DiskV w' F p mb kv d := by
  obtain ⟨D, hm, hD⟩ := h.map
  refine ⟨(hk p h.loP h.ltP).trans h.head, ⟨D, ownsMap_block hm (hk mb h.loM h.ltM), hD⟩, fun f hf => ?_, h.keep.kept fun g cs hg hc => hk g hg (Array.getElem?_eq_some_iff.1 hc).1, h.names, h.sorted, h.blks, h.sls, h.loP, h.loM⟩
  have hv := h.files f hf
  exact ⟨(hk _ hv.lo (Array.getElem?_eq_some_iff.1 hv.cells).1).trans hv.cells, hv.own.kept fun g hg => hk g (hv.own.blk hg).1 (hv.own.blk hg).2.2, hv.lo⟩
theorem DiskV.below (h : DiskV w F p mb kv d) (hb : Below w.heap.size w w') : DiskV w' F p mb kv d := h.kept fun i _ hi => hb.block i hi
theorem DiskV.only {S : Nat → Prop} (h : DiskV w F p mb kv d) (ho : Only S w w') (hS : ∀ i, S i → ¬ F i) : DiskV w' F p mb kv d := h.kept fun i hb hi => ho.block i hi fun hs => hS i hs hb
theorem DiskP.below {k : Pk} (h : DiskP w F p k) (hb : Below w.heap.size w w') : DiskP w' F p k := by
  obtain ⟨mb, kv, d, h, e⟩ := h
  exact ⟨mb, kv, d, h.below hb, e⟩
theorem DiskP.only {S : Nat → Prop} {k : Pk} (h : DiskP w F p k) (ho : Only S w w') (hS : ∀ i, S i → ¬ F i) : DiskP w' F p k := by
  obtain ⟨mb, kv, d, h, e⟩ := h
  exact ⟨mb, kv, d, h.only ho hS, e⟩
theorem FileV.mono {F' : Nat → Prop} {f : Fd} (h : FileV w F f) (hF : ∀ i, F i → i < w.heap.size → F' i) : FileV w F' f := by
  refine ⟨h.cells, ?_, hF _ h.lo (Array.getElem?_eq_some_iff.1 h.cells).1⟩
  obtain ⟨A, c, e, h1, h2, h3, h4⟩ := h.own
  exact ⟨A, c, e, h1, h2, h3, h4.imp id fun ⟨g, cur, a, b, e1, r⟩ => ⟨g, cur, a, hF g b (Array.getElem?_eq_some_iff.1 e1).1, e1, r⟩⟩
theorem KeepV.mono {F' : Nat → Prop} {keep : List Int} (h : KeepV w F kv keep) (hF : ∀ i, F i → i < w.heap.size → F' i) : KeepV w F' kv keep := by
  obtain ⟨A, c, e, h1, h2, h3⟩ := h
  refine ⟨A, c, e, h1, h2, fun hn => ?_⟩
  obtain ⟨g, o, cs, e1, e2, e3, e4⟩ := h3 hn
  exact ⟨g, o, cs, e1, hF g e2 (Array.getElem?_eq_some_iff.1 e3).1, e3, e4⟩
/-- another set that holds the disk's blocks. -/
theorem DiskV.mono {F' : Nat → Prop} (h : DiskV w F p mb kv d) (hF : ∀ i, F i → i < w.heap.size → F' i) : DiskV w F' p mb kv d :=
  ⟨h.head, h.map, fun f hf => (h.files f hf).mono hF, h.keep.mono hF, h.names, h.sorted, h.blks, h.sls, hF p h.loP h.ltP, hF mb h.loM h.ltM⟩
theorem DiskP.mono {F' : Nat → Prop} {k : Pk} (h : DiskP w F p k) (hF : ∀ i, F i → i < w.heap.size → F' i) : DiskP w F' p k := by
  obtain ⟨mb, kv, d, h, e⟩ := h
  exact ⟨mb, kv, d, h.mono hF, e⟩
/-- the blocks of F and whatever is laid from n on. -/
def orNew (F : Nat → Prop) (n i : Nat) : Prop := F i ∨ n ≤ i
/-- the head's cells. -/
theorem DiskV.cell (h : DiskV w F p mb kv d) : w.cell? ⟨p, 0, none⟩ = some (.map (some mb)) ∧ w.cell? ⟨p, 1, none⟩ = some (.int .i64 d.ops) ∧ w.cell? ⟨p, 2, none⟩ = some (.int .i64 d.room) ∧ w.cell? ⟨p, 3, none⟩ = some kv ∧ w.cell? ⟨p, 4, none⟩ = some (.int .i64 d.done) ∧ w.cell? ⟨p, 5, none⟩ = some (.int .i64 d.bytes) ∧ w.cell? ⟨p, 6, none⟩ = some (.bool d.down) := by
  refine ⟨?_, ?_, ?_, ?_, ?_, ?_, ?_⟩ <;> (rw [cell_of_row w p _ _ _ _ h.head]; rfl)
theorem DiskV.frozen (h : DiskV w F p mb kv d) (i : Nat) : w.frozen? ⟨p, i, none⟩ = false := frozen_of_row w p i _ _ h.head
/-- a store into the head. -/
theorem DiskV.store (h : DiskV w F p mb kv d) (i : Nat) (v : Value) (d' : Dk) (kv' : Value) (hn : d'.ns = d.ns) (hkp : KeepV w F kv' d'.keep)
    (hc : #[Value.map (some mb), .int .i64 d'.ops, .int .i64 d'.room, kv', .int .i64 d'.done, .int .i64 d'.bytes, .bool d'.down] = (#[Value.map (some mb), .int .i64 d.ops, .int .i64 d.room, kv, .int .i64 d.done, .int .i64 d.bytes, .bool d.down] : Array Value).setIfInBounds i v) : DiskV (w.setCell ⟨p, i, none⟩ v) F p mb kv' d' := by
  obtain ⟨D, hm, hD⟩ := h.map
  have hne : ∀ j, j ≠ p → (w.setCell ⟨p, i, none⟩ v).heap[j]? = w.heap[j]? := fun j hj => heap_setCell_other w ⟨p, i, none⟩ j v hj
  have hty : ∀ j cs (t : TypeId), w.heap[j]? = some (.cells cs t (0, 0)) → t ≠ 72 → j ≠ p := fun j cs t hj ht e => by
    subst e
    rw [h.head] at hj
    injection hj with hj
    injection hj with _ hj
    exact ht hj.symm
  have hmp : mb ≠ p := by
    rintro rfl
    obtain ⟨es, clock, hb, _⟩ := hm
    rw [h.head] at hb
    cases hb
  refine ⟨?_, ⟨D, by rw [hn]; exact ownsMap_block hm (hne mb hmp), by rw [hn]; exact hD⟩, fun f hf => ?_, hkp.kept fun g cs hg hcs => hne g (hty g cs _ hcs (by decide)), by rw [hn]; exact h.names, by rw [hn]; exact h.sorted, by rw [hn]; exact h.blks, by rw [hn]; exact h.sls, h.loP, h.loM⟩
  · rw [hc]
    exact heap_setCell_same w p i _ _ v h.head
  · rw [hn] at hf
    have hv := h.files f hf
    exact ⟨(hne _ (hty _ _ _ hv.cells (by decide))).trans hv.cells, hv.own.kept fun g hg => hne g (by obtain ⟨cs, hL⟩ := (hv.own.blk hg).2.1; exact hty g cs _ hL (by decide)), hv.lo⟩
end
theorem law_str : Keyed Try.prog 9 := string_keyed Try.underlying9
theorem zero_ptr (w : World) : (zeroValue 69).run Try.prog w = .ok (.pointer none) w := by kernel_rfl
theorem key_str (x : Nm) (hl : x.length ≤ 140737488355328) : keyOf Try.prog 9 (.string ⟨x.toArray⟩) = some (.string x) := by
  have := WideMaps.keyOf_string_mk (P := Try.prog) (k := 9) Try.underlying9 (s := ⟨x.toArray⟩) (by simp [ByteArray.size, maxLen]; omega)
  simpa using this
/-- the look-up of a name. -/
theorem DiskV.look {w : World} {F : Nat → Prop} {p mb : Nat} {kv : Value} {d : Dk} (h : DiskV w F p mb kv d) (x : Nm) (hl : x.length ≤ 140737488355328) :
    (Instr.lookup 70 (.map (some mb)) (.string ⟨x.toArray⟩) false).run Try.prog w = .ok (ptrF (findF x d.ns)) w := by
  obtain ⟨D, hm, hD⟩ := h.map
  obtain ⟨v, ps, hrun, hR⟩ := hm.lookup law_str Try.underlying70 (zero_ptr w) (zd := .lit (.bool false)) (zp := []) rfl (key_str x hl)
  rw [hD.at_] at hR
  rw [hrun, ptrR_inv hR]
end Go.Proofs.Ytcmjoaepihbodaa
end
section
namespace Go.Proofs.Ytcmjoaepihbodaa
open Go.RowKit Go.BigFrame Go.Sort Go.Shelf Go.Lib Go.Maps
attribute [local go_sem ↓] Go.wp_at_zero Go.wp_at_succ
set_option maxRecDepth 100000 in
set_option maxHeartbeats 2000000 in
theorem change_any (F : Nat → Prop) (p : Nat) (k : Pk) (w : World) (h : DiskP w F p k) (hd : 0 ≤ k.done) (hd' : k.done < 4611686018427387904) :
    Calls Try.prog 35 #[.pointer (some ⟨p, 0, none⟩)] w fun r w' => r = .returned (.int .i64 (changeE k)) ∧ DiskP w' F p (changeK k) ∧ Only F w w' := by
  obtain ⟨mb, kv, d, h, rfl⟩ := h
  have H := Lib.hid h
  have hbp : F p := h.loP
  obtain ⟨c0, c1, c2, c3, c4, c5, c6⟩ := h.cell
  have hfz := h.frozen
  have hd1 : 0 ≤ d.done := hd
  have hd2 : d.done < 4611686018427387904 := hd'
  have C1 : ∀ q : Ext w, q.w.cell? { block := p, off := 1 } = _ := fun q => q.h.cell c1
  have C4 : ∀ q : Ext w, q.w.cell? { block := p, off := 4 } = _ := fun q => q.h.cell c4
  clear h hd hd'
  by_cases h1 : 0 ≤ d.ops
  · by_cases h2 : d.ops ≤ d.done
    · have hc : crashes d.pk = true := by show (decide (0 ≤ d.ops) && decide (d.ops ≤ d.done)) = true; simp [h1, h2]
      have HC := Lib.hid hc
      clear hc
      go_enter Try.func35, Try.ntmps35
      go_wp2
      (refine wp_region_quiet_ext (by kernel_rfl) (by kernel_rfl) ?_; (repeat (go_big_quiet_step (fail))); refine wpQuiet_nil ?_; intro wq hw'; obtain ⟨⟨_, hq⟩, hw''⟩ := hw'; subst hw'')
      have hv := H.out.below hq
      obtain ⟨_, _, _, _, _, _, x6⟩ := hv.cell
      have x6f := hv.frozen 6
      have HV := Lib.hid hv
      clear hv
      go_wp2
      refine bodyPost_ret (v := .int .i64 20) (by simp [results, Try.results35, go_sem]) rfl ?_
      refine ⟨ret_int (by rw [changeE, if_pos HC.out]), ⟨mb, kv, { d with down := true }, ?_, by rw [changeK, if_pos HC.out]; rfl⟩, (Only.of_below hq).setCell (p := ⟨p, 6, none⟩) hbp _⟩
      exact HV.out.store 6 (.bool true) { d with down := true } kv rfl HV.out.keep rfl
    · have hc : crashes d.pk = false := by show (decide (0 ≤ d.ops) && decide (d.ops ≤ d.done)) = false; simp [h2]
      have HC := Lib.hid hc
      clear hc
      go_enter Try.func35, Try.ntmps35
      go_wp2
      (refine wp_region_quiet_ext (by kernel_rfl) (by kernel_rfl) ?_; (repeat (go_big_quiet_step (fail))); refine wpQuiet_nil ?_; intro wq hw'; obtain ⟨⟨_, hq⟩, hw''⟩ := hw'; subst hw'')
      have hv := H.out.below hq
      obtain ⟨_, _, _, _, x4, _, _⟩ := hv.cell
      have x4f := hv.frozen 4
      have HV := Lib.hid hv
      clear hv
      go_wp2
      refine bodyPost_ret (v := .int .i64 0) (by simp [results, Try.results35, go_sem]) rfl ?_
      refine ⟨ret_int (by rw [changeE, if_neg (by rw [HC.out]; simp)]), ⟨mb, kv, { d with done := d.done + 1 }, ?_, by rw [changeK, if_neg (by rw [HC.out]; simp)]; rfl⟩, (Only.of_below hq).setCell (p := ⟨p, 4, none⟩) hbp _⟩
      exact HV.out.store 4 (.int .i64 (d.done + 1)) { d with done := d.done + 1 } kv rfl HV.out.keep rfl
  · have hc : crashes d.pk = false := by show (decide (0 ≤ d.ops) && decide (d.ops ≤ d.done)) = false; simp [h1]
    have HC := Lib.hid hc
    have g1 : decide (0 ≤ d.ops) = false := decide_eq_false h1
    clear hc h1
    go_enter Try.func35, Try.ntmps35
    go_wp2
    (refine wp_region_quiet_ext (by kernel_rfl) (by kernel_rfl) ?_; (repeat (go_big_quiet_step (fail))); refine wpQuiet_nil ?_; intro wq hw'; obtain ⟨⟨_, hq⟩, hw''⟩ := hw'; subst hw'')
    have hv := H.out.below hq
    obtain ⟨_, _, _, _, x4, _, _⟩ := hv.cell
    have x4f := hv.frozen 4
    have HV := Lib.hid hv
    clear hv
    go_wp2
    refine bodyPost_ret (v := .int .i64 0) (by simp [results, Try.results35, go_sem]) rfl ?_
    refine ⟨ret_int (by rw [changeE, if_neg (by rw [HC.out]; simp)]), ⟨mb, kv, { d with done := d.done + 1 }, ?_, by rw [changeK, if_neg (by rw [HC.out]; simp)]; rfl⟩, (Only.of_below hq).setCell (p := ⟨p, 4, none⟩) hbp _⟩
    exact HV.out.store 4 (.int .i64 (d.done + 1)) { d with done := d.done + 1 } kv rfl HV.out.keep rfl
/-- a slice of strings. -/
def Strs (w : World) (S : Nat → Prop) (v : Value) (ss : List Nm) : Prop :=
  ∃ A c, v = .slice A ss.length c ∧ ss.length ≤ c ∧ c ≤ 9223372036854775807 ∧ Row w S A ss.length 1 (ss.map encStr)
theorem Strs.below {w w' : World} {S : Nat → Prop} {v : Value} {ss : List Nm} (h : Strs w S v ss) (hb : Below w.heap.size w w') : Strs w' S v ss := by
  obtain ⟨A, c, e, h1, h2, h3⟩ := h
  exact ⟨A, c, e, h1, h2, h3.below hb⟩
set_option maxHeartbeats 2000000 in
theorem ready1_any (x : Nm) (w : World) (hl : x.length ≤ 140737488355328) :
    Calls Try.prog 53 #[.string ⟨x.toArray⟩] w fun r w' => r = .returned (.bool (!nameB x)) ∧ Below w.heap.size w w' := by
  go_enter Try.func53, Try.ntmps53
  go_wp2_with (go_at_call 29; refine (named_any x _ hl).mono ?_; rintro r w1 ⟨rfl, hb1⟩)
  go_ret
  exact ⟨rfl, hb1⟩
set_option maxRecDepth 100000 in
set_option maxHeartbeats 2000000 in
theorem idxNames (S : Nat → Prop) (v : Value) (ss : List Nm) (w : World) (hv : Strs w S v ss) (hl : ∀ x ∈ ss, x.length ≤ 140737488355328) :
    Calls Try.prog 60 #[v, .func (.func 53) #[] #[]] w fun r w' => ∃ i : Int, r = .returned (.int .i64 i) ∧ (0 ≤ i ↔ ss.all nameB = false) ∧ Below w.heap.size w w' := by
  obtain ⟨A, c, rfl, hc, hcm, hr⟩ := hv
  obtain ⟨n, hn⟩ : ∃ n, ss.length = n := ⟨_, rfl⟩
  rw [hn] at hr hc ⊢
  have HN := Lib.hid hn
  have HL := Lib.hid hl
  have HR := Lib.hid hr
  clear hn hl hr
  go_enter Try.func60, Try.ntmps60
  go_wp2
  go_loopw [8] (fun t wr => ∃ k : Nat, k ≤ n ∧ t = .int .i64 k ∧ (ss.take k).all nameB = true ∧ Below w.heap.size w wr) (fun t _ => n - (intOf t).toNat)
  case atStart => exact ⟨0, Nat.zero_le _, rfl, rfl, Below.refl _ _⟩
  case round =>
    obtain ⟨k, hk, rfl, hall, hbel⟩ := hrel
    have HA := Lib.hid hall
    have HB := Lib.hid hbel
    clear hall hbel
    by_cases hkn : k < n
    · obtain ⟨x, hx⟩ : ∃ x, ss[k]? = some x := ⟨_, List.getElem?_eq_getElem (by rw [HN.out]; exact hkn)⟩
      obtain ⟨b, o, u, rfl, _, _, hu, hcell⟩ := (HR.out.below HB.out).at_ hkn
      obtain rfl : u = encStr x := by rw [List.getElem?_map, hx] at hu; injection hu with hu; exact hu.symm
      have hxl := HL.out x (List.mem_of_getElem? hx)
      have HX := Lib.hid hx
      unfold encStr at hcell
      clear hu hx
      cases hb : nameB x with
      | true =>
        have HNB := Lib.hid hb
        clear hb
        go_wp2_with (go_at_call 53; refine (ready1_any x _ hxl).mono ?_; rintro r w1 ⟨rfl, hb1⟩; rw [HNB.out])
        refine ⟨⟨k + 1, by omega, by go_num, ?_, HB.out.trans (hb1.mono HB.out.size)⟩, by simp [intOf]; omega⟩
        rw [take_snoc HX.out, List.all_append, HA.out]
        simp [HNB.out]
      | false =>
        have HNB := Lib.hid hb
        clear hb
        go_wp2_with (go_at_call 53; refine (ready1_any x _ hxl).mono ?_; rintro r w1 ⟨rfl, hb1⟩; rw [HNB.out])
        go_ret
        refine ⟨_, rfl, ⟨fun _ => ?_, fun _ => by omega⟩, HB.out.trans (hb1.mono HB.out.size)⟩
        rw [List.all_eq_false]
        exact ⟨x, List.mem_of_getElem? HX.out, by rw [HNB.out]; simp⟩
    · obtain rfl : k = n := by omega
      go_wp2
      go_ret
      refine ⟨-1, rfl, ⟨fun h => by omega, fun h => ?_⟩, HB.out⟩
      have := HA.out
      rw [List.take_of_length_le (by rw [HN.out]; exact Nat.le_refl _), h] at this
      cases this
set_option maxHeartbeats 2000000 in
theorem anyNames (S : Nat → Prop) (v : Value) (ss : List Nm) (w : World) (hv : Strs w S v ss) (hl : ∀ x ∈ ss, x.length ≤ 140737488355328) :
    Calls Try.prog 52 #[v, .func (.func 53) #[] #[]] w fun r w' => r = .returned (.bool (!ss.all nameB)) ∧ Below w.heap.size w w' := by
  have HC := Lib.hid (idxNames S v ss w hv hl)
  obtain ⟨A, c, rfl, _⟩ := hv
  go_enter Try.func52, Try.ntmps52
  go_wp2_with (go_at_call 60; refine HC.out.mono ?_; rintro r w1 ⟨i, rfl, hi, hb⟩)
  go_ret
  refine ⟨ret_bool ?_, hb⟩
  rw [Bool.eq_iff_iff, decide_eq_true_iff]
  simp
theorem ready_nil (v : Value) (w : World) : Calls Try.prog 34 #[.pointer none, v] w fun r w' => r = .returned (.int .i64 1) ∧ w = w' := by
  go_enter Try.func34, Try.ntmps34
  go_wp2
  go_ret
  exact ⟨rfl, rfl⟩
set_option maxRecDepth 100000 in
set_option maxHeartbeats 4000000 in
theorem ready_any (F : Nat → Prop) (p : Nat) (k : Pk) (S : Nat → Prop) (v : Value) (ss : List Nm) (w : World) (h : DiskP w F p k) (hv : Strs w S v ss) (hl : ∀ x ∈ ss, x.length ≤ 140737488355328) :
    Calls Try.prog 34 #[.pointer (some ⟨p, 0, none⟩), v] w fun r w' => r = .returned (.int .i64 (readyE k ss)) ∧ Below w.heap.size w w' := by
  obtain ⟨mb, kv, d, h, rfl⟩ := h
  have H := Lib.hid h
  obtain ⟨c0, _, _, _, _, _, c6⟩ := h.cell
  have HV := Lib.hid hv
  have HL := Lib.hid hl
  have hln : ss.length ≤ 9223372036854775807 := by obtain ⟨_, _, _, h1, h2, _⟩ := hv; omega
  obtain ⟨A, c, rfl, _⟩ := hv
  clear h hl
  cases hd : d.down with
  | true =>
    rw [hd] at c6
    have e1 : readyE d.pk ss = 20 := by show (if d.down = true then _ else _) = _; rw [hd]; rfl
    rw [e1]
    clear e1 hd
    go_enter Try.func34, Try.ntmps34
    go_wp2
    go_ret
    exact ⟨rfl, Below.refl _ _⟩
  | false =>
    rw [hd] at c6
    cases hb : ss.all nameB with
    | false =>
      have e1 : readyE d.pk ss = 23 := by show (if d.down = true then _ else _) = _; rw [hd, hb]; rfl
      rw [e1]
      have HB := Lib.hid hb
      clear e1 hd hb
      go_enter Try.func34, Try.ntmps34
      go_wp2_with (go_at_call 52; refine (anyNames S _ ss _ HV.out HL.out).mono ?_; rintro r w1 ⟨rfl, hb1⟩; rw [HB.out])
      go_ret
      exact ⟨rfl, hb1⟩
    | true =>
      have HB := Lib.hid hb
      cases ss with
      | nil =>
        have e1 : readyE d.pk [] = 0 := by show (if d.down = true then _ else _) = _; rw [hd, hb]; rfl
        rw [e1]
        clear e1 hd hb
        go_enter Try.func34, Try.ntmps34
        go_wp2_with (go_at_call 52; refine (anyNames S _ [] _ HV.out HL.out).mono ?_; rintro r w1 ⟨rfl, hb1⟩; rw [HB.out])
        (refine wp_region_quiet_ext (by kernel_rfl) (by kernel_rfl) ?_; (repeat (go_big_quiet_step (fail))); refine wpQuiet_nil ?_; intro wq hw'; obtain ⟨⟨_, hq⟩, hw''⟩ := hw'; subst hw'')
        go_wp2
        go_ret
        exact ⟨rfl, hb1.trans (Below.mono hq hb1.size)⟩
      | cons x l =>
        have e1 : readyE d.pk (x :: l) = if (findF x d.ns).isNone then 22 else 0 := by
          show (if d.down = true then _ else _) = _
          rw [hd, hb]
          show (if (findP x (d.ns.map Fd.fl)).isNone = true then _ else _) = _
          rw [findP_map]
          cases findF x d.ns <;> rfl
        rw [e1]
        obtain ⟨res, hres⟩ : ∃ res : Int, (if (findF x d.ns).isNone then (22 : Int) else 0) = res := ⟨_, rfl⟩
        rw [hres]
        have HRES := Lib.hid hres
        clear e1 hd hb hres
        obtain ⟨n, hn⟩ : ∃ n, (x :: l).length = n := ⟨_, rfl⟩
        have hn0 : 0 < n := by rw [← hn]; simp
        have HN := Lib.hid hn
        rw [hn] at hln ⊢
        obtain ⟨b, o, hA, hcell⟩ : ∃ b o, A = some ⟨b, o, none⟩ ∧ w.cell? ⟨b, o, none⟩ = some (.string ⟨x.toArray⟩) := by
          obtain ⟨A', c', hE, _, _, hr⟩ := HV.out
          injection hE with e1 e2 e3
          subst e1
          obtain ⟨b, o, u, hA, _, _, hu, hc⟩ := hr.at_ (k := 0) (by simp)
          simp [encStr] at hu
          exact ⟨b, o, hA, by rw [hu]; simpa using hc⟩
        subst hA
        have HX := Lib.hid hcell
        have hg : decide (0 < n) = true := decide_eq_true hn0
        have hxl := HL.out x List.mem_cons_self
        have HV' : Hid (Strs w S (.slice (some ⟨b, o, none⟩) n c) (x :: l)) := Lib.hid (hn ▸ HV.out)
        clear hcell hn
        go_enter Try.func34, Try.ntmps34
        go_upto_region 7 with (go_at_call 52; refine (anyNames S _ (x :: l) _ HV'.out HL.out).mono ?_; rintro r w1 ⟨rfl, hb1⟩; rw [HB.out])
        have hv1 := H.out.below hb1
        obtain ⟨x0, _⟩ := hv1.cell
        have hx1 := (World.cell?_of_block (a := ⟨b, o, none⟩) (hb1.block b (World.block_lt_of_cell? w _ HX.out))).trans HX.out
        have F0 : ∀ q : Ext w1, q.w.cell? { block := p, off := 0 } = _ := fun q => q.h.cell x0
        have F1 : ∀ q : Ext w1, q.w.cell? { block := b, off := o } = _ := fun q => q.h.cell hx1
        have F2 : ∀ q : Ext w1, (Instr.lookup 70 (.map (some mb)) (.string ⟨x.toArray⟩) false).run Try.prog q.w = .ok (ptrF (findF x d.ns)) q.w := fun q => (hv1.below q.h).look x hxl
        clear hv1
        cases hfx : findF x d.ns with
        | none =>
          have hr := HRES.out
          rw [hfx] at F2 hr
          obtain rfl : _ = res := hr
          unfold ptrF at F2
          clear hfx
          (refine wp_region_quiet_ext (by kernel_rfl) (by kernel_rfl) ?_; (repeat (go_big_quiet_step (fail))); refine wpQuiet_nil ?_; intro wq hw'; obtain ⟨⟨_, hq⟩, hw''⟩ := hw'; subst hw'')
          go_wp2
          go_ret
          exact ⟨rfl, hb1.trans (Below.mono hq hb1.size)⟩
        | some f =>
          have hr := HRES.out
          rw [hfx] at F2 hr
          obtain rfl : _ = res := hr
          unfold ptrF at F2
          clear hfx
          (refine wp_region_quiet_ext (by kernel_rfl) (by kernel_rfl) ?_; (repeat (go_big_quiet_step (fail))); refine wpQuiet_nil ?_; intro wq hw'; obtain ⟨⟨_, hq⟩, hw''⟩ := hw'; subst hw'')
          go_wp2
          go_ret
          exact ⟨rfl, hb1.trans (Below.mono hq hb1.size)⟩
end Go.Proofs.Ytcmjoaepihbodaa
end
