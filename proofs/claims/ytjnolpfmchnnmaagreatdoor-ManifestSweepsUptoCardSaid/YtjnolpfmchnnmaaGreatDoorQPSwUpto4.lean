/-
Slices of bytes: how they read, and the contracts of the small functions on them: bytes.Compare, slices.Clone at []byte, usanceref05.Less, cmp.Or at two numbers.
-/
import Derived.Test.YtjnolpfmchnnmaaGreatDoorQPSwUpto2
import Derived.KernelRfl
import Derived.Test.YtjnolpfmchnnmaaGreatDoorQPSwUpto3
import Derived.OwnWalkIn
import Derived.TacticsInMore
import Derived.Maps.AppendAt
import Derived.Test.YtjnolpfmchnnmaaGreatDoorQPSwUpto1
import Derived.Test.YtjnolpfmchnnmaaGreatDoorQPSwUpto0
import Derived.Lib.ItoaNum
import Derived.Lib.Atoi
import Derived.Lib.SmallJoins
import Derived.DeepKeys4
import Derived.Maps.Keyed
import Derived.Carry
import Derived.Lib.BytesEntry
import Derived.Shelf.Bytes.SlSmallAll
import Derived.Laws.IdiomStrings
import Derived.Laws.Externs
import Derived.LoopTactic
import Derived.Deep.LoopGhost
import Derived.Laws.AppendOwn
section
namespace Go.Proofs.YtjnolpfmchnnmaaGreatDoor
set_option maxRecDepth 100000
open Go.RowKit Go.BigFrame
attribute [local go_sem ↓] Go.wp_at_zero Go.wp_at_succ
theorem wpList_append_byt0L {w : World} {ops : Array Oper} {rest : List Oper} {o : Oper} {a : Act} {Q : Exit → Act → World → Prop} (hgd : o.guard = none) (s x : Operand)
    (ho : o.op = .call { callee := .builtin .append, args := #[s, x], argTypes := #[35, 35] }) (g : Nat) (src : Value) (hs : a.eval s = .slice (some ⟨g, 0, none⟩) 0 0) (hx : a.eval x = src)
    (S : Nat → Prop) (bs : List UInt8) (h : Byt w S src bs)
    (hK : ∀ A c w', BytL w' w.heap.size (.slice A bs.length c) bs → Below w.heap.size w w' → wpList Tryz.prog ops Q rest (a.put o.dst (.slice A bs.length c)) w') : wpList Tryz.prog ops Q (o :: rest) a w :=
  wpList_plain hgd fun _ hk => by
    obtain ⟨v', w', hrun, h2, h3⟩ := run_append_byt0L w o.type g src S bs h
    obtain ⟨A, c, rfl⟩ := slice_form h2.byt
    unfold Oper.wp execOp
    simp only [ho, resolve, invoke, builtin, Sem.run_bind, Sem.run_pure, Result.andThen_ok, List.map_toArray, List.map_cons, List.map_nil, hs, hx, hrun]
    exact hk _ _ (hK A c w' h2 h3)
theorem heap_at_new {w : World} {i : Nat} (o : Obj) (_ : True) (h : i = w.heap.size) : (w.alloc o).heap[i]? = some o := by subst h; exact heap_alloc_new w o
theorem cells_at {w : World} {g : Nat} {cs : List Value} {arr : Array Value} {t : TypeId} (ha : arr = cs.toArray) (hg : g = w.heap.size) : ∀ j u, cs[j]? = some u → (w.alloc (.cells arr t)).cell? ((⟨g, 0, none⟩ : Addr).add j) = some u := by
  subst ha hg; exact cells_new w cs t
structure Tbl where
  id : Int
  level : Int
  count : Int
  lo : List UInt8
  hi : List UInt8
deriving DecidableEq
def tbR : Rd Tbl := fun w S t cs => ∃ a b, cs = [.int .i64 t.id, .int .i64 t.level, .int .i64 t.count, a, b] ∧ Byt w S a t.lo ∧ Byt w S b t.hi
theorem tbFine : Fine tbR 5 := ⟨fun h => by obtain ⟨a, b, rfl, _⟩ := h; rfl, fun h hk => by obtain ⟨a, b, rfl, h1, h2⟩ := h; exact ⟨a, b, rfl, h1.keepR hk, h2.keepR hk⟩⟩
abbrev TabsV (w : World) (S : Nat → Prop) (v : Value) (ts : List Tbl) : Prop := Rows tbR 5 72 w S v ts
abbrev OwnTabs (w : World) (base : Nat) (v : Value) (ts : List Tbl) : Prop := OwnRows tbR 5 57 w base v ts
theorem infoT : (Tryz.prog.info? 57).map (fun i => (i.zero, i.size, i.bytes)) = some (some (.agg #[.int .i64 0, .int .i64 0, .int .i64 0, .slice none 0 0, .slice none 0 0]), 5, 72) := by kernel_rfl
end Go.Proofs.YtjnolpfmchnnmaaGreatDoor
end
section
namespace Go.Proofs.YtjnolpfmchnnmaaGreatDoor
set_option maxRecDepth 100000
def cmpB : List UInt8 → List UInt8 → Int
  | [], [] => 0
  | [], _ :: _ => -1
  | _ :: _, [] => 1
  | a :: l, b :: m => if a < b then -1 else if b < a then 1 else cmpB l m
end Go.Proofs.YtjnolpfmchnnmaaGreatDoor
end
section
namespace Go.Proofs.YtjnolpfmchnnmaaGreatDoor
set_option maxRecDepth 100000
structure Ver where
  tabs : List Tbl
  lg : Int
  sq : Int
  nx : Int
structure Edt where
  add : List Tbl
  drop : List Int
  lg : Int
  sq : Int
def idsT (ts : List Tbl) : List Int := ts.map Tbl.id
def okD (ids drop : List Int) : Bool := decide (drop.Nodup) && drop.all fun d => decide (d ∈ ids)
def okR (t : Tbl) : Bool := decide (1 ≤ t.id) && decide (t.id ≤ 999999) && decide (0 ≤ t.level) && decide (t.level ≤ 3) && decide (1 ≤ t.count)
def okK (t : Tbl) : Bool := decide (t.lo ≠ []) && decide (t.lo.length ≤ 200) && decide (t.hi.length ≤ 200) && decide (cmpB t.lo t.hi ≤ 0)
def okA (ids add : List Int) : Bool := decide (add.Nodup) && add.all fun d => decide (d ∉ ids)
def foldE (v : Ver) (e : Edt) : Int :=
  if 1024 < e.add.length ∨ 1024 < e.drop.length then 3
  else if okD (idsT v.tabs) e.drop = false then 12
  else if e.add.all okR = false then 2
  else if e.lg < v.lg ∨ e.sq < v.sq then 2
  else if e.add.all okK = false then 30
  else if okA (idsT v.tabs) (idsT e.add) = false then 31
  else 0
def foldT (v : Ver) (e : Edt) : List Tbl := (v.tabs ++ e.add).filter fun t => !decide (t.id ∈ e.drop)
def nextF (n : Int) (ts : List Tbl) : Int := ts.foldl (fun a t => max a (t.id + 1)) n
def foldN (v : Ver) (e : Edt) : Int := nextF (max v.nx 1) e.add
theorem okD_take {ids drop : List Int} {i : Nat} (h : okD ids drop = true) : okD ids (drop.take i) = true := by
  unfold okD at h ⊢
  simp only [Bool.and_eq_true, decide_eq_true_eq, List.all_eq_true] at h ⊢
  exact ⟨h.1.sublist (List.take_sublist i drop), fun x hx => h.2 x (List.mem_of_mem_take hx)⟩
theorem okD_bad {ids drop : List Int} {i : Nat} {d : Int} (hd : drop[i]? = some d) (h : d ∉ ids ∨ d ∈ drop.take i) : okD ids drop = false := by
  cases hk : okD ids drop with
  | false => rfl
  | true =>
    have h' := okD_take (i := i + 1) hk
    have e : drop.take (i + 1) = drop.take i ++ [d] := by rw [List.take_add_one, hd]; rfl
    rw [e] at h'
    unfold okD at h'
    simp only [Bool.and_eq_true, decide_eq_true_eq, List.all_eq_true] at h'
    rcases h with h | h
    · exact absurd (h'.2 d (List.mem_append_right _ List.mem_cons_self)) h
    · exact absurd rfl ((List.nodup_append.1 h'.1).2.2 d h d List.mem_cons_self)
theorem okD_step {ids drop : List Int} {i : Nat} {d : Int} (hd : drop[i]? = some d) (h : okD ids (drop.take i) = true) (h1 : d ∈ ids) (h2 : d ∉ drop.take i) : okD ids (drop.take (i + 1)) = true := by
  have e : drop.take (i + 1) = drop.take i ++ [d] := by rw [List.take_add_one, hd]; rfl
  rw [e]
  unfold okD at h ⊢
  simp only [Bool.and_eq_true, decide_eq_true_eq, List.all_eq_true] at h ⊢
  refine ⟨List.nodup_append.2 ⟨h.1, List.pairwise_singleton _ _, fun a ha b hb => ?_⟩, fun x hx => ?_⟩
  · rw [List.mem_singleton.1 hb]; exact fun e => h2 (e ▸ ha)
  · rcases List.mem_append.1 hx with hx | hx
    · exact h.2 x hx
    · rw [List.mem_singleton.1 hx]; exact h1
theorem okA_bad {ids add : List Int} {i : Nat} {d : Int} (hd : add[i]? = some d) (h : d ∈ ids ∨ d ∈ add.take i) : okA ids add = false := by
  cases hk : okA ids add with
  | false => rfl
  | true =>
    unfold okA at hk
    simp only [Bool.and_eq_true, decide_eq_true_eq, List.all_eq_true] at hk
    rcases h with h | h
    · exact absurd h (hk.2 d (List.mem_of_getElem? hd))
    · have e : add.take (i + 1) = add.take i ++ [d] := by rw [List.take_add_one, hd]; rfl
      have h' : (add.take (i + 1)).Nodup := hk.1.sublist (List.take_sublist _ _)
      rw [e] at h'
      exact absurd rfl ((List.nodup_append.1 h').2.2 d h d List.mem_cons_self)
theorem okA_all {ids add : List Int} (h1 : add.Nodup) (h2 : ∀ d ∈ add, d ∉ ids) : okA ids add = true := by
  unfold okA
  simp only [Bool.and_eq_true, decide_eq_true_eq, List.all_eq_true]
  exact ⟨h1, h2⟩
theorem all_bad {α : Type} {p : α → Bool} {l : List α} {i : Nat} {x : α} (hx : l[i]? = some x) (h : p x = false) : l.all p = false := by
  cases hk : l.all p with
  | false => rfl
  | true => rw [List.all_eq_true.1 hk x (List.mem_of_getElem? hx)] at h; cases h
theorem all_step {α : Type} {p : α → Bool} {l : List α} {i : Nat} {x : α} (hx : l[i]? = some x) (h : (l.take i).all p = true) (hp : p x = true) : (l.take (i + 1)).all p = true := by
  rw [List.take_add_one, hx, List.all_append, h]
  simp [hp]
theorem nextF_snoc (n : Int) (ts : List Tbl) (t : Tbl) : nextF n (ts ++ [t]) = max (nextF n ts) (t.id + 1) := by
  unfold nextF
  rw [List.foldl_append]
  rfl
end Go.Proofs.YtjnolpfmchnnmaaGreatDoor
end
section
namespace Go.Proofs.YtjnolpfmchnnmaaGreatDoor
set_option maxRecDepth 100000
def tabF (t : Tbl) : List UInt8 := formN t.id.toNat ++ (formN t.level.toNat ++ (formN t.count.toNat ++ (formN t.lo.length ++ t.lo ++ (formN t.hi.length ++ t.hi))))
def headF (e : Edt) (nx : Int) : List UInt8 := formN (2 * e.lg.toNat) ++ (formN (2 * e.sq.toNat) ++ (formN nx.toNat ++ formN e.drop.length))
def dropsF (l : List Int) : List UInt8 := (l.map fun d => formN d.toNat).flatten
def addsF (l : List Tbl) : List UInt8 := (l.map tabF).flatten
def editF (e : Edt) (nx : Int) : List UInt8 := headF e nx ++ (dropsF e.drop ++ addsF e.add)
def numOk (n : Int) : Prop := 0 ≤ n ∧ n < 9223372036854775808
structure TabOk (t : Tbl) : Prop where
  id : numOk t.id
  level : numOk t.level
  count : numOk t.count
  lo : 0 < t.lo.length ∧ t.lo.length ≤ 200
  hi : 0 < t.hi.length ∧ t.hi.length ≤ 200
structure EditOk (e : Edt) (nx : Int) : Prop where
  lg : numOk e.lg
  sq : numOk e.sq
  nx : numOk nx
  few : e.drop.length ≤ 1024
  fewA : e.add.length ≤ 1024
  drop : ∀ d ∈ e.drop, numOk d
  add : ∀ t ∈ e.add, TabOk t
theorem drop_step {bs a rest : List UInt8} {k : Nat} (h : bs.drop k = a ++ rest) : bs.drop (k + a.length) = rest := by
  rw [← List.drop_drop, h, List.drop_left]
theorem drop_le {bs a rest : List UInt8} {k : Nat} (hk : k ≤ bs.length) (h : bs.drop k = a ++ rest) : k + a.length ≤ bs.length := by
  have := congrArg List.length h
  rw [List.length_drop, List.length_append] at this
  omega
theorem dropsF_cons (d : Int) (l : List Int) : dropsF (d :: l) = formN d.toNat ++ dropsF l := rfl
theorem addsF_cons (t : Tbl) (l : List Tbl) : addsF (t :: l) = tabF t ++ addsF l := rfl
theorem dropsF_snoc {l : List Int} {i : Nat} {d : Int} (h : l[i]? = some d) : dropsF (l.take (i + 1)) = dropsF (l.take i) ++ formN d.toNat := by
  unfold dropsF
  rw [List.take_add_one, h, List.map_append, List.flatten_append]
  simp
theorem addsF_snoc {l : List Tbl} {i : Nat} {t : Tbl} (h : l[i]? = some t) : addsF (l.take (i + 1)) = addsF (l.take i) ++ tabF t := by
  unfold addsF
  rw [List.take_add_one, h, List.map_append, List.flatten_append]
  simp
theorem dropsF_len (l : List Int) : (dropsF l).length ≤ l.length * 10 := by
  induction l with
  | nil => simp [dropsF]
  | cons d l ih =>
    have := (formN_len d.toNat).2
    rw [dropsF_cons, List.length_append, List.length_cons]
    omega
theorem tabF_len {t : Tbl} (h : TabOk t) : 0 < (tabF t).length ∧ (tabF t).length ≤ 450 := by
  have h1 := formN_len t.id.toNat
  have h2 := formN_len t.level.toNat
  have h3 := formN_len t.count.toNat
  have h4 := formN_len t.lo.length
  have h5 := formN_len t.hi.length
  have h6 := h.lo
  have h7 := h.hi
  unfold tabF
  simp only [List.length_append]
  omega
theorem addsF_len {l : List Tbl} (h : ∀ t ∈ l, TabOk t) : (addsF l).length ≤ l.length * 450 := by
  induction l with
  | nil => simp [addsF]
  | cons t l ih =>
    have h1 := (tabF_len (h t List.mem_cons_self)).2
    have h2 := ih fun t ht => h t (List.mem_cons_of_mem _ ht)
    rw [addsF_cons, List.length_append, List.length_cons]
    omega
theorem headF_len (e : Edt) (nx : Int) : (headF e nx).length ≤ 40 := by
  have h1 := (formN_len (2 * e.lg.toNat)).2
  have h2 := (formN_len (2 * e.sq.toNat)).2
  have h3 := (formN_len nx.toNat).2
  have h4 := (formN_len e.drop.length).2
  unfold headF
  simp only [List.length_append]
  omega
theorem editF_len {e : Edt} {nx : Int} (h : EditOk e nx) : (editF e nx).length ≤ 600000 := by
  have h1 := headF_len e nx
  have h2 := dropsF_len e.drop
  have h3 := addsF_len h.add
  have h4 := h.few
  have h5 := h.fewA
  unfold editF
  simp only [List.length_append]
  omega
theorem dropsF_takeLen {e : Edt} {nx : Int} (h : EditOk e nx) (i : Nat) : (dropsF (e.drop.take i)).length ≤ 10240 := by
  have h1 := dropsF_len (e.drop.take i)
  have h2 := h.few
  have h3 := List.length_take_le i e.drop
  have h4 : (e.drop.take i).length ≤ e.drop.length := List.length_take_le' i e.drop
  omega
theorem addsF_takeLen {e : Edt} {nx : Int} (h : EditOk e nx) (i : Nat) : (addsF (e.add.take i)).length ≤ 460800 := by
  have h1 := addsF_len (l := e.add.take i) fun t ht => h.add t (List.mem_of_mem_take ht)
  have h2 := h.fewA
  have h4 : (e.add.take i).length ≤ e.add.length := List.length_take_le' i e.add
  omega
end Go.Proofs.YtjnolpfmchnnmaaGreatDoor
end
section
namespace Go.Proofs.YtjnolpfmchnnmaaGreatDoor
set_option maxRecDepth 100000
open Go.RowKit Go.BigFrame
theorem wpListIn_append_at {F : Fence} {n : Nat} {P : Program} (w : World) {ops : Array Oper} {rest : List Oper} {o : Oper} {a : Act} {Q : Exit → Act → World → Prop}
    (hg : o.guard = none) (s x : Operand) (t : TypeId) (hop : o.op = Op.call { callee := Callee.builtin Builtin.append, args := #[s, x], argTypes := #[t, t] })
    (base : Nat) (e : TypeId) (i : TypeInfo) (z : Value) (size bytes : Nat) (h1 : P.underlying t = some (.slice e)) (h2 : P.info? e = some i) (h3 : i.zero = some z) (h4 : i.size = size) (h5 : i.bytes = bytes) (h6 : z.cells.size = size) (h7 : 0 < size)
    (v : Value) (k : Nat) (xs : List Value) (hs : a.eval s = v) (hown : w.ownsRow base e size v k xs) (ad : Addr) (m c : Nat) (news : List Value) (hx : a.eval x = .slice (some ad) m c) (hn : news.length = m * size)
    (hc : ∀ j u, news[j]? = some u → w.cell? (ad.add j) = some u) (h1c : ∀ u ∈ news, u.oneCell' = true) (b1 : k + m ≤ maxLen) (b2 : (k + m) * bytes ≤ 140737488355328) (b3 : base ≤ w.heap.size)
    (hK : ∀ v' w', w'.ownsRow base e size v' (k + m) (xs ++ news) → w.grownBy w' v.ownBlock → (v'.ownBlock = v.ownBlock ∨ v'.ownBlock = some w.heap.size) → wpListIn F n P ops Q rest (a.put o.dst v') w') :
    wpListIn F n P ops Q (o :: rest) a w := by
  refine wpListIn_plain hg fun K hK' => ?_
  obtain ⟨v', w', hrun, r1, r2, _, r4⟩ := run_append_own_at (P := P) w base t o.type e i z size bytes h1 h2 h3 h4 h5 h6 h7 v k xs hown ad m c news hn hc h1c b1 b2 b3
  unfold Oper.wpIn
  refine ⟨?_, ?_⟩
  · simp [Oper.about, hop, resolve, Target.leads, Sem.run_pure]
  · rw [Oper.semAt_plain F _ _ (by rw [hop]; intro c hc'; cases hc')]
    simp [execOp, hop, resolve, invoke, builtin, hs, hx, hrun, Result.andThen]
    exact hK' _ _ (hK v' w' r1 r2 r4)
theorem Loose.idle {Z : Nat → Prop} {base i : Nat} {A B : World} (h : Loose A i) (hi : Idle Z base A B) (hZ : ¬ Z i) : Loose B i := by
  obtain ⟨cs, h⟩ := h
  exact ⟨cs, hi.cells hZ h rfl⟩
theorem Byt.idle {Z R : Nat → Prop} {base : Nat} {A B : World} {v : Value} {bs : List UInt8} (h : Byt A (fun i => R i ∧ Loose A i) v bs) (hi : Idle Z base A B) (hZ : ∀ i, R i → ¬ Z i) : Byt B (fun i => R i ∧ Loose B i) v bs :=
  Byt.mono (S := fun i => R i ∧ Loose A i) (Byt.keep (S := fun i => R i ∧ Loose A i) h hi.size fun i _ hR => by
    obtain ⟨cs, hl⟩ := hR.2
    exact (hi.cells (hZ i hR.1) hl rfl).trans hl.symm) fun _ hR => ⟨hR.1, hR.2.idle hi (hZ _ hR.1)⟩
theorem Byt.grewT {lo : Nat} {T T' : Nat → Prop} {v : Value} {bs : List UInt8} {W W' : World} (h : Byt W (fun i => (lo ≤ i ∧ ¬ T i) ∧ Loose W i) v bs) (hg : Grew W.heap.size T T') (ho : Only (fun i => T i ∨ W.heap.size ≤ i) W W') : Byt W' (fun i => (lo ≤ i ∧ ¬ T' i) ∧ Loose W' i) v bs := by
  have h3 : Byt W (fun i => ((lo ≤ i ∧ ¬ T i) ∧ i < W.heap.size) ∧ Loose W i) v bs := h.mono fun i hi => ⟨⟨hi.1, hi.2.lt⟩, hi.2⟩
  refine (Byt.looseOnly h3 ho fun i hi h => h.elim hi.1.2 fun h => by have := hi.2; omega).mono fun i hi => ⟨⟨hi.1.1.1, fun hT => (hg i hT).elim hi.1.1.2 fun h => by have := hi.1.2; omega⟩, hi.2⟩
theorem Only.idle {Z : Nat → Prop} {base : Nat} {w W W' : World} (h : Only Z w W) (hi : Idle Z base W W') (hb : w.heap.size ≤ base) : Only Z w W' :=
  ⟨hi.os.trans h.os, hi.tape.trans h.tape, hi.output.trans h.output, Nat.le_trans h.size hi.size, fun i hlt hn => (hi.block i (Nat.lt_of_lt_of_le hlt h.size) fun hk => hk.elim hn fun hk => by omega).trans (h.block i hlt hn)⟩
section
variable {te e : TypeId} {size n₀ B : Nat}
structure Grows (te e : TypeId) (size n₀ B : Nat) (T : Nat → Prop) (v : Value) (k : Nat) (ys : List Value) (W : World) : Prop where
  box : Boxed W B te v
  row : W.ownsRow n₀ e size v k ys
  set : ∀ i, T i ↔ i = B ∨ v.ownBlock = some i
theorem Grows.blk {T : Nat → Prop} {v : Value} {k : Nat} {ys : List Value} {W : World} (h : Grows te e size n₀ B T v k ys W) {g : Nat} (hg : v.ownBlock = some g) : n₀ ≤ g ∧ g < W.heap.size ∧ ∃ cur, W.heap[g]? = some (.cells cur e (0, 0)) := by
  rcases h.row.2 with ⟨rfl, _⟩ | ⟨g', cap, cur, rfl, hb, hh, _⟩
  · simp [Value.ownBlock] at hg
  · obtain rfl : g' = g := by simpa [Value.ownBlock] using hg
    exact ⟨hb, (Array.getElem?_eq_some_iff.1 hh).1, cur, hh⟩
theorem Grows.lt {T : Nat → Prop} {v : Value} {k : Nat} {ys : List Value} {W : World} (h : Grows te e size n₀ B T v k ys W) {i : Nat} (hi : T i) : i < W.heap.size := by
  rcases (h.set i).1 hi with rfl | hg
  · exact h.box.lt
  · exact (h.blk hg).2.1
theorem Grows.idle {T Z : Nat → Prop} {v : Value} {k base : Nat} {ys : List Value} {W W' : World} (h : Grows te e size n₀ B T v k ys W) (hi : Idle Z base W W') (hZ : ∀ i, Z i → i < n₀) (hB : n₀ ≤ B) : Grows te e size n₀ B T v k ys W' := by
  refine ⟨hi.cells (fun hz => by have := hZ _ hz; omega) h.box rfl, own_only h.row hi fun g hg hS => ?_, h.set⟩
  obtain ⟨h1, _, cur, h2⟩ := h.blk hg
  rcases hS with hz | ⟨_, o, ho, hc⟩
  · have := hZ _ hz; omega
  · rw [h2] at ho
    injection ho with ho
    subst ho
    cases hc
theorem Grows.push {T : Nat → Prop} {v v' : Value} {k k' sA : Nat} {ys ys' : List Value} {W w2 : World} {tmp : Obj} (h : Grows te e size n₀ B T v k ys W) (hte : te ≠ e) (hB : n₀ ≤ B) (hn : n₀ ≤ W.heap.size) (hs : sA ≤ W.heap.size)
    (hown : w2.ownsRow n₀ e size v' k' ys') (hg : (W.alloc tmp).grownBy w2 v.ownBlock) (hat : v'.ownBlock = v.ownBlock ∨ v'.ownBlock = some (W.alloc tmp).heap.size) :
    Boxed w2 B te v ∧ Grows te e size n₀ B (fun i => i = B ∨ v'.ownBlock = some i) v' k' ys' (w2.setCell ⟨B, 0, none⟩ v') ∧ Grew sA T (fun i => i = B ∨ v'.ownBlock = some i) ∧ Only (fun i => T i ∨ sA ≤ i) W (w2.setCell ⟨B, 0, none⟩ v') := by
  obtain ⟨h1, h2, h3, _, _⟩ := h.box.appended hte h.row hn hB hown hg
  refine ⟨h1, ⟨h2, h3, fun i => Iff.rfl⟩, fun i hi => ?_, hg.os, hg.tape, hg.output, ?_, fun i hi hS => ?_⟩
  · rcases hi with rfl | hi
    · exact .inl ((h.set _).2 (.inl rfl))
    · rcases hat with hat | hat
      · exact .inl ((h.set _).2 (.inr (hat ▸ hi)))
      · rw [hat] at hi
        injection hi with hi
        simp at hi
        omega
  · have := hg.size
    simp at this
    simp [World.setCell]
    omega
  · have hb : i ≠ B := fun e => hS (.inl ((h.set _).2 (.inl e)))
    have hv : some i ≠ v.ownBlock := fun e => hS (.inl ((h.set _).2 (.inr e.symm)))
    exact (heap_setCell_other w2 ⟨B, 0, none⟩ i v' hb).trans ((hg.block i (by simp; omega) hv).trans (Below.heap_alloc W tmp i hi))
end
end Go.Proofs.YtjnolpfmchnnmaaGreatDoor
end
section
namespace Go.Proofs.YtjnolpfmchnnmaaGreatDoor
set_option maxRecDepth 100000
open Go.RowKit Go.BigFrame Go.Shelf
attribute [local go_sem ↓] Go.wp_at_zero Go.wp_at_succ
def chunkV (g o n k : Nat) : Value := .slice (some ⟨g, o + 1024 * k * 5, none⟩) (min 1024 (n - 1024 * k)) (min 1024 (n - 1024 * k))
set_option maxRecDepth 100000 in
set_option maxHeartbeats 1000000 in
theorem chunkT_any (A : Option Addr) (n c : Nat) (w : World) :
    Calls Tryz.prog 207 #[.slice A n c, .int .i64 1024] w fun r w' => r = .returned (.func (.func 243) #[] #[.pointer (some ⟨w.heap.size, 0, none⟩), .pointer (some ⟨w.heap.size + 1, 0, none⟩)]) ∧ Boxed w' w.heap.size 43 (.slice A n c) ∧ Boxed w' (w.heap.size + 1) 3 (.int .i64 1024) ∧ fr w w' ∧ w'.heap.size = w.heap.size + 2 := by
  have p2 := Boxed.new (w.alloc (.cells #[.slice A n c] 43)) 3 (.int .i64 1024)
  have p1 := (Boxed.new w 43 (.slice A n c)).alloc (.cells #[.int .i64 1024] 3)
  have hf : fr w ((w.alloc (.cells #[.slice A n c] 43)).alloc (.cells #[.int .i64 1024] 3)) := fr.alloc (fr.alloc fr.refl _) _
  rw [World.size_alloc] at p2
  have P1 := Lib.hid p1
  have P2 := Lib.hid p2
  have HF := Lib.hid hf
  clear p1 p2 hf
  go_enter Tryz.func207, Tryz.ntmps207
  go_wp2
  go_ret
  exact ⟨rfl, P1.out, P2.out, HF.out, by simp⟩
set_option maxRecDepth 100000 in
set_option maxHeartbeats 2000000 in
theorem chunkT_tells (nn : Nat) (w : World) (B g o n c m : Nat) (A : Option Addr) (b1 : Boxed w B 43 (.slice A n c)) (b2 : Boxed w (B + 1) 3 (.int .i64 1024)) (hA : 0 < n → A = some ⟨g, o, none⟩) (hn : n ≤ 1099511627776) (hc : n ≤ c) (hcm : c ≤ 9223372036854775807) (hm1 : ∀ k, k < m ↔ 1024 * k < n) :
    Tells Fence.wide nn Tryz.prog 243 #[.pointer (some ⟨B, 0, none⟩), .pointer (some ⟨B + 1, 0, none⟩)] (fun k : Nat => #[chunkV g o n k]) (fun pre _ k _ => k = pre.length ∧ k < m)
      (fun xs _ => xs = List.range m) (fun _ _ => True) (fun i => i = B ∨ i = B + 1) (fun _ => False) w := by
  intro l J Jx T0 W hW hT0 hJ hJx hJT hY h0
  refine callsIn_wide.2 ?_
  have hmb : 1024 * m ≤ n + 1024 := by
    rcases Nat.eq_zero_or_pos m with h | h
    · omega
    · have := (hm1 (m - 1)).1 (by omega); omega
  have HM1 := Lib.hid hm1
  have HA := Lib.hid hA
  have HJ := Lib.hid hJ
  have HJT := Lib.hid hJT
  have HY := Lib.hid hY
  have HT0 := Lib.hid hT0
  have HB := Lib.hid (show B < W.heap.size ∧ B + 1 < W.heap.size from ⟨Nat.lt_of_lt_of_le b1.lt hW.size, Nat.lt_of_lt_of_le b2.lt hW.size⟩)
  have HB1 := Lib.hid (boxedFr b1 hW)
  have HB2 := Lib.hid (boxedFr b2 hW)
  have HJ0 := Lib.hid h0
  clear hJ hJx hJT hY hT0 hW h0 b1 b2 hm1 hA
  go_enter Tryz.func243, Tryz.ntmps243
  go_wp2
  go_loopw [4] (fun x wr => ∃ (k : Nat) (T : Nat → Prop), k ≤ m ∧ x = .int .i64 (1024 * k : Nat) ∧ J (List.range k) T wr ∧ (∀ i, T i → ¬ (i = B ∨ i = B + 1)) ∧ Boxed wr B 43 (.slice A n c) ∧ Boxed wr (B + 1) 3 (.int .i64 1024) ∧ W.heap.size ≤ wr.heap.size) (fun x _ => 1024 * m - (intOf x).toNat)
  case atStart => exact ⟨0, T0, Nat.zero_le _, rfl, HJ0.out, HT0.out, HB1.out, HB2.out, Nat.le_refl _⟩
  case round =>
    clear HJ0 HT0 HB1 HB2
    obtain ⟨k, T, hk, rfl, hj, hT, b1, b2, hz⟩ := hrel
    have HJK := Lib.hid hj
    have HT := Lib.hid hT
    have HZ := Lib.hid hz
    obtain ⟨q, hq⟩ : ∃ q, 1024 * k = q := ⟨_, rfl⟩
    rw [hq]
    have HQ := Lib.hid hq
    obtain ⟨w0, hw0⟩ : ∃ x, x = wr := ⟨_, rfl⟩
    subst hw0
    by_cases hkm : k < m
    · have hqn : q < n := by have := (HM1.out k).1 hkm; omega
      obtain rfl := HA.out (by omega)
      have c1 := b1.cell
      have c2 := b2.cell
      have HB1 := Lib.hid b1
      have HB2 := Lib.hid b2
      clear hj hT b1 b2 hz hq
      obtain ⟨e, he⟩ : ∃ e, min 1024 (n - q) = e := ⟨_, rfl⟩
      have heb : q + e ≤ n ∧ 1 ≤ e ∧ e ≤ 1024 := by omega
      have hqc : ¬ c = q := by omega
      have i1 : (0 : Int) ≤ (q : Int) := by omega
      have i2 : (q : Int) ≤ (n : Int) := by omega
      have i3 : (q : Int) ≤ (c : Int) := by omega
      have i4 : ((n : Int) - (q : Int)) = ((n - q : Nat) : Int) := by omega
      have i5 : min (1024 : Int) ((n - q : Nat) : Int) = (e : Int) := by omega
      have HKM := Lib.hid hkm
      have hv : chunkV g o n k = .slice (some ⟨g, o + q * 5, none⟩) e e := by unfold chunkV; rw [HQ.out, he]
      have HV := Lib.hid hv
      clear hkm hk hv he
      go_upto_region 3 with (fail)
      go_quiet (fail)
      have c3 : (w0.drewN nq).cell? ⟨B, 0, none⟩ = some (.slice (some ⟨g, o, none⟩) n c) := c1
      have c4 : (w0.drewN nq).cell? ⟨B + 1, 0, none⟩ = some (.int .i64 1024) := c2
      go_upto_region 4 with (fail)
      refine (wpIn_wide (n := nn)).1 ?_
      gi_wp2_with (fail)
      have hid : ∀ x, Idle (fun _ => False) W.heap.size w0 (w0.drewN x) := fun x => ⟨rfl, rfl, rfl, Nat.le_refl _, fun _ _ _ => rfl⟩
      obtain ⟨fn, tmps, assign, body, hy, hR⟩ := HY.out (List.range k) T k (w0.drewN nq) (HJ.out _ _ _ _ HJK.out (hid _)) ⟨by simp, HKM.out⟩
      rw [HV.out] at hy
      rw [hy, Oper.uponIn_round]
      refine ⟨fun h => absurd h (by decide), hR.mono ?_⟩
      rintro ex w6 ⟨T', gT, oT, (⟨rfl, hj6⟩ | ⟨rfl, hj6⟩)⟩
      · have gT' := Lib.hid gT
        have oT' := Lib.hid oT
        have HJ6 := Lib.hid hj6
        have hTB : ∀ i, T i → ¬ (i = B ∨ i = B + 1) := HT.out
        have B1 := Lib.hid (boxedOnly (S := T) (w := w0.drewN nq) HB1.out oT fun h => hTB _ h (.inl rfl))
        have B2 := Lib.hid (boxedOnly (S := T) (w := w0.drewN nq) HB2.out oT fun h => hTB _ h (.inr rfl))
        have c5 := B2.out.cell
        have hsz : w0.heap.size ≤ w6.heap.size := oT.size
        clear hy hR gT oT hj6 hid hTB c1 c2 c3 c4
        gi_wp2
        go_wp2
        refine ⟨⟨k + 1, T', HKM.out, ?_, by rw [List.range_succ]; exact HJ6.out, fun i hi => ?_, B1.out, B2.out, Nat.le_trans HZ.out hsz⟩, by have := HQ.out; have := HKM.out; simp [intOf]; omega⟩
        · congr 1
          have := HQ.out
          omega
        · rcases gT'.out i hi with h | h
          · exact HT.out i h
          · have h1 := HB.out
            have h2 := HZ.out
            have h3 : w0.heap.size ≤ i := h
            omega
      · have HJX6 := Lib.hid hj6
        clear hy hR hj6 hid gT oT
        gi_wp2
        go_wp2
        refine bodyPost_ret (results_none rfl _ _ _) rfl ?_
        exact ⟨⟨_, rfl⟩, .inr ⟨_, T', trivial, HJX6.out⟩⟩
    · have c1 := b1.cell
      have c2 := b2.cell
      have hqn : ¬ q < n := by have := (HM1.out k).2; rw [HQ.out] at this; exact fun h => hkm (this h)
      obtain rfl : k = m := by omega
      clear hkm hj hT b1 b2 hz hq
      go_wp2
      go_end0
      exact ⟨⟨_, rfl⟩, .inl ⟨_, T, rfl, HJK.out⟩⟩
end Go.Proofs.YtjnolpfmchnnmaaGreatDoor
end
section
namespace Go.Proofs.YtjnolpfmchnnmaaGreatDoor
set_option maxRecDepth 100000
open Go.RowKit Go.BigFrame Go.Sort Go.Shelf Go.Lib Go.Maps
attribute [local go_sem ↓] Go.wp_at_zero Go.wp_at_succ
theorem own_blk {w : World} {base size n g : Nat} {e : TypeId} {v : Value} {xs : List Value} (h : w.ownsRow base e size v n xs) (hv : v.ownBlock = some g) : ∃ cs : Array Value, w.heap[g]? = some (.cells cs e (0, 0)) := by
  rcases h.2 with ⟨rfl, _⟩ | ⟨g', cap, cur, rfl, _, hh, _⟩
  · cases hv
  · obtain rfl : g' = g := Option.some.inj hv
    exact ⟨_, hh⟩
set_option maxRecDepth 100000 in
set_option maxHeartbeats 4000000 in
theorem dump_any (F : Nat → Prop) (p : Nat) (k : Pk) (w : World) (h : DiskP w F p k) (hmany : k.fs.length * 48 ≤ 140737488355328) :
    Calls Tryz.prog 33 #[.pointer (some ⟨p, 0, none⟩)] w fun r w' => ∃ v, r = .returned v ∧ OwnFiles w' w.heap.size v k.fs ∧ Below w.heap.size w w' := by
  obtain ⟨i0, hi, hz0, hz1, hz2⟩ := info_parts infoF
  have hby := Lib.hid hz2
  have hz1' := Lib.hid hz1
  clear hz2 hz1
  obtain ⟨mb, kv, d, h, rfl⟩ := h
  have H := Lib.hid h
  have HN := Lib.hid (names_any F p mb _ d _ h (by rw [← map_len]; omega))
  rw [← map_len] at HN
  obtain ⟨n, hn⟩ : ∃ n, d.pk.fs.length = n := ⟨_, rfl⟩
  have HLN := Lib.hid hn
  rw [hn] at hmany HN
  clear h hn
  go_enter Tryz.func33, Tryz.ntmps33
  go_wp2_with (go_at_call 86; refine HN.out.mono ?_; rintro r w1 ⟨vn, rfl, hrow, hb1⟩; obtain ⟨An, cn, rfl⟩ := own_form hrow)
  have HROW := Lib.hid hrow
  have HB1 := Lib.hid hb1
  clear hrow hb1 HN
  go_loopw [3, 12] (fun v3 t wr => ∃ i : Nat, i ≤ n ∧ t = .int .i64 i ∧ OwnFiles wr w1.heap.size v3 (d.pk.fs.take i) ∧ Below w1.heap.size w1 wr) (fun _ t _ => n - (intOf t).toNat)
  case atStart => exact ⟨0, Nat.zero_le _, rfl, OwnRows.nil _ _ _, Below.refl _ _⟩
  case round =>
    obtain ⟨i, hi', rfl, hown, hbel⟩ := hrel
    obtain ⟨css, hown, hys⟩ := hown
    have HO := Lib.hid hown
    have HYS := Lib.hid hys
    have HB := Lib.hid hbel
    obtain ⟨m, hm⟩ : ∃ m, (d.pk.fs.take i).length = m := ⟨_, rfl⟩
    have hmi : m = i := by rw [← hm, List.length_take, HLN.out]; omega
    subst hmi
    rw [hm] at HO
    have HMM := Lib.hid hm
    clear hown hys hbel hm
    by_cases hin : m < n
    · obtain ⟨f0, hf0⟩ : ∃ f0, d.pk.fs[m]? = some f0 := ⟨_, List.getElem?_eq_getElem (by rw [HLN.out]; exact hin)⟩
      have hf0' : (d.ns.map Fd.fl)[m]? = some f0 := hf0
      rw [List.getElem?_map] at hf0'
      obtain ⟨f, hfn, hfl⟩ : ∃ f, d.ns[m]? = some f ∧ f.fl = f0 := by
        cases hx : d.ns[m]? with
        | none => rw [hx] at hf0'; cases hf0'
        | some f => rw [hx] at hf0'; exact ⟨f, rfl, by simpa using hf0'⟩
      subst hfl
      have hv := (H.out.below HB1.out).below HB.out
      have hf := find_mem hv.sorted (List.mem_of_getElem? hfn)
      have hrow' := own_below HROW.out HB.out
      obtain ⟨gn, cn', hE, _⟩ := own_pos hrow' (by omega)
      injection hE with e1 e2 e3
      subst e1 e3
      have hcn : wr.cell? ⟨gn, m, none⟩ = some (.string ⟨f.name.toArray⟩) := by
        rw [hrow'.cellAt m (by omega), List.getElem?_map, List.getElem?_map, hfn]
        rfl
      have hnl : f.name.length ≤ 140737488355328 := by have := nameB_len (hv.names f (find_name hf).2); omega
      obtain ⟨x0, _⟩ := hv.cell
      have hlk := hv.look f.name hnl
      rw [hf] at hlk
      unfold ptrF at hlk
      obtain ⟨y0, y1, yf, hfv⟩ := hv.file hf
      obtain ⟨Af, cf, hfs⟩ := hfv.own.form
      rw [hfs] at y0
      have HFD := Lib.hid hfv.own.byt
      rw [hfs] at HFD
      have HF0 := Lib.hid hf0
      have K0h := Lib.hid y0
      have K1h := Lib.hid y1
      have hflt : f.blk < wr.heap.size := (Array.getElem?_eq_some_iff.1 hfv.cells).1
      have HNE : Hid (¬ u3.ownBlock = some f.blk) := Lib.hid fun e => by
        obtain ⟨cs, hh⟩ := own_blk HO.out e
        exact cells_ne hfv.cells hh (by decide) rfl
      clear hv hf hfn hf0 hf0' hrow' e2 hfv hfs y0 y1
      go_wp2
      have hf0 : fr wr wr.drew := fr.refl.drew
      go_region_held3 (fun w' => w'.cell? ⟨f.blk, 0, none⟩ = some (.slice Af f.data.length cf) ∧ w'.cell? ⟨f.blk, 1, none⟩ = some (.int .i64 f.synced))
        (first
          | with_reducible exact fr.two hf0 K0h.out K1h.out
          | with_reducible exact hs3
          | with_reducible exact fr.two hf1 K0h.out K1h.out
          | with_reducible exact fr.two (fr.alloc hf1 _) K0h.out K1h.out)
        (first
          | (go_split_ands; go_at_call 89; with_reducible (refine (bcloneL_any _ (.slice Af f.data.length cf) f.data _ (fr.byt hf0 HFD.out)).mono ?_); rintro r w2 ⟨v1, rfl, hk', hb2⟩; obtain ⟨Ak', ck', rfl⟩ := slice_form hk'.byt; have hf1 := fr.step hf0 hb2)
          | (go_split_ands; refine step_append_own_at (by rfl) _ _ 68 (by rfl) w1.heap.size 76 i0 _ 3 48 Tryz.underlying68 hi hz0 hz1'.out hby.out rfl (by decide) _ _ _ (by rfl) ((own_below HO.out hf1).alloc _) ⟨w2.heap.size, 0, none⟩ 1 1 [.string ⟨f.name.toArray⟩, .slice Ak' f.data.length ck', .int .i64 f.synced] (by rfl) rfl (cells_new _ _ _) (by simp [Value.oneCell']) (by unfold maxLen; omega) (by omega) (by have := HB.out.size; have := Below.size hf1; simp; omega) ?_; intro v' w3 hown' hgrow hat; have hs3 := fr.grown (fr.alloc hf1 _) K0h.out K1h.out hgrow HNE.out))
      have hx : flR w2 (fun i => wr.heap.size ≤ i ∧ Loose w2 i) f.fl [.string ⟨f.name.toArray⟩, .slice Ak' f.data.length ck', .int .i64 f.synced] := ⟨_, rfl, hk', hnl⟩
      have hpush := OwnRows.push flFine (by rw [HMM.out]; exact HO.out) HYS.out hf1 hx HB.out.size hgrow hat (by rw [HMM.out]; exact hown')
      rw [← take_snoc HF0.out] at hpush
      have HPUSH := Lib.hid hpush
      have hbw : Below w1.heap.size w1 w3 := ((HB.out.trans (Below.mono hf1 HB.out.size)).alloc (by have := HB.out.size; have := Below.size hf1; omega) _).grown hgrow (by have := HB.out.size; have := Below.size hf1; simp; omega) (fun j e => (HO.out.lt j e).1)
      have HBW := Lib.hid hbw
      clear hpush hbw hown' hgrow hat hs3 hx hk' hf1 hb2
      go_wp2
      exact ⟨⟨m + 1, by omega, by go_num, HPUSH.out, HBW.out⟩, by simp [intOf]; omega⟩
    · obtain rfl : m = n := by omega
      go_wp2
      refine bodyPost_ret (v := u3) (by simp [results, Tryz.results33, go_sem]) rfl ?_
      have e1 : d.pk.fs.take m = d.pk.fs := List.take_of_length_le (by rw [HLN.out]; exact Nat.le_refl _)
      have hys := HYS.out
      rw [e1] at hys
      have hle := HB1.out.size
      refine ⟨u3, rfl, ⟨css, by rw [HLN.out]; exact ownsRow_base_a HO.out hle, hys.imp fun _ _ hx => flFine.keep hx fun _ _ _ _ hr => hr.mono fun i hi => ⟨Nat.le_trans hle hi.1, hi.2⟩⟩, HB1.out.trans (HB.out.mono hle)⟩
end Go.Proofs.YtjnolpfmchnnmaaGreatDoor
end
section
namespace Go.Proofs.YtjnolpfmchnnmaaGreatDoor
set_option maxRecDepth 100000
open Go.RowKit Go.BigFrame Go.Sort Go.Shelf Go.Lib Go.Maps
attribute [local go_sem ↓] Go.wp_at_zero Go.wp_at_succ
def OwnS (w : World) (base : Nat) (v : Value) (ss : List Nm) : Prop := w.ownsRow base 9 1 v ss.length (ss.map encStr)
theorem OwnS.nil (w : World) (base : Nat) : OwnS w base (.slice none 0 0) [] := World.ownsRow_nil _ _ _ _
theorem strs0 (w : World) : Strs w (fun _ => True) (.slice none 0 0) [] := ⟨_, _, rfl, Nat.le_refl _, by omega, by simp, fun h => by simp at h⟩
def listP (k : Pk) : List Nm := if k.down = true then [] else k.fs.map Fl.name
set_option maxRecDepth 100000 in
set_option maxHeartbeats 2000000 in
theorem list_any (F : Nat → Prop) (p : Nat) (k : Pk) (w : World) (h : DiskP w F p k) (hl : k.fs.length * 16 ≤ 140737488355328) :
    Calls Tryz.prog 58 #[.pointer (some ⟨p, 0, none⟩)] w fun r w' => ∃ v, r = .returned (.tuple #[v, .int .i64 (readyE k [])]) ∧ OwnS w' w.heap.size v (listP k) ∧ Below w.heap.size w w' := by
  have HR := Lib.hid (ready_any F p k (fun _ => True) _ [] w h (strs0 w) (fun y hy => by cases hy))
  obtain ⟨mb, kv, d, h, rfl⟩ := h
  have H := Lib.hid h
  clear h
  have hlen : d.ns.length * 16 ≤ 140737488355328 := by rw [← map_len]; exact hl
  cases hd : d.pk.down with
  | true =>
    have e1 : readyE d.pk [] = 20 := by unfold readyE; rw [if_pos hd]
    have e2 : listP d.pk = [] := by unfold listP; rw [if_pos hd]
    rw [e1] at HR ⊢
    rw [e2]
    clear hd e1 e2
    go_enter Tryz.func58, Tryz.ntmps58
    go_wp2_with (go_at_call 90; refine HR.out.mono ?_; rintro r w1 ⟨rfl, hb1⟩)
    refine bodyPost_ret (v := .tuple #[.slice none 0 0, .int .i64 20]) (by simp [results, Tryz.results58, go_sem]) rfl ?_
    exact ⟨_, rfl, OwnS.nil _ _, hb1⟩
  | false =>
    have e1 : readyE d.pk [] = 0 := by unfold readyE; rw [if_neg (by rw [hd]; simp)]; rfl
    have e2 : listP d.pk = d.ns.map Fd.name := by unfold listP; rw [if_neg (by rw [hd]; simp)]; show (d.ns.map Fd.fl).map Fl.name = _; rw [List.map_map]; rfl
    rw [e1] at HR ⊢
    rw [e2]
    clear hd e1 e2
    go_enter Tryz.func58, Tryz.ntmps58
    go_wp2_with (first
      | (go_at_call 90; refine HR.out.mono ?_; rintro r w1 ⟨rfl, hb1⟩)
      | (go_at_call 86; refine (names_any F p mb _ d _ (H.out.below hb1) hlen).mono ?_; rintro r w2 ⟨vn, rfl, hrow, hb2⟩))
    refine bodyPost_ret (v := .tuple #[vn, .int .i64 0]) (by simp [results, Tryz.results58, go_sem]) rfl ?_
    refine ⟨_, rfl, ?_, hb1.trans (hb2.mono hb1.size)⟩
    unfold OwnS
    rw [List.length_map]
    exact ownsRow_base_a hrow hb1.size
end Go.Proofs.YtjnolpfmchnnmaaGreatDoor
end
section
namespace Go.Proofs.YtjnolpfmchnnmaaGreatDoor
set_option maxRecDepth 100000
open Go.RowKit
structure CalmK (k : Pk) (dn : Nat) : Prop where
  ops : k.ops = -1
  room : k.room = -1
  up : k.down = false
  srt : k.fs.Pairwise fun a b => a.name < b.name
  nms : ∀ f ∈ k.fs, nameB f.name = true
  d0 : 0 ≤ k.done
  d1 : k.done ≤ dn
  few : k.fs.length ≤ dn
def fileD (k : Pk) (x : Nm) : Option (List UInt8) := (findP x k.fs).map Fl.data
def putD (D : Nm → Option (List UInt8)) (x : Nm) (c : List UInt8) : Nm → Option (List UInt8) := fun y => if y = x then some c else D y
def delD (D : Nm → Option (List UInt8)) (x : Nm) : Nm → Option (List UInt8) := fun y => if y = x then none else D y
theorem putD_same (D : Nm → Option (List UInt8)) (x : Nm) (c : List UInt8) : putD D x c x = some c := if_pos rfl
theorem putD_ne (D : Nm → Option (List UInt8)) {x y : Nm} (c : List UInt8) (h : y ≠ x) : putD D x c y = D y := if_neg h
theorem delD_ne (D : Nm → Option (List UInt8)) {x y : Nm} (h : y ≠ x) : delD D x y = D y := if_neg h
section
variable {k : Pk} {dn : Nat} {x y : Nm} {b : List UInt8}
theorem findP_name {fs : List Fl} {f : Fl} (h : findP x fs = some f) : f ∈ fs ∧ f.name = x := by
  induction fs with
  | nil => cases h
  | cons g l ih =>
    unfold findP at h
    split at h
    · injection h with h; subst h; exact ⟨List.mem_cons_self, by assumption⟩
    · exact ⟨List.mem_cons_of_mem _ (ih h).1, (ih h).2⟩
theorem findP_non {fs : List Fl} : findP x fs = none ↔ ∀ f ∈ fs, f.name ≠ x := by
  induction fs with
  | nil => exact ⟨fun _ _ h => (by cases h), fun _ => rfl⟩
  | cons g l ih =>
    unfold findP
    split
    · rename_i h
      exact ⟨fun h => (by cases h), fun h' => absurd h (h' g List.mem_cons_self)⟩
    · rename_i h
      rw [ih]
      exact ⟨fun h' f hf => (List.mem_cons.1 hf).elim (fun e => e ▸ h) (h' f), fun h' f hf => h' f (List.mem_cons_of_mem _ hf)⟩
theorem findP_upd (g : Fl → Fl) (hg : ∀ f, (g f).name = f.name) (y : Nm) (fs : List Fl) : findP y (updP x g fs) = if y = x then (findP x fs).map g else findP y fs := by
  induction fs with
  | nil => show none = _; split <;> rfl
  | cons f l ih =>
    show findP y ((if f.name = x then g f else f) :: updP x g l) = _
    by_cases hfx : f.name = x
    · rw [if_pos hfx]
      unfold findP
      rw [hg, hfx, if_pos rfl]
      by_cases hy : y = x
      · rw [if_pos hy.symm, if_pos hy]; rfl
      · rw [if_neg fun e => hy e.symm, if_neg hy, ih, if_neg hy, if_neg fun e => hy e.symm]
    · rw [if_neg hfx]
      unfold findP
      by_cases hfy : f.name = y
      · rw [if_pos hfy, if_neg (fun e => hfx (hfy.trans e))]
        rw [if_pos hfy]
      · rw [if_neg hfy, ih, if_neg hfx]
        split <;> rfl
theorem findP_ins {f : Fl} (y : Nm) {fs : List Fl} : findP y (insP f fs) = if y = f.name then some f else findP y fs := by
  induction fs with
  | nil =>
    show (if f.name = y then some f else none) = _
    by_cases h : y = f.name
    · rw [if_pos h, if_pos h.symm]
    · rw [if_neg h, if_neg fun e => h e.symm]; rfl
  | cons g l ih =>
    unfold insP
    split
    · show (if f.name = y then some f else findP y (g :: l)) = _
      by_cases h : y = f.name
      · rw [if_pos h, if_pos h.symm]
      · rw [if_neg h, if_neg fun e => h e.symm]
    · split
      · rename_i h2
        show (if f.name = y then some f else findP y l) = _
        by_cases h : y = f.name
        · rw [if_pos h, if_pos h.symm]
        · rw [if_neg h, if_neg fun e => h e.symm]
          show _ = if g.name = y then some g else findP y l
          rw [if_neg fun e => h (e.symm.trans h2.symm)]
      · rename_i h1 h2
        show (if g.name = y then some g else findP y (insP f l)) = if y = f.name then some f else if g.name = y then some g else findP y l
        rw [ih]
        by_cases h : y = f.name
        · rw [if_pos h, if_pos h, if_neg fun e => h2 (h.symm.trans e.symm)]
        · rw [if_neg h, if_neg h]
theorem findP_del (y : Nm) {fs : List Fl} : findP y (delP x fs) = if y = x then none else findP y fs := by
  induction fs with
  | nil => show none = _; split <;> rfl
  | cons g l ih =>
    unfold delP
    split
    · rename_i h
      rw [ih]
      by_cases hy : y = x
      · rw [if_pos hy, if_pos hy]
      · rw [if_neg hy, if_neg hy]
        show _ = if g.name = y then some g else findP y l
        rw [if_neg fun e => hy (e.symm.trans h)]
    · rename_i h
      show (if g.name = y then some g else findP y (delP x l)) = if y = x then none else if g.name = y then some g else findP y l
      rw [ih]
      by_cases hy : y = x
      · rw [if_pos hy, if_pos hy, if_neg fun e => h (e.trans hy)]
      · rw [if_neg hy, if_neg hy]
theorem mem_insP' {f g : Fl} {fs : List Fl} (h : g ∈ insP f fs) : g = f ∨ g ∈ fs := by
  induction fs with
  | nil => exact .inl (by simpa [insP] using h)
  | cons a l ih =>
    unfold insP at h
    split at h
    · exact (List.mem_cons.1 h).elim .inl .inr
    · split at h
      · exact (List.mem_cons.1 h).elim .inl fun h => .inr (List.mem_cons_of_mem _ h)
      · rcases List.mem_cons.1 h with h | h
        · exact .inr (h ▸ List.mem_cons_self)
        · exact (ih h).elim .inl fun h => .inr (List.mem_cons_of_mem _ h)
theorem sub_delP (x : Nm) (fs : List Fl) : (delP x fs).Sublist fs := by
  induction fs with
  | nil => exact .slnil
  | cons a l ih => unfold delP; split; exact .cons _ ih; exact .cons_cons _ ih
theorem len_insP' (f : Fl) (fs : List Fl) : (insP f fs).length ≤ fs.length + 1 := by
  induction fs with
  | nil => exact Nat.le_refl _
  | cons a l ih =>
    unfold insP
    split
    · exact Nat.le_refl _
    · split
      · simp
      · simp only [List.length_cons]; omega
theorem srt_ins' {f : Fl} {fs : List Fl} (h : fs.Pairwise fun a b => a.name < b.name) : (insP f fs).Pairwise fun a b => a.name < b.name := by
  induction fs with
  | nil => exact List.pairwise_singleton _ _
  | cons a l ih =>
    have ha := (List.pairwise_cons.1 h).1
    have hl := (List.pairwise_cons.1 h).2
    unfold insP
    split
    · rename_i h1
      refine List.pairwise_cons.2 ⟨fun x hx => ?_, h⟩
      rcases List.mem_cons.1 hx with rfl | hx
      · exact h1
      · exact List.lt_trans h1 (ha x hx)
    · split
      · rename_i h1 h2
        exact List.pairwise_cons.2 ⟨fun x hx => by show f.name < x.name; rw [h2]; exact ha x hx, hl⟩
      · rename_i h1 h2
        refine List.pairwise_cons.2 ⟨fun x hx => ?_, ih hl⟩
        rcases mem_insP' hx with rfl | hx
        · exact lt_tri _ _ h1 h2
        · exact ha x hx
theorem srt_upd' {g : Fl → Fl} (hg : ∀ f, (g f).name = f.name) {fs : List Fl} (h : fs.Pairwise fun a b => a.name < b.name) : (updP x g fs).Pairwise fun a b => a.name < b.name := by
  unfold updP
  rw [List.pairwise_map]
  refine h.imp fun {a b} hab => ?_
  have e : ∀ f : Fl, (if f.name = x then g f else f).name = f.name := fun f => by split <;> simp [hg]
  rw [e, e]
  exact hab
theorem nms_upd {g : Fl → Fl} (hg : ∀ f, (g f).name = f.name) {fs : List Fl} (h : ∀ f ∈ fs, nameB f.name = true) : ∀ f ∈ updP x g fs, nameB f.name = true := fun f hf => by
  obtain ⟨f', hf', rfl⟩ := List.mem_map.1 hf
  split
  · rw [hg]; exact h f' hf'
  · exact h f' hf'
theorem CalmK.crash (h : CalmK k dn) : crashes k = false := by unfold crashes; rw [h.ops]; rfl
theorem CalmK.change (h : CalmK k dn) : changeK k = { k with done := k.done + 1 } := by unfold changeK; rw [h.crash]; rfl
theorem CalmK.changeE (h : CalmK k dn) : changeE k = 0 := by unfold _root_.Go.Proofs.YtjnolpfmchnnmaaGreatDoor.changeE; rw [h.crash]; rfl
theorem CalmK.ready (h : CalmK k dn) (hx : nameB x = true) : readyE k [x] = if (fileD k x).isNone = true then 22 else 0 := by
  unfold readyE fileD
  rw [h.up, if_neg (by decide)]
  simp only [List.all_cons, List.all_nil, hx, Bool.and_true]
  rw [if_neg (by decide), Option.isNone_map]
theorem CalmK.ready0 (h : CalmK k dn) : readyE k [] = 0 := by
  unfold readyE
  rw [h.up]
  rfl
theorem CalmK.ready2 (h : CalmK k dn) (hx : nameB x = true) (hy : nameB y = true) : readyE k [x, y] = if (fileD k x).isNone = true then 22 else 0 := by
  unfold readyE fileD
  rw [h.up, if_neg (by decide)]
  simp only [List.all_cons, List.all_nil, hx, hy, Bool.and_true]
  rw [if_neg (by decide), Option.isNone_map]
theorem CalmK.ready_none (h : CalmK k dn) (hx : nameB x = true) (hf : fileD k x = none) : readyE k [x] = 22 := by rw [h.ready hx, hf]; rfl
theorem CalmK.ready_some (h : CalmK k dn) (hx : nameB x = true) {c : List UInt8} (hf : fileD k x = some c) : readyE k [x] = 0 := by rw [h.ready hx, hf]; rfl
theorem CalmK.mono (h : CalmK k dn) {dn' : Nat} (hd : dn ≤ dn') : CalmK k dn' := ⟨h.ops, h.room, h.up, h.srt, h.nms, h.d0, by have := h.d1; omega, by have := h.few; omega⟩
theorem CalmK.append (h : CalmK k dn) (hx : nameB x = true) (b : List UInt8) : appendE k x b = 0 ∧ CalmK (appendK k x b) (dn + 1) ∧ fileD (appendK k x b) = putD (fileD k) x ((fileD k x).getD [] ++ b) := by
  have hr : readyE k [x] = 0 ∨ readyE k [x] = 22 := by rw [h.ready hx]; split <;> simp
  have hf : fullP k b.length = false := by unfold fullP; rw [h.room]; rfl
  refine ⟨by unfold appendE; rw [if_pos hr, hf]; exact h.changeE, ?_, ?_⟩
  · unfold appendK
    rw [if_pos hr, hf, h.crash, h.change, if_neg (by decide), if_neg (by decide)]
    refine ⟨h.ops, h.room, h.up, ?_, ?_, by have := h.d0; show 0 ≤ k.done + 1; omega, by have := h.d1; show k.done + 1 ≤ _; omega, ?_⟩
    · show (appFs x b k.fs).Pairwise _
      unfold appFs
      refine srt_upd' (g := fun f => { f with data := f.data ++ b }) (fun _ => rfl) ?_
      split
      · exact h.srt
      · exact srt_ins' h.srt
    · show ∀ f ∈ appFs x b k.fs, _
      unfold appFs
      refine nms_upd (g := fun f => { f with data := f.data ++ b }) (fun _ => rfl) ?_
      split
      · exact h.nms
      · exact fun f hf => (mem_insP' hf).elim (fun e => by rw [e]; exact hx) (h.nms f)
    · show (appFs x b k.fs).length ≤ _
      have := h.few
      unfold appFs updP
      rw [List.length_map]
      split
      · omega
      · have := len_insP' ⟨x, [], 0⟩ k.fs; omega
  · have e : (appendK k x b).fs = appFs x b k.fs := by
      unfold appendK
      rw [if_pos hr, hf, h.crash, if_neg (by decide), if_neg (by decide)]
    funext y
    unfold fileD putD
    rw [e]
    unfold appFs
    rw [findP_upd (fun f => { f with data := f.data ++ b }) (fun _ => rfl)]
    by_cases hy : y = x
    · subst hy
      rw [if_pos rfl, if_pos rfl]
      cases hq : findP y k.fs with
      | none => rw [if_neg (by simp), findP_ins, if_pos rfl]; rfl
      | some f => rw [if_pos (by simp), hq]; rfl
    · rw [if_neg hy, if_neg hy]
      split
      · rfl
      · rw [findP_ins, if_neg hy]
theorem CalmK.sync (h : CalmK k dn) (hx : nameB x = true) {c : List UInt8} (hf : fileD k x = some c) : syncE k x = 0 ∧ CalmK (syncK k x) (dn + 1) ∧ fileD (syncK k x) = fileD k := by
  have hr := h.ready_some hx hf
  refine ⟨by unfold syncE; rw [if_pos hr]; exact h.changeE, ?_, ?_⟩
  · unfold syncK
    rw [if_pos hr, h.crash, h.change, if_neg (by decide)]
    exact ⟨h.ops, h.room, h.up, srt_upd' (g := fun f => { f with synced := f.data.length }) (fun _ => rfl) h.srt, nms_upd (g := fun f => { f with synced := f.data.length }) (fun _ => rfl) h.nms, by have := h.d0; show 0 ≤ k.done + 1; omega, by have := h.d1; show k.done + 1 ≤ _; omega, by have := h.few; show (updP _ _ _).length ≤ _; unfold updP; rw [List.length_map]; exact Nat.le_succ_of_le this⟩
  · unfold syncK
    rw [if_pos hr, h.crash, h.change, if_neg (by decide)]
    funext y
    unfold fileD
    show (findP y (updP x _ k.fs)).map Fl.data = _
    rw [findP_upd (fun f => { f with synced := f.data.length }) (fun _ => rfl)]
    by_cases hy : y = x
    · rw [if_pos hy, hy]; cases findP x k.fs <;> rfl
    · rw [if_neg hy]
theorem CalmK.delete (h : CalmK k dn) (hx : nameB x = true) {c : List UInt8} (hf : fileD k x = some c) : syncE k x = 0 ∧ CalmK (deleteK k x) (dn + 1) ∧ fileD (deleteK k x) = delD (fileD k) x := by
  have hr := h.ready_some hx hf
  refine ⟨by unfold syncE; rw [if_pos hr]; exact h.changeE, ?_, ?_⟩
  · unfold deleteK
    rw [if_pos hr, h.crash, h.change, if_neg (by decide)]
    exact ⟨h.ops, h.room, h.up, h.srt.sublist (sub_delP x _), fun f hf => h.nms f ((sub_delP x _).subset hf), by have := h.d0; show 0 ≤ k.done + 1; omega, by have := h.d1; show k.done + 1 ≤ _; omega, by have := h.few; have := (sub_delP x k.fs).length_le; show (delP x k.fs).length ≤ _; omega⟩
  · unfold deleteK
    rw [if_pos hr, h.crash, h.change, if_neg (by decide)]
    funext y
    unfold fileD delD
    show (findP y (delP x k.fs)).map Fl.data = _
    rw [findP_del]
    split <;> rfl
theorem CalmK.rename (h : CalmK k dn) (hx : nameB x = true) (hy : nameB y = true) (hxy : x ≠ y) {c : List UInt8} (hf : fileD k x = some c) : renameE k x y = 0 ∧ CalmK (renameK k x y) (dn + 1) ∧ fileD (renameK k x y) = putD (delD (fileD k) x) y c := by
  have hr : readyE k [x, y] = 0 := by rw [h.ready2 hx hy, hf]; rfl
  obtain ⟨f, hq, hfc⟩ : ∃ f, findP x k.fs = some f ∧ f.data = c := by
    unfold fileD at hf
    cases hq : findP x k.fs with
    | none => rw [hq] at hf; cases hf
    | some f => rw [hq] at hf; injection hf with hf; exact ⟨f, rfl, hf⟩
  have hq2 : renFs x y k.fs = insP { f with name := y } (delP x k.fs) := by unfold renFs; rw [hq]
  refine ⟨by unfold renameE; rw [if_pos hr]; exact h.changeE, ?_, ?_⟩
  · unfold renameK
    rw [if_pos hr, h.crash, h.change, if_neg (by decide), if_neg hxy]
    refine ⟨h.ops, h.room, h.up, ?_, ?_, by have := h.d0; show 0 ≤ k.done + 1; omega, by have := h.d1; show k.done + 1 ≤ _; omega, ?_⟩
    · show (renFs x y k.fs).Pairwise _
      rw [hq2]
      exact srt_ins' (h.srt.sublist (sub_delP x _))
    · show ∀ g ∈ renFs x y k.fs, _
      rw [hq2]
      exact fun g hg => (mem_insP' hg).elim (fun e => by rw [e]; exact hy) fun hg => h.nms g ((sub_delP x _).subset hg)
    · show (renFs x y k.fs).length ≤ _
      rw [hq2]
      have h1 := len_insP' { f with name := y } (delP x k.fs)
      have h2 := (sub_delP x k.fs).length_le
      have := h.few
      omega
  · unfold renameK
    rw [if_pos hr, h.crash, h.change, if_neg (by decide), if_neg hxy]
    funext z
    unfold fileD putD delD
    show (findP z (renFs x y k.fs)).map Fl.data = _
    rw [hq2, findP_ins]
    by_cases hz : z = y
    · rw [if_pos hz, if_pos hz]; simp [hfc]
    · rw [if_neg hz, if_neg hz, findP_del]
      split <;> rfl
theorem fileD_readD : readD k x = (fileD k x).getD [] := by
  unfold readD fileD
  cases findP x k.fs <;> rfl
theorem CalmK.list (h : CalmK k dn) : listP k = k.fs.map Fl.name := by unfold listP; rw [h.up]; rfl
theorem CalmK.listSorted (h : CalmK k dn) : (listP k).Pairwise fun a b => a < b := by
  rw [h.list, List.pairwise_map]
  exact h.srt
theorem CalmK.mem_list (h : CalmK k dn) : x ∈ listP k ↔ (fileD k x).isSome = true := by
  rw [h.list]
  unfold fileD
  rw [Option.isSome_map]
  constructor
  · intro hx
    obtain ⟨f, hf, e⟩ := List.mem_map.1 hx
    cases hq : findP x k.fs with
    | some f => rfl
    | none => exact absurd e (findP_non.1 hq f hf)
  · intro hx
    cases hq : findP x k.fs with
    | none => rw [hq] at hx; cases hx
    | some f => exact List.mem_map.2 ⟨f, (findP_name hq).1, (findP_name hq).2⟩
theorem CalmK.name_ok (h : CalmK k dn) (hx : (fileD k x).isSome = true) : nameB x = true := by
  have := h.mem_list.2 hx
  rw [h.list] at this
  obtain ⟨f, hf, rfl⟩ := List.mem_map.1 this
  exact h.nms f hf
end
end Go.Proofs.YtjnolpfmchnnmaaGreatDoor
end
section
namespace Go.Proofs.YtjnolpfmchnnmaaGreatDoor
set_option maxRecDepth 100000
open Go.RowKit Go.BigFrame Go.Sort Go.Shelf Go.Lib
def digB (b : UInt8) : Bool := decide (48 ≤ b.toNat) && decide (b.toNat ≤ 57)
def lowB (b : UInt8) : Bool := decide (97 ≤ b.toNat) && decide (b.toNat ≤ 122)
def sufW : Nm := [46, 108, 111, 103]
def dig6 (n : Nat) : Nm := [dg n 5, dg n 4, dg n 3, dg n 2, dg n 1, dg n 0]
def nameW (pre : Nm) (n : Nat) : Nm := pre ++ dig6 n ++ sufW
theorem dg_add (n : Nat) {j : Nat} (h : j < 6) : dg (n + 1000000) j = dg n j := by
  have e : (n + 1000000) / 10 ^ j % 10 = n / 10 ^ j % 10 := by
    rcases (by omega : j = 0 ∨ j = 1 ∨ j = 2 ∨ j = 3 ∨ j = 4 ∨ j = 5) with rfl | rfl | rfl | rfl | rfl | rfl <;> (simp only [Nat.reducePow]; omega)
  unfold dg
  rw [e]
theorem dg_top {n : Nat} (h : n < 1000000) : dg (n + 1000000) 6 = 49 := by
  have e : (n + 1000000) / 10 ^ 6 % 10 = 1 := by simp only [Nat.reducePow]; omega
  unfold dg
  rw [e]
  rfl
theorem itoa_dig6 {n : Nat} (h : n < 1000000) : Lib.itoa ((n + 1000000 : Nat) : Int) = 49 :: dig6 n := by
  have h6 : (10 : Nat) ^ 6 = 1000000 := by decide
  have h7 : (10 : Nat) ^ (6 + 1) = 10000000 := by decide
  unfold Lib.itoa
  rw [if_neg (by omega), Int.toNat_natCast, decDigits_eq, nDigits_unique 6 (n + 1000000) (by omega) (by omega)]
  show [dg (n + 1000000) 6, dg (n + 1000000) 5, dg (n + 1000000) 4, dg (n + 1000000) 3, dg (n + 1000000) 2, dg (n + 1000000) 1, dg (n + 1000000) 0] = _
  rw [dg_top h, dg_add n (by omega), dg_add n (by omega), dg_add n (by omega), dg_add n (by omega), dg_add n (by omega), dg_add n (by omega)]
  rfl
def segNo (pre x : Nm) : Nat :=
  if pre.isPrefixOf x = true then (if sufW.isSuffixOf (x.drop pre.length) = true then (if (x.drop pre.length).length = 10 then (if ((x.drop pre.length).take 6).all digB = true then ((Lib.decNat ((x.drop pre.length).take 6)).getD 0) else 0) else 0) else 0) else 0
theorem dg_toNat (n j : Nat) : (dg n j).toNat = 48 + n / 10 ^ j % 10 := by
  unfold dg
  simp
  omega
theorem dig6_ok (n : Nat) : (dig6 n).all digB = true := by
  unfold dig6 digB
  simp only [List.all_cons, List.all_nil, dg_toNat, Bool.and_true, Bool.and_eq_true, decide_eq_true_eq]
  omega
theorem digitVal_dg (n j : Nat) : Lib.digitVal (dg n j) = some (n / 10 ^ j % 10) := by
  unfold Lib.digitVal
  rw [dg_toNat, if_pos (by omega)]
  simp
theorem dec_dig6 {n : Nat} (h : n < 1000000) : Lib.decNat (dig6 n) = some n := by
  unfold Lib.decNat dig6
  simp only [List.isEmpty_cons, Bool.false_eq_true, if_false, Lib.decFrom, digitVal_dg]
  congr 1
  omega
theorem seg_nameW (pre : Nm) {n : Nat} (h : n < 1000000) : segNo pre (nameW pre n) = n := by
  have hd : (nameW pre n).drop pre.length = dig6 n ++ sufW := by unfold nameW; rw [List.append_assoc, List.drop_left]
  have h1 : pre.isPrefixOf (nameW pre n) = true := List.isPrefixOf_iff_prefix.2 ⟨dig6 n ++ sufW, by unfold nameW; rw [List.append_assoc]⟩
  have h2 : sufW.isSuffixOf (dig6 n ++ sufW) = true := List.isSuffixOf_iff_suffix.2 ⟨_, rfl⟩
  unfold segNo
  rw [if_pos h1, hd, if_pos h2, if_pos (show (dig6 n ++ sufW).length = 10 from rfl), show (dig6 n ++ sufW).take 6 = dig6 n from rfl, if_pos (dig6_ok n), dec_dig6 h]
  rfl
theorem atoi_dig {l : Nm} (h : l.all digB = true) (h0 : l ≠ []) : ∃ m, Lib.decNat l = some m ∧ Lib.atoi l = some (m : Int) := by
  have hd : ∀ (l : Nm) (acc : Nat), l.all digB = true → ∃ m, Lib.decFrom acc l = some m := by
    intro l
    induction l with
    | nil => intro acc _; exact ⟨acc, rfl⟩
    | cons b r ih =>
      intro acc h
      rw [List.all_cons, Bool.and_eq_true] at h
      have hb : 48 ≤ b.toNat ∧ b.toNat ≤ 57 := by simpa [digB] using h.1
      unfold Lib.decFrom
      rw [show Lib.digitVal b = some (b.toNat - 48) from by unfold Lib.digitVal; rw [if_pos hb]]
      exact ih _ h.2
  match l, h0 with
  | b :: r, _ =>
    obtain ⟨m, hm⟩ := hd (b :: r) 0 h
    have hb : 48 ≤ b.toNat ∧ b.toNat ≤ 57 := by
      rw [List.all_cons, Bool.and_eq_true] at h
      simpa [digB] using h.1
    have e : Lib.decNat (b :: r) = some m := by unfold Lib.decNat; simpa using hm
    refine ⟨m, e, ?_⟩
    have n1 : (b == 45) = false := by
      apply Bool.eq_false_iff.2
      intro hc
      rw [beq_iff_eq] at hc
      subst hc
      exact absurd hb.1 (by decide)
    have n2 : (b == 43) = false := by
      apply Bool.eq_false_iff.2
      intro hc
      rw [beq_iff_eq] at hc
      subst hc
      exact absurd hb.1 (by decide)
    simp [Lib.atoi, n1, n2, e]
theorem decNat_lt {z : Nm} (h6 : z.length = 6) (hd : z.all digB = true) : (Lib.decNat z).getD 0 < 1000000 := by
  match z, h6 with
  | [a, b, c, d, e, f], _ =>
    simp only [List.all_cons, List.all_nil, Bool.and_true, Bool.and_eq_true] at hd
    have hv : ∀ x : UInt8, digB x = true → Lib.digitVal x = some (x.toNat - 48) ∧ x.toNat - 48 ≤ 9 := fun x h => by
      have : 48 ≤ x.toNat ∧ x.toNat ≤ 57 := by simpa [digB] using h
      exact ⟨by unfold Lib.digitVal; rw [if_pos this], by omega⟩
    obtain ⟨ha, hb, hc, hd, he, hf⟩ := hd
    obtain ⟨ha, la⟩ := hv a ha
    obtain ⟨hb, lb⟩ := hv b hb
    obtain ⟨hc, lc⟩ := hv c hc
    obtain ⟨hd, ld⟩ := hv d hd
    obtain ⟨he, le⟩ := hv e he
    obtain ⟨hf, lf⟩ := hv f hf
    unfold Lib.decNat
    simp only [List.isEmpty_cons, Bool.false_eq_true, if_false, Lib.decFrom, ha, hb, hc, hd, he, hf, Option.getD_some]
    omega
end Go.Proofs.YtjnolpfmchnnmaaGreatDoor
end
section
namespace Go.Proofs.YtjnolpfmchnnmaaGreatDoor
set_option maxRecDepth 100000
open Go.RowKit Go.BigFrame Go.Sort Go.Shelf Go.Lib Go.Maps
def DkP (w : World) (base p : Nat) (k : Pk) : Prop := ∃ F, DiskP w F p k ∧ ∀ i, F i → base ≤ i ∧ i < w.heap.size
theorem DkP.made {w : World} {F : Nat → Prop} {base p : Nat} {k : Pk} (h : DiskP w F p k) (hF : ∀ i, F i → i < w.heap.size → base ≤ i) : DkP w base p k :=
  ⟨fun i => base ≤ i ∧ i < w.heap.size, h.mono fun i hi hl => ⟨hF i hi hl, hl⟩, fun _ hi => hi⟩
section
variable {w w2 : World} {base p : Nat} {k : Pk}
theorem new_dk (S : Nat → Prop) (ops room : Int) (v : Value) (zs : List Int) (w : World) (hz : IntsIn w S v zs) (hl : zs.length * 8 ≤ 140737488355328) (base : Nat) (hbase : base ≤ w.heap.size) :
    Calls Tryz.prog 15 #[.agg #[.int .i64 ops, .int .i64 room, v]] w fun r w' => ∃ p, r = .returned (.pointer (some ⟨p, 0, none⟩)) ∧ DkP w' base p ⟨[], ops, room, zs, 0, 0, false⟩ ∧ Below w.heap.size w w' := by
  refine (new_any S ops room v zs w hz hl).mono ?_
  rintro r w' ⟨p, rfl, h, hb⟩
  exact ⟨p, rfl, .made h fun i hi _ => Nat.le_trans hbase hi, hb⟩
end
end Go.Proofs.YtjnolpfmchnnmaaGreatDoor
end
section
namespace Go.Proofs.YtjnolpfmchnnmaaGreatDoor
set_option maxRecDepth 100000
open Go.RowKit Go.BigFrame Go.Sort Go.Shelf Go.Lib
attribute [local go_sem ↓] Go.wp_at_zero Go.wp_at_succ
def TabW (w : World) : Prop := Lib.TabIs Tryz.prog w "internal/strconv.uint64pow10" .u64 Lib.pow10Tab
def tabG : Nat := 3
theorem gTab : Tryz.prog.globalNamed "internal/strconv.uint64pow10" = some tabG := by kernel_rfl
theorem TabW.lt {w : World} (h : TabW w) : tabG < w.heap.size := by
  unfold TabW Lib.TabIs World.var? at h
  rw [gTab, Option.bind_some] at h
  rcases Nat.lt_or_ge tabG w.heap.size with h' | h'
  · exact h'
  · rw [Array.getElem?_eq_none h'] at h; cases h
theorem TabW.only {w w' : World} {S : Nat → Prop} (h : TabW w) (ho : Only S w w') (hS : ∀ i, S i → tabG < i) : TabW w' := by
  have hz := h.lt
  unfold TabW Lib.TabIs World.var? at h ⊢
  rw [gTab, Option.bind_some] at h ⊢
  rw [ho.block tabG hz fun hs => by have := hS tabG hs; omega]
  exact h
theorem TabW.below {w w' : World} (h : TabW w) (hf : fr w w') : TabW w' := h.only (S := fun _ => False) (Only.of_below hf) fun _ h => h.elim
theorem fr_grow (w : World) (k : Nat) (os : Array Obj) : fr w (Sort.grow (w.drewN k) os) := ⟨rfl, rfl, rfl, by simp [Sort.grow, World.drewN], fun i hi => by
  show (w.heap ++ os)[i]? = _
  rw [Array.getElem?_append_left hi]⟩
end Go.Proofs.YtjnolpfmchnnmaaGreatDoor
end
section
namespace Go.Proofs.YtjnolpfmchnnmaaGreatDoor
set_option maxRecDepth 100000
open Go.RowKit Go.BigFrame
def DkC (w : World) (F : Nat → Prop) (p dn : Nat) (D : Nm → Option (List UInt8)) : Prop :=
  (∀ i, F i → i < w.heap.size ∧ tabG < i) ∧ ∃ k, DiskP w F p k ∧ CalmK k dn ∧ fileD k = D
def Spread (n : Nat) (F F' : Nat → Prop) : Prop := ∀ i, F' i → F i ∨ n ≤ i
theorem Spread.refl (n : Nat) (F : Nat → Prop) : Spread n F F := fun _ h => .inl h
theorem Spread.trans {n m : Nat} {F F' F'' : Nat → Prop} (h : Spread n F F') (g : Spread m F' F'') (hn : n ≤ m) : Spread n F F'' := fun i hi => (g i hi).elim (h i) fun hm => .inr (Nat.le_trans hn hm)
theorem Spread.low {n m : Nat} {F F' : Nat → Prop} (h : Spread n F F') (hn : m ≤ n) : Spread m F F' := fun i hi => (h i hi).imp id (Nat.le_trans hn)
section
variable {w w' : World} {F : Nat → Prop} {p dn : Nat} {D : Nm → Option (List UInt8)} {x y : Nm} {c : List UInt8}
theorem DkC.lies (h : DkC w F p dn D) : ∀ i, F i → i < w.heap.size ∧ tabG < i := h.1
theorem DkC.below (h : DkC w F p dn D) (hf : fr w w') : DkC w' F p dn D := by
  obtain ⟨h0, k, h1, h2⟩ := h
  exact ⟨fun i hi => ⟨Nat.lt_of_lt_of_le (h0 i hi).1 (Below.size hf), (h0 i hi).2⟩, k, h1.below hf, h2⟩
theorem DkC.only {S : Nat → Prop} (h : DkC w F p dn D) (ho : Only S w w') (hS : ∀ i, S i → ¬ F i) : DkC w' F p dn D := by
  obtain ⟨h0, k, h1, h2⟩ := h
  exact ⟨fun i hi => ⟨Nat.lt_of_lt_of_le (h0 i hi).1 ho.size, (h0 i hi).2⟩, k, h1.only ho hS, h2⟩
theorem DkC.mono (h : DkC w F p dn D) {dn' : Nat} (hd : dn ≤ dn') : DkC w F p dn' D := by
  obtain ⟨h0, k, h1, h2, h3⟩ := h
  exact ⟨h0, k, h1, h2.mono hd, h3⟩
theorem nmLong (h : nameB x = true) : x.length ≤ 140737488355328 := by
  unfold nameB at h
  simp only [Bool.and_eq_true, decide_eq_true_eq] at h
  omega
theorem DkC.name (h : DkC w F p dn D) (hf : D x = some c) : nameB x = true := by
  obtain ⟨h0, k, h1, h2, h3⟩ := h
  exact h2.name_ok (by rw [h3, hf]; rfl)
theorem cread_some (h : DkC w F p dn D) (hf : D x = some c) :
    Calls Tryz.prog 64 #[.pointer (some ⟨p, 0, none⟩), .string ⟨x.toArray⟩] w fun r w' => ∃ v, r = .returned (.tuple #[v, .int .i64 0]) ∧ BytL w' w.heap.size v c ∧ fr w w' := by
  have hx := h.name hf
  obtain ⟨h0, k, h1, h2, h3⟩ := h
  subst h3
  refine (read_any F p k x w h1 (nmLong hx)).mono ?_
  rintro r w' ⟨v, rfl, hv, hb⟩
  rw [h2.ready_some hx hf, if_pos rfl, fileD_readD, hf] at hv
  rw [h2.ready_some hx hf]
  exact ⟨v, rfl, hv, hb⟩
theorem cread_none (h : DkC w F p dn D) (hx : nameB x = true) (hf : D x = none) :
    Calls Tryz.prog 64 #[.pointer (some ⟨p, 0, none⟩), .string ⟨x.toArray⟩] w fun r w' => ∃ v, r = .returned (.tuple #[v, .int .i64 22]) ∧ BytL w' w.heap.size v [] ∧ fr w w' := by
  obtain ⟨h0, k, h1, h2, h3⟩ := h
  subst h3
  refine (read_any F p k x w h1 (nmLong hx)).mono ?_
  rintro r w' ⟨v, rfl, hv, hb⟩
  rw [h2.ready_none hx hf, if_neg (by decide)] at hv
  rw [h2.ready_none hx hf]
  exact ⟨v, rfl, hv, hb⟩
theorem clist (h : DkC w F p dn D) (hd : dn ≤ 4398046511104) :
    Calls Tryz.prog 58 #[.pointer (some ⟨p, 0, none⟩)] w fun r w' => ∃ v l, r = .returned (.tuple #[v, .int .i64 0]) ∧ OwnS w' w.heap.size v l ∧ (l.Pairwise fun a b => a < b) ∧ (∀ x, x ∈ l ↔ (D x).isSome = true) ∧ l.length ≤ dn ∧ fr w w' := by
  obtain ⟨h0, k, h1, h2, h3⟩ := h
  subst h3
  refine (list_any F p k w h1 (by have := h2.few; omega)).mono ?_
  rintro r w' ⟨v, rfl, hv, hb⟩
  rw [h2.ready0]
  refine ⟨v, _, rfl, hv, h2.listSorted, fun x => h2.mem_list, ?_, hb⟩
  rw [h2.list, List.length_map]
  exact h2.few
theorem cappend (S : Nat → Prop) (v : Value) (b : List UInt8) (h : DkC w F p dn D) (ht : TabW w) (hx : nameB x = true) (hv : Byt w S v b) (hS : ∀ i, S i → ¬ F i) (hl : ((D x).getD []).length + b.length ≤ 140737488355328) (hd : dn ≤ 4398046511104) :
    Calls Tryz.prog 35 #[.pointer (some ⟨p, 0, none⟩), .string ⟨x.toArray⟩, v] w fun r w' => r = .returned (.int .i64 0) ∧ (∃ F', Spread w.heap.size F F' ∧ DkC w' F' p (dn + 1) (putD D x ((D x).getD [] ++ b))) ∧ Only F w w' := by
  obtain ⟨h0, k, h1, h2, h3⟩ := h
  subst h3
  obtain ⟨a1, a2, a3⟩ := h2.append hx b
  refine (append_any F p k x S v b w h1 hv hS (nmLong hx) h2.d0 (by have := h2.d1; omega) (fun f hf => ?_) (by have := h2.few; omega)).mono ?_
  · have e : fileD k x = some f.data := by unfold fileD; rw [hf]; rfl
    rw [e] at hl
    exact hl
  · rintro r w' ⟨rfl, hk, ho⟩
    rw [a1]
    refine ⟨rfl, ⟨fun i => (F i ∨ w.heap.size ≤ i) ∧ i < w'.heap.size, fun i hi => hi.1, fun i hi => ⟨hi.2, ?_⟩, _, hk.mono fun i hi hlt => ⟨hi, hlt⟩, a2, a3⟩, ho⟩
    have := ht.lt
    rcases hi.1 with h | h
    · exact (h0 i h).2
    · omega
theorem csync (h : DkC w F p dn D) (hf : D x = some c) (hd : dn ≤ 4398046511104) :
    Calls Tryz.prog 70 #[.pointer (some ⟨p, 0, none⟩), .string ⟨x.toArray⟩] w fun r w' => r = .returned (.int .i64 0) ∧ DkC w' F p (dn + 1) D ∧ Only F w w' := by
  have hx := h.name hf
  obtain ⟨h0, k, h1, h2, h3⟩ := h
  subst h3
  obtain ⟨a1, a2, a3⟩ := h2.sync hx hf
  refine (sync_any F p k x w h1 (nmLong hx) h2.d0 (by have := h2.d1; omega)).mono ?_
  rintro r w' ⟨rfl, hk, ho⟩
  rw [a1]
  exact ⟨rfl, ⟨fun i hi => ⟨Nat.lt_of_lt_of_le (h0 i hi).1 ho.size, (h0 i hi).2⟩, _, hk, a2, a3⟩, ho⟩
theorem cdelete (h : DkC w F p dn D) (hf : D x = some c) (hd : dn ≤ 4398046511104) :
    Calls Tryz.prog 62 #[.pointer (some ⟨p, 0, none⟩), .string ⟨x.toArray⟩] w fun r w' => r = .returned (.int .i64 0) ∧ DkC w' F p (dn + 1) (delD D x) ∧ Only F w w' := by
  have hx := h.name hf
  obtain ⟨h0, k, h1, h2, h3⟩ := h
  subst h3
  obtain ⟨a1, a2, a3⟩ := h2.delete hx hf
  refine (delete_any F p k x w h1 (nmLong hx) h2.d0 (by have := h2.d1; omega)).mono ?_
  rintro r w' ⟨rfl, hk, ho⟩
  rw [a1]
  exact ⟨rfl, ⟨fun i hi => ⟨Nat.lt_of_lt_of_le (h0 i hi).1 ho.size, (h0 i hi).2⟩, _, hk, a2, a3⟩, ho⟩
theorem crename (h : DkC w F p dn D) (hy : nameB y = true) (hxy : x ≠ y) (hf : D x = some c) (hd : dn ≤ 4398046511104) :
    Calls Tryz.prog 72 #[.pointer (some ⟨p, 0, none⟩), .string ⟨x.toArray⟩, .string ⟨y.toArray⟩] w fun r w' => r = .returned (.int .i64 0) ∧ DkC w' F p (dn + 1) (putD (delD D x) y c) ∧ Only F w w' := by
  have hx := h.name hf
  obtain ⟨h0, k, h1, h2, h3⟩ := h
  subst h3
  obtain ⟨a1, a2, a3⟩ := h2.rename hx hy hxy hf
  refine (rename_any F p k x y w h1 (nmLong hx) (nmLong hy) h2.d0 (by have := h2.d1; omega) (by have := h2.few; omega)).mono ?_
  rintro r w' ⟨rfl, hk, ho⟩
  rw [a1]
  exact ⟨rfl, ⟨fun i hi => ⟨Nat.lt_of_lt_of_le (h0 i hi).1 ho.size, (h0 i hi).2⟩, _, hk, a2, a3⟩, ho⟩
theorem DkC.tab (h : DkC w F p dn D) (ht : TabW w) (ho : Only F w w') : TabW w' := ht.only ho fun i hi => (h.1 i hi).2
end
end Go.Proofs.YtjnolpfmchnnmaaGreatDoor
end
section
namespace Go.Proofs.YtjnolpfmchnnmaaGreatDoor
set_option maxRecDepth 100000
open Go.RowKit Go.BigFrame Go.Shelf
abbrev mkV (i : Int) : Value := .agg #[.int .i64 i]
theorem mk_map : Tryz.prog.underlying 211 = some (.map 213 4) := by kernel_rfl
theorem mk_und : Tryz.prog.underlying 213 = some (.struct (Tryz.prog.fieldsOf 213)) := by kernel_rfl
theorem mk_check (e : Bool) (i : Int) (w : World) : (Instr.checkKey e 10000 213 (mkV i)).run Tryz.prog w = .ok () w := by kernel_rfl
theorem mk_flds : (Tryz.prog.fieldsOf 213).toList.map (fun f => (f.name, f.type, f.offset)) = [("id", 3, 0)] := by kernel_rfl
theorem mk_equal (i a : Int) (w : World) : (Op.equal 213 (mkV i) (mkV a)).run Tryz.prog w = .ok (i == a) w := by
  have hs : Tryz.prog.stoodInHeld 213 = false := by kernel_rfl
  have e : (Op.equal 213 (mkV i) (mkV a)).run Tryz.prog w = (Op.eqFields 9999 #[.int .i64 i] #[.int .i64 a] (Tryz.prog.fieldsOf 213).toList).run Tryz.prog w := run_equalIn_struct w 9999 213 _ _ mk_und hs
  rw [e]
  have hf := mk_flds
  obtain ⟨f1, he⟩ : ∃ f1, (Tryz.prog.fieldsOf 213).toList = [f1] := by
    match h : (Tryz.prog.fieldsOf 213).toList with
    | [f1] => exact ⟨f1, rfl⟩
    | [] => rw [h] at hf; simp at hf
    | _ :: _ :: _ => rw [h] at hf; simp at hf
  rw [he] at hf ⊢
  simp only [List.map_cons, List.map_nil, List.cons.injEq, Prod.mk.injEq, and_true] at hf
  obtain ⟨n1, t1, o1⟩ := hf
  have p1 : ∀ (x : Int) (W : World), (part f1.type #[.int .i64 x] f1.offset).run Tryz.prog W = .ok (.int .i64 x) W := fun x W => by rw [t1, o1]; kernel_rfl
  have q1 : ∀ (W : World), (Op.equalIn 9999 3 (.int .i64 i) (.int .i64 a)).run Tryz.prog W = .ok (i == a) W := fun W => by
    rw [run_equalIn_int W 9998 3 .i64 .i64 i a Tryz.underlying3]
  rw [t1] at p1
  cases hb : (i == a) <;> simp [Op.eqFields, n1, p1, t1, q1, hb, Result.andThen]
theorem Only.cellOf {S : Nat → Prop} {a b : World} (h : Only S a b) {B i : Nat} {v : Value} (hc : a.cell? ⟨B, i, none⟩ = some v) (hS : ¬ S B) : b.cell? ⟨B, i, none⟩ = some v := by
  have hB := World.block_lt_of_cell? _ _ hc
  unfold World.cell? at hc ⊢
  rw [h.block B hB hS]
  exact hc
def MarkV (w : World) (M : Nat) (ids : List Int) : Prop := ∃ (es : Array MapEntry) (c : Nat), w.heap[M]? = some (.map es c) ∧ es.toList.map (fun e => (e.key, e.val)) = ids.map fun i => (mkV i, Value.bool true)
theorem MarkV.only {w w' : World} {M : Nat} {ids : List Int} {S : Nat → Prop} (h : MarkV w M ids) (ho : Only S w w') (hS : ¬ S M) : MarkV w' M ids := by
  obtain ⟨es, c, h1, h2⟩ := h
  exact ⟨es, c, (ho.block M (Array.getElem?_eq_some_iff.1 h1).1 hS).trans h1, h2⟩
theorem MarkV.below {w w' : World} {M : Nat} {ids : List Int} (h : MarkV w M ids) (hb : fr w w') : MarkV w' M ids := h.only (S := fun _ => False) (Only.of_below hb) fun h => h
theorem MarkV.new (w : World) (c : Nat) : MarkV (w.alloc (.map #[] c)) w.heap.size [] := ⟨#[], c, heap_alloc_new w _, rfl⟩
theorem mk_asking (i : Int) (w : World) : ∀ (es : List MapEntry) (ids : List Int) (k : Nat), es.map (fun e => (e.key, e.val)) = ids.map (fun i => (mkV i, Value.bool true)) →
    ∃ r, (Instr.findAsking 213 (mkV i) es k).run Tryz.prog w = .ok r w ∧ (i ∈ ids → ∃ j, r = some (j, .bool true)) ∧ (i ∉ ids → r = none)
  | [], ids, k, h => by
    cases ids with
    | nil => exact ⟨none, by simp [Instr.findAsking], fun h => (by cases h), fun _ => rfl⟩
    | cons a l => simp at h
  | e :: es, ids, k, h => by
    cases ids with
    | nil => simp at h
    | cons a l =>
      simp only [List.map_cons, List.cons.injEq, Prod.mk.injEq] at h
      obtain ⟨⟨h1, h2⟩, h3⟩ := h
      obtain ⟨r, g1, g2, g3⟩ := mk_asking i w es l (k + 1) h3
      by_cases hia : i = a
      · subst hia
        refine ⟨some (k, .bool true), ?_, fun _ => ⟨k, rfl⟩, fun hn => absurd List.mem_cons_self hn⟩
        simp [Instr.findAsking, h1, h2, mk_equal, Result.andThen]
      · have hb : (i == a) = false := by simpa using hia
        refine ⟨r, ?_, fun hm => g2 ((List.mem_cons.1 hm).resolve_left hia), fun hn => g3 fun hm => hn (List.mem_cons_of_mem _ hm)⟩
        simp [Instr.findAsking, h1, mk_equal, hb, Result.andThen, g1]
theorem mk_find (i : Int) (w : World) (es : List MapEntry) (ids : List Int) (h : es.map (fun e => (e.key, e.val)) = ids.map fun i => (mkV i, Value.bool true)) :
    ∃ r, (Instr.findKey 213 (mkV i) es).run Tryz.prog w = .ok r w ∧ (i ∈ ids → ∃ j, r = some (j, .bool true)) ∧ (i ∉ ids → r = none) := by
  cases es with
  | nil =>
    cases ids with
    | nil => exact ⟨none, by simp [Instr.findKey, run_underlying mk_und, Instr.findNow], fun h => (by cases h), fun _ => rfl⟩
    | cons a l => simp at h
  | cons e es =>
    obtain ⟨r, h1, h2⟩ := mk_asking i w (e :: es) ids 0 h
    refine ⟨r, ?_, h2⟩
    simp [Instr.findKey, run_underlying mk_und, Instr.findNow, Instr.sameNow, h1]
theorem MarkV.look {w : World} {M : Nat} {ids : List Int} (h : MarkV w M ids) (i : Int) :
    (Instr.lookup 211 (.map (some M)) (mkV i) false).run Tryz.prog w = .ok (.bool (decide (i ∈ ids))) w := by
  obtain ⟨es, c, h1, h2⟩ := h
  obtain ⟨r, h3, h4, h5⟩ := mk_find i w es.toList ids h2
  by_cases hm : i ∈ ids
  · obtain ⟨j, rfl⟩ := h4 hm
    simp [Instr.lookup, run_underlying mk_map, MapKept.run_getObj_map h1, mk_check, h3, Result.andThen, hm]
  · obtain rfl := h5 hm
    simp [Instr.lookup, run_underlying mk_map, MapKept.run_getObj_map h1, mk_check, h3, Result.andThen, hm]
theorem MarkV.put {w : World} {M : Nat} {ids : List Int} (h : MarkV w M ids) {i : Int} (hi : i ∉ ids) :
    ∃ w', (Instr.mapUpdate 211 (.map (some M)) (mkV i) (.bool true)).run Tryz.prog w = .ok () w' ∧ MarkV w' M (ids ++ [i]) ∧ Only (fun j => j = M) w w' := by
  obtain ⟨es, c, h1, h2⟩ := h
  obtain ⟨r, h3, h4, h5⟩ := mk_find i w es.toList ids h2
  obtain rfl := h5 hi
  have hlt := (Array.getElem?_eq_some_iff.1 h1).1
  refine ⟨{ w with heap := w.heap.setIfInBounds M (.map (es.push { key := mkV i, val := .bool true, born := c }) (c + 1)) }, ?_, ⟨es.push { key := mkV i, val := .bool true, born := c }, c + 1, ?_, ?_⟩, ⟨rfl, rfl, rfl, by simp, fun j hj hn => ?_⟩⟩
  · simp [Instr.mapUpdate, run_underlying mk_map, MapKept.run_getObj_map h1, mk_check, h3, MapKept.run_setObj_map _ h1, Result.andThen]
  · simp [hlt]
  · simp [h2]
  · show (w.heap.setIfInBounds M _)[j]? = _
    rw [Array.getElem?_setIfInBounds_ne fun e => hn e.symm]
end Go.Proofs.YtjnolpfmchnnmaaGreatDoor
end
section
namespace Go.Proofs.YtjnolpfmchnnmaaGreatDoor
set_option maxRecDepth 100000
open Go.RowKit
theorem cmp_lists (l m : List UInt8) : Extern.BytealgCompare.cmp ⟨l.toArray⟩ ⟨m.toArray⟩ = cmpB l m := by
  unfold Extern.BytealgCompare.cmp
  simp only [ba_get, ba_size]
  induction l generalizing m with
  | nil => cases m <;> simp [cmpB]
  | cons x l ih =>
    cases m with
    | nil => simp [cmpB]
    | cons y m =>
      have ih := ih m
      have e : min (x :: l).length (y :: m).length = min l.length m.length + 1 := by simp
      rw [e, List.range_succ_eq_map, List.find?_cons]
      by_cases hxy : x = y
      · subst hxy
        have h0 : ((x :: l).getD 0 default != (x :: m).getD 0 default) = false := by simp
        rw [h0]
        simp only [List.find?_map, Function.comp_def, Nat.succ_eq_add_one, List.getD_cons_succ]
        simp only [cmpB, UInt8.lt_irrefl, if_false]
        rw [← ih]
        rcases (List.range (min l.length m.length)).find? (fun i => l.getD i default != m.getD i default) with _ | i
        · simp
        · simp
      · have h0 : ((x :: l).getD 0 default != (y :: m).getD 0 default) = true := by simpa using hxy
        rw [h0]
        simp only [cmpB, List.getD_cons_zero]
        by_cases h1 : x < y
        · simp [h1]
        · have h2 : y < x := by
            rcases UInt8.lt_or_lt_of_ne hxy with h | h
            · exact absurd h h1
            · exact h
          simp [h1, h2]
set_option maxHeartbeats 1000000 in
theorem bcompare_any (S S' : Nat → Prop) (v v' : Value) (xs ys : List UInt8) (w : World) (hx : Byt w S v xs) (hy : Byt w S' v' ys) :
    Calls Tryz.prog 111 #[v, v'] w fun e w' => e = .returned (.int .i64 (cmpB xs ys)) ∧ w = w' := by
  have h1 := hx.bytesOf
  have h2 := hy.bytesOf
  have hrun : (Extern.BytealgCompare.compare #[v, v']).run Tryz.prog w = .ok (.int .i64 (cmpB xs ys)) w := by
    show Sem.run Tryz.prog (do pure (goInt (Extern.BytealgCompare.cmp (← Extern.Bytes.bytesOf v) (← Extern.Bytes.bytesOf v')))) w = _
    simp only [Sem.run_bind, h1, h2, Result.andThen, Sem.run_pure, cmp_lists]
    rfl
  have HR := Lib.hid hrun
  clear hrun h1 h2 hx hy
  go_enter Tryz.func111, Tryz.ntmps111
  go_wp2
  rw [run_callFunc_extern Tryz.func174 (by kernel_rfl) (by kernel_rfl) (by kernel_rfl) (e := Extern.BytealgCompare.compare) (by kernel_rfl), HR.out]
  simp only [Result.andThen]
  rw [Oper.upon_value]
  go_wp2
  go_ret
  exact ⟨rfl, rfl⟩
end Go.Proofs.YtjnolpfmchnnmaaGreatDoor
end
