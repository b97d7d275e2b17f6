/-
The disk in memory, and what leaves it as it is.
-/
import Derived.Test.YtjnolpfmchnnmaaGreatDoorQPDrops0
import Derived.Laws.RangeAny
import Derived.Sort.KeysCollected
import Derived.Maps.OwnSet
import Derived.Maps.Ext
section
namespace Go.Proofs.YtjnolpfmchnnmaaGreatDoor
set_option maxRecDepth 100000
open Go.RowKit Go.BigFrame Go.Sort Go.Shelf Go.Lib
attribute [local go_sem ↓] Go.wp_at_zero Go.wp_at_succ
def okByte (b : UInt8) : Bool := (decide (97 ≤ b.toNat) && decide (b.toNat ≤ 122)) || (decide (48 ≤ b.toNat) && decide (b.toNat ≤ 57)) || b.toNat == 46 || b.toNat == 45
def badRune (r : Nat) : Bool := !((decide (97 ≤ r) && decide (r ≤ 122)) || (decide (48 ≤ r) && decide (r ≤ 57)) || r == 46 || r == 45)
def nameB (s : List UInt8) : Bool := !s.isEmpty && decide (s.length ≤ 32) && s.all okByte
theorem badRune_high {r : Nat} (h : 128 ≤ r) : badRune r = true := by
  unfold badRune
  simp
  omega
theorem badRune_byte (b : UInt8) : badRune b.toNat = !okByte b := rfl
theorem idx_bad (l : List UInt8) : ∀ (f pos : Nat), l.length ≤ pos + f → (0 ≤ Lib.idxFuncFrom badRune true ⟨l.toArray⟩ f pos ↔ ∃ b ∈ l.drop pos, okByte b = false)
  | 0, pos, h => by
    rw [List.drop_eq_nil_of_le (by omega)]
    simp [Lib.idxFuncFrom]
  | f + 1, pos, h => by
    unfold Lib.idxFuncFrom
    by_cases hp : pos < l.length
    · have hs : pos < (⟨l.toArray⟩ : ByteArray).size := by rw [ba_size]; exact hp
      rw [if_pos hs]
      have hd : l.drop pos = l[pos] :: l.drop (pos + 1) := List.drop_eq_getElem_cons hp
      have hb : (⟨l.toArray⟩ : ByteArray)[pos]'hs = l[pos] := rfl
      by_cases ha : l[pos].toNat < 128
      · rw [decode_ascii _ _ hs (by rw [hb]; exact ha), hb]
        dsimp only
        by_cases ho : okByte l[pos] = true
        · have := idx_bad l f (pos + 1) (by omega)
          rw [if_neg (by rw [badRune_byte, ho]; simp), this, hd]
          refine ⟨fun ⟨b, h1, h2⟩ => ⟨b, List.mem_cons_of_mem _ h1, h2⟩, fun ⟨b, h1, h2⟩ => ?_⟩
          rcases List.mem_cons.1 h1 with rfl | h1
          · rw [ho] at h2; cases h2
          · exact ⟨b, h1, h2⟩
        · have ho' : okByte l[pos] = false := by simpa using ho
          rw [if_pos (by rw [badRune_byte, ho']; rfl), hd]
          refine ⟨fun _ => ⟨l[pos], List.mem_cons_self, ho'⟩, fun _ => by omega⟩
      · have hh := decode_high _ _ hs (by rw [hb]; omega)
        rw [if_pos (badRune_high hh.1)]
        refine ⟨fun _ => ⟨l[pos], by rw [hd]; exact List.mem_cons_self, ?_⟩, fun _ => by omega⟩
        unfold okByte
        simp
        omega
    · rw [if_neg (by rw [ba_size]; exact hp), List.drop_eq_nil_of_le (by omega)]
      simp
theorem idx_name (l : List UInt8) : decide (0 ≤ Lib.idxFunc badRune true ⟨l.toArray⟩) = !l.all okByte := by
  have h := idx_bad l (⟨l.toArray⟩ : ByteArray).size 0 (by rw [ba_size]; omega)
  rw [List.drop_zero] at h
  unfold Lib.idxFunc
  rw [Bool.eq_iff_iff, decide_eq_true_iff, h]
  simp
set_option maxHeartbeats 2000000 in
theorem named1 (w : World) : PredAt Tryz.prog 213 #[] encR badRune w := fun W r _ => by
  unfold FnGives
  rcases (by omega : r < 45 ∨ r = 45 ∨ r = 46 ∨ r = 47 ∨ (48 ≤ r ∧ r ≤ 57) ∨ (58 ≤ r ∧ r < 97) ∨ (97 ≤ r ∧ r ≤ 122) ∨ 122 < r) with h | h | h | h | h | h | h | h
  all_goals
    have z1 : ((r : Int) < 97) ↔ r < 97 := by omega
    have z2 : (122 < (r : Int)) ↔ 122 < r := by omega
    have z3 : ((r : Int) < 48) ↔ r < 48 := by omega
    have z4 : (57 < (r : Int)) ↔ 57 < r := by omega
    have z5 : ((r : Int) = 46) ↔ r = 46 := by omega
    have z6 : ((r : Int) = 45) ↔ r = 45 := by omega
    go_enter Tryz.func213, Tryz.ntmps213
    go_wp2
    all_goals first | (exfalso; omega) | (go_ret; exact ⟨ret_bool (by rw [Bool.eq_iff_iff]; simp [badRune]; omega), 0, rfl⟩)
set_option maxHeartbeats 2000000 in
theorem named_any (s : List UInt8) (w : World) (hl : s.length ≤ 140737488355328) :
    Calls Tryz.prog 148 #[.string ⟨s.toArray⟩] w fun r w' => r = .returned (.bool (nameB s)) ∧ Below w.heap.size w w' := by
  have HC := fun W => Tryz.strings_ContainsFunc 213 #[] (enters_of Tryz.func213 (by kernel_rfl) rfl) badRune ⟨s.toArray⟩ W (named1 W)
  simp only [idx_name] at HC
  have hsz : (⟨s.toArray⟩ : ByteArray).size = s.length := ba_size s
  cases s with
  | nil =>
    go_enter Tryz.func148, Tryz.ntmps148
    go_wp2
    go_ret
    exact ⟨rfl, Below.refl _ _⟩
  | cons b l =>
    have hb : nameB (b :: l) = (decide ((b :: l).length ≤ 32) && (b :: l).all okByte) := rfl
    by_cases h32 : l.length + 1 ≤ 32
    · go_enter Tryz.func148, Tryz.ntmps148
      go_wp2_with (go_at_call 60; refine (HC _).mono ?_; rintro r w1 ⟨rfl, hb1⟩)
      all_goals first | (exfalso; omega) | skip
      go_ret
      exact ⟨ret_bool (by rw [hb]; simp [h32]), hb1⟩
    · go_enter Tryz.func148, Tryz.ntmps148
      go_wp2
      all_goals first | (exfalso; omega) | skip
      go_ret
      exact ⟨rfl, Below.refl _ _⟩
end Go.Proofs.YtjnolpfmchnnmaaGreatDoor
end
section
namespace Go.Proofs.YtjnolpfmchnnmaaGreatDoor
set_option maxRecDepth 100000
open Go.RowKit Go.BigFrame Go.Sort Go.Shelf Go.Lib Go.Maps
abbrev Nm := List UInt8
structure Fd where
  name : Nm
  data : List UInt8
  synced : Int
  blk : Nat
  sl : Value
structure Dk where
  ns : List Fd
  ops : Int
  room : Int
  keep : List Int
  done : Int
  bytes : Int
  down : Bool
def findF (x : Nm) : List Fd → Option Fd
  | [] => none
  | f :: l => if f.name = x then some f else findF x l
def insF (f : Fd) : List Fd → List Fd
  | [] => [f]
  | g :: l => if f.name < g.name then f :: g :: l else if f.name = g.name then f :: l else g :: insF f l
def delF (x : Nm) : List Fd → List Fd
  | [] => []
  | f :: l => if f.name = x then delF x l else f :: delF x l
def updF (x : Nm) (g : Fd → Fd) (ns : List Fd) : List Fd := ns.map fun f => if f.name = x then g f else f
def sortedF (ns : List Fd) : Prop := ns.Pairwise fun a b => a.name < b.name
def ptrF (o : Option Fd) : Value := .pointer (o.map fun f => (⟨f.blk, 0, none⟩ : Addr))
def ptrR : Value → Option (DataW Unit × List MemPlace)
  | .pointer none => some (.lit (.bool false), [])
  | .pointer (some ⟨b, 0, none⟩) => some (.lit (.int .i64 b), [])
  | _ => none
def datF (o : Option Fd) : DataW Unit := match o with | some f => .lit (.int .i64 f.blk) | none => .lit (.bool false)
theorem ptrR_inv {v : Value} {o : Option Fd} {ps : List MemPlace} (h : ptrR v = some (datF o, ps)) : v = ptrF o := by
  unfold ptrR at h
  split at h
  · cases o with
    | none => rfl
    | some f => simp [datF] at h
  · cases o with
    | none => simp [datF] at h
    | some f =>
      simp only [datF, Option.some.injEq, Prod.mk.injEq, DataW.lit.injEq, Lit.int.injEq, true_and] at h
      obtain ⟨h, _⟩ := h
      have h : _ = f.blk := Int.ofNat.inj h
      subst h
      rfl
  · cases h
structure MapIs (D : DataW Unit) (ns : List Fd) : Prop where
  at_ : ∀ x, D.atKey (.string x) (.lit (.bool false)) = datF (findF x ns)
  has : ∀ x, Maps.has D (.string x) = (findF x ns).isSome
  size : Maps.size D = ns.length
theorem find_ins (x : Nm) (f : Fd) (ns : List Fd) : findF x (insF f ns) = if f.name = x then some f else findF x ns := by
  induction ns with
  | nil => rfl
  | cons g l ih =>
    unfold insF
    split
    · rfl
    · split
      · rename_i h1 h2
        simp only [findF, h2]
        split <;> rfl
      · rename_i h1 h2
        simp only [findF, ih]
        by_cases hg : g.name = x
        · have : ¬ f.name = x := fun e => h2 (e.trans hg.symm)
          simp only [if_pos hg, if_neg this]
        · simp only [if_neg hg]
theorem find_del (x y : Nm) (ns : List Fd) : findF x (delF y ns) = if x = y then none else findF x ns := by
  induction ns with
  | nil => simp [delF, findF]
  | cons g l ih =>
    unfold delF
    split
    · rename_i h
      rw [ih]
      by_cases hx : x = y
      · simp only [if_pos hx]
      · have : ¬ g.name = x := fun e => hx (e.symm.trans h)
        simp only [if_neg hx, findF, if_neg this]
    · rename_i h
      simp only [findF, ih]
      by_cases hg : g.name = x
      · have : ¬ x = y := fun e => h (hg.trans e)
        simp only [if_pos hg, if_neg this]
      · simp only [if_neg hg]
theorem find_upd (x y : Nm) (g : Fd → Fd) (hg : ∀ f, (g f).name = f.name) (ns : List Fd) : findF x (updF y g ns) = if x = y then (findF x ns).map g else findF x ns := by
  induction ns with
  | nil => simp [updF, findF]
  | cons f l ih =>
    have e : updF y g (f :: l) = (if f.name = y then g f else f) :: updF y g l := rfl
    rw [e]
    simp only [findF, ih]
    by_cases hf : f.name = y
    · simp only [if_pos hf, hg]
      by_cases hx : f.name = x
      · simp [hx, hf.symm.trans hx]
      · simp only [if_neg hx]
    · simp only [if_neg hf]
      by_cases hx : f.name = x
      · have : ¬ x = y := fun e => hf (hx.trans e)
        simp only [if_pos hx, if_neg this]
      · simp only [if_neg hx]
theorem find_name {x : Nm} {ns : List Fd} {f : Fd} (h : findF x ns = some f) : f.name = x ∧ f ∈ ns := by
  induction ns with
  | nil => cases h
  | cons g l ih =>
    unfold findF at h
    split at h
    · injection h with h
      subst h
      exact ⟨by assumption, List.mem_cons_self⟩
    · exact ⟨(ih h).1, List.mem_cons_of_mem _ (ih h).2⟩
theorem find_none {x : Nm} {ns : List Fd} : findF x ns = none ↔ ∀ f ∈ ns, f.name ≠ x := by
  induction ns with
  | nil => simp [findF]
  | cons g l ih =>
    unfold findF
    split
    · rename_i h
      simp [h]
    · rename_i h
      simp [ih, h]
theorem mem_ins {f g : Fd} {ns : List Fd} (h : g ∈ insF f ns) : g = f ∨ g ∈ ns := by
  induction ns with
  | nil => simpa [insF] using h
  | cons a l ih =>
    unfold insF at h
    split at h
    · simpa using h
    · split at h
      · rcases List.mem_cons.1 h with h | h
        · exact .inl h
        · exact .inr (List.mem_cons_of_mem _ h)
      · rcases List.mem_cons.1 h with h | h
        · exact .inr (by rw [h]; exact List.mem_cons_self)
        · rcases ih h with h | h
          · exact .inl h
          · exact .inr (List.mem_cons_of_mem _ h)
theorem mem_del {y : Nm} {g : Fd} {ns : List Fd} : g ∈ delF y ns ↔ g ∈ ns ∧ g.name ≠ y := by
  induction ns with
  | nil => simp [delF]
  | cons a l ih =>
    unfold delF
    split
    · rename_i h
      simp only [ih, List.mem_cons]
      exact ⟨fun ⟨h1, h2⟩ => ⟨.inr h1, h2⟩, fun ⟨h1, h2⟩ => ⟨h1.resolve_left (fun e => h2 (e ▸ h)), h2⟩⟩
    · rename_i h
      simp only [List.mem_cons, ih]
      exact ⟨fun h1 => h1.elim (fun e => ⟨.inl e, e ▸ h⟩) (fun h => ⟨.inr h.1, h.2⟩), fun ⟨h1, h2⟩ => h1.elim .inl (fun h => .inr ⟨h, h2⟩)⟩
theorem sub_del (y : Nm) (ns : List Fd) : (delF y ns).Sublist ns := by
  induction ns with
  | nil => exact .slnil
  | cons a l ih => unfold delF; split; exact .cons _ ih; exact .cons_cons _ ih
theorem lt_tri (a b : Nm) (h1 : ¬ a < b) (h2 : ¬ a = b) : b < a := by
  rcases Std.lt_trichotomy a b with h | h | h
  · exact absurd h h1
  · exact absurd h h2
  · exact h
theorem sorted_ins {f : Fd} {ns : List Fd} (h : sortedF ns) : sortedF (insF f ns) := by
  induction ns with
  | nil => exact List.pairwise_singleton _ _
  | cons a l ih =>
    have ha := (List.pairwise_cons.1 h).1
    have hl := (List.pairwise_cons.1 h).2
    unfold insF
    split
    · rename_i h1
      refine List.pairwise_cons.2 ⟨fun x hx => ?_, h⟩
      rcases List.mem_cons.1 hx with rfl | hx
      · exact h1
      · exact List.lt_trans h1 (ha x hx)
    · split
      · rename_i h1 h2
        exact List.pairwise_cons.2 ⟨fun x hx => by show f.name < x.name; rw [h2]; exact ha x hx, hl⟩
      · rename_i h1 h2
        refine List.pairwise_cons.2 ⟨fun x hx => ?_, ih hl⟩
        rcases mem_ins hx with rfl | hx
        · exact lt_tri _ _ h1 h2
        · exact ha x hx
theorem sorted_del {y : Nm} {ns : List Fd} (h : sortedF ns) : sortedF (delF y ns) := h.sublist (sub_del y ns)
theorem sorted_upd {y : Nm} {g : Fd → Fd} (hg : ∀ f, (g f).name = f.name) {ns : List Fd} (h : sortedF ns) : sortedF (updF y g ns) := by
  unfold sortedF updF
  rw [List.pairwise_map]
  refine h.imp fun {a b} hab => ?_
  show (if a.name = y then g a else a).name < (if b.name = y then g b else b).name
  have e : ∀ f : Fd, (if f.name = y then g f else f).name = f.name := fun f => by split <;> simp [hg]
  rw [e, e]
  exact hab
end Go.Proofs.YtjnolpfmchnnmaaGreatDoor
end
section
namespace Go.Proofs.YtjnolpfmchnnmaaGreatDoor
set_option maxRecDepth 100000
open Go.RowKit Go.BigFrame Go.Sort Go.Shelf Go.Lib Go.Maps
attribute [local go_sem ↓] Go.wp_at_zero Go.wp_at_succ
def blkB : Value → Option Nat
  | .slice (some a) _ c => if c = 0 then none else some a.block
  | _ => none
def OwnB (w : World) (F : Nat → Prop) (v : Value) (bs : List UInt8) : Prop :=
  ∃ A c, v = .slice A bs.length c ∧ bs.length ≤ c ∧ c ≤ 9223372036854775807 ∧ bs.length ≤ 140737488355328 ∧ (c = 0 ∨ ∃ (g : Nat) (cur : Array Value), A = some ⟨g, 0, none⟩ ∧ F g ∧ w.heap[g]? = some (.cells cur 5 (0, 0)) ∧ c ≤ cur.size ∧ cur.toList.take bs.length = bs.map bcell)
theorem OwnB.nil (w : World) (F : Nat → Prop) : OwnB w F (.slice none 0 0) [] := ⟨none, 0, rfl, Nat.le_refl _, by omega, by simp, .inl rfl⟩
theorem OwnB.form {w : World} {F : Nat → Prop} {v : Value} {bs : List UInt8} (h : OwnB w F v bs) : ∃ A c, v = .slice A bs.length c := by
  obtain ⟨A, c, e, _⟩ := h
  exact ⟨A, c, e⟩
theorem OwnB.mono {w : World} {F F' : Nat → Prop} {v : Value} {bs : List UInt8} (h : OwnB w F v bs) (hb : ∀ i, F i → F' i) : OwnB w F' v bs := by
  obtain ⟨A, c, e, h1, h2, h3, h4⟩ := h
  refine ⟨A, c, e, h1, h2, h3, h4.imp id fun ⟨g, cur, a, b, r⟩ => ⟨g, cur, a, hb g b, r⟩⟩
theorem OwnB.blk {w : World} {F : Nat → Prop} {v : Value} {bs : List UInt8} (h : OwnB w F v bs) {g : Nat} (hg : blkB v = some g) : F g ∧ Loose w g ∧ g < w.heap.size := by
  obtain ⟨A, c, rfl, h1, h2, h3, h4⟩ := h
  rcases h4 with rfl | ⟨g', cur, rfl, hb, hh, _⟩
  · cases A <;> simp [blkB] at hg
  · by_cases hc : c = 0
    · simp [blkB, hc] at hg
    · simp only [blkB, if_neg hc, Option.some.injEq] at hg
      subst hg
      exact ⟨hb, ⟨cur, hh⟩, (Array.getElem?_eq_some_iff.1 hh).1⟩
theorem OwnB.kept {w w' : World} {F : Nat → Prop} {v : Value} {bs : List UInt8} (h : OwnB w F v bs) (hk : ∀ g, blkB v = some g → w'.heap[g]? = w.heap[g]?) : OwnB w' F v bs := by
  obtain ⟨A, c, rfl, h1, h2, h3, h4⟩ := h
  refine ⟨A, c, rfl, h1, h2, h3, ?_⟩
  rcases h4 with rfl | ⟨g, cur, rfl, hb, hh, r⟩
  · exact .inl rfl
  · by_cases hc : c = 0
    · exact .inl hc
    · exact .inr ⟨g, cur, rfl, hb, (hk g (by simp [blkB, hc])).trans hh, r⟩
theorem OwnB.below {w w' : World} {F : Nat → Prop} {v : Value} {bs : List UInt8} (h : OwnB w F v bs) (hb : Below w.heap.size w w') : OwnB w' F v bs :=
  h.kept fun g hg => hb.block g (h.blk hg).2.2
theorem OwnB.only {w w' : World} {F : Nat → Prop} {v : Value} {bs : List UInt8} {S : Nat → Prop} (h : OwnB w F v bs) (ho : Only S w w') (hd : ∀ g, blkB v = some g → ¬ S g) : OwnB w' F v bs :=
  h.kept fun g hg => ho.block g (h.blk hg).2.2 (hd g hg)
theorem OwnB.byt {w : World} {F : Nat → Prop} {v : Value} {bs : List UInt8} (h : OwnB w F v bs) : Byt w (fun i => F i ∧ Loose w i) v bs := by
  obtain ⟨A, c, rfl, h1, h2, h3, h4⟩ := h
  refine ⟨A, c, rfl, h1, h2, h3, by simp, fun hn => ?_⟩
  rcases h4 with rfl | ⟨g, cur, rfl, hb, hh, hc, ht⟩
  · omega
  · refine ⟨g, 0, rfl, ⟨hb, cur, hh⟩, (Array.getElem?_eq_some_iff.1 hh).1, fun j u hu => ?_⟩
    rw [cell_of_row w g _ cur _ _ hh, Nat.zero_add]
    rw [← ht, List.getElem?_take] at hu
    split at hu
    · simpa using hu
    · cases hu
theorem OwnB.of_own {w : World} {base : Nat} {F : Nat → Prop} {v : Value} {bs : List UInt8} (h : w.ownsRow base 5 1 v bs.length (bs.map bcell)) (hl : bs.length ≤ 140737488355328) (hF : ∀ i, base ≤ i → F i) : OwnB w F v bs := by
  rcases h.2 with ⟨rfl, h0⟩ | ⟨g, cap, cur, rfl, hbg, hh, hcap, hcm, hcs, ht⟩
  · have : bs = [] := List.eq_nil_of_length_eq_zero h0
    subst this
    exact OwnB.nil _ _
  · exact ⟨_, _, rfl, hcap, by unfold maxLen at hcm; omega, hl, .inr ⟨g, cur, rfl, hF g hbg, hh, by omega, by simpa using ht⟩⟩
theorem run_append_ownB (w : World) (F F' : Nat → Prop) (ty : TypeId) (v src : Value) (S : Nat → Prop) (bs cs : List UInt8) (hown : OwnB w F v bs) (h : Byt w S src cs) (hl : bs.length + cs.length ≤ 140737488355328) (hF : ∀ i, F i → F' i) (hnew : F' w.heap.size) :
    ∃ v' w', (Builtin.append_ #[35, 35] ty #[v, src]).run Tryz.prog w = .ok v' w' ∧ OwnB w' F' v' (bs ++ cs) ∧ w.grownBy w' (blkB v) ∧ (blkB v' = blkB v ∨ blkB v' = some w.heap.size) := by
  obtain ⟨i0, hi, hz0, hz1, hz2⟩ := info_parts info5
  obtain ⟨B, d, rfl, g1, g2, g3, hr⟩ := h
  rcases Nat.eq_zero_or_pos cs.length with h0 | h0
  · have : cs = [] := List.eq_nil_of_length_eq_zero h0
    subst this
    rw [List.append_nil]
    have hown' := hown.mono hF
    obtain ⟨A, c, rfl, h1, h2, h3, h4⟩ := hown
    refine ⟨_, w, ?_, hown', World.grownBy.refl w _, .inl rfl⟩
    rcases A with _ | a
    · have hn : bs.length = 0 := by rcases h4 with h4 | ⟨g, cur, h4, _⟩; omega; cases h4
      rcases B with _ | b <;> simp [Builtin.append_, run_underlying Tryz.underlying35, sizeOf, typeInfo, hi, Builtin.lenOf, Builtin.firstCells, loadCells, loadCellsFrom, hn]
    · rcases B with _ | b <;> simp [Builtin.append_, run_underlying Tryz.underlying35, sizeOf, typeInfo, hi, Builtin.lenOf, Builtin.firstCells, loadCells, loadCellsFrom, h1, storeCells]
  · obtain ⟨b, o, rfl, _, _, hc⟩ := hr.2 h0
    have hnews : ∀ j u, (cs.map bcell)[j]? = some u → w.cell? ((⟨b, o, none⟩ : Addr).add j) = some u := fun j u hu => by rw [Addr.add_lit]; exact hc j u hu
    obtain ⟨A, c, rfl, h1, h2, h3, h4⟩ := hown
    have hll : (bs ++ cs).length = bs.length + cs.length := by simp
    by_cases hroom : bs.length + cs.length ≤ c
    · rcases h4 with rfl | ⟨g, cur, rfl, hb, hh, hcc, ht⟩
      · omega
      · have hrun := run_append_room (P := Tryz.prog) w 35 ty 5 i0 Tryz.underlying35 hi g bs.length c cur hh ⟨b, o, none⟩ cs.length d (cs.map bcell) (by simp [hz1]) hnews (by simp [Value.oneCell', bcell]) hroom (by simp [hz1]; omega)
        refine ⟨_, _, hrun, ⟨_, _, by rw [hll], by omega, h2, by omega, .inr ⟨g, _, rfl, hF g hb, setRow_heap w g cur _ 5 _ hh, ?_, ?_⟩⟩, ⟨rfl, rfl, rfl, by simp, fun k _ hk => setRow_other w g k _ (fun e => hk (by rw [e]; simp [blkB]; omega))⟩, .inl rfl⟩
        · simp [hz1]
          omega
        · rw [hz1, Nat.mul_one, ht, hll, ← List.map_append]
          have : ((bs ++ cs).map bcell).length = bs.length + cs.length := by simp
          rw [← this]
          exact List.take_left
    · have hA : ∃ olds : List Value, olds = bs.map bcell ∧ ∀ a, A = some a → ∀ j u, olds[j]? = some u → w.cell? (a.add j) = some u := by
        refine ⟨_, rfl, fun a ha j u hu => ?_⟩
        rcases h4 with rfl | ⟨g, cur, rfl, hb, hh, hcc, ht⟩
        · have : bs = [] := List.eq_nil_of_length_eq_zero (by omega)
          subst this
          simp at hu
        · obtain rfl := Option.some.inj ha
          rw [Addr.add_lit, cell_of_row w g _ cur _ _ hh, Nat.zero_add]
          rw [← ht, List.getElem?_take] at hu
          split at hu
          · simpa using hu
          · cases hu
      obtain ⟨olds, ho, hA⟩ := hA
      have key : ∀ (w' : World) (cap : Nat), bs.length + cs.length ≤ cap → cap ≤ maxLen → w' = w.drew.alloc (.cells (olds.toArray ++ (cs.map bcell).toArray ++ Builtin.zeroCells (Value.cells (.int .u8 0)) (cap - (bs.length + cs.length))) 5) →
          OwnB w' F' (.slice (some ⟨w.heap.size, 0, none⟩) (bs.length + cs.length) cap) (bs ++ cs) ∧ w.grownBy w' (blkB (.slice A bs.length c)) ∧ blkB (.slice (some ⟨w.heap.size, 0, none⟩) (bs.length + cs.length) cap) = some w.heap.size := by
        intro w' cap hc1 hc2 hw
        subst hw
        refine ⟨⟨_, _, by rw [hll], by omega, by unfold maxLen at hc2; omega, by omega, .inr ⟨w.heap.size, _, rfl, hnew, heap_alloc_new w.drew _, ?_, ?_⟩⟩, ⟨rfl, rfl, rfl, by simp, fun k hk _ => Below.heap_alloc w.drew _ k hk⟩, by simp [blkB]; omega⟩
        · simp only [Array.size_append, List.size_toArray, size_zeroCells, ho, List.length_map]
          simp [Value.cells]
          omega
        · simp only [Array.toList_append, ho, List.append_assoc]
          rw [← List.append_assoc, ← List.map_append, hll]
          have : ((bs ++ cs).map bcell).length = bs.length + cs.length := by simp
          rw [← this]
          exact List.take_left
      rcases A with _ | a
      · have hbs : bs = [] := by
          rcases h4 with rfl | ⟨g, cur, h4, _⟩
          · exact List.eq_nil_of_length_eq_zero (by omega)
          · cases h4
        subst hbs
        have hc0 : c = 0 := by rcases h4 with h4 | ⟨g, cur, h4, _⟩; exact h4; cases h4
        subst hc0
        have hrun := run_append_nil (P := Tryz.prog) w 35 ty 5 i0 (.int .u8 0) Tryz.underlying35 hi hz0 ⟨b, o, none⟩ cs.length d (cs.map bcell) (by simp [hz1]) hnews (by omega) (by simp at hl; omega) (by rw [hz2]; simp at hl; omega)
        have hk := key _ _ (by simpa using grownCap_ge w cs.length 0 5) (grownCap_le_maxLen w cs.length 0 5 (by unfold maxLen; omega)) rfl
        subst ho
        simp only [List.length_nil, Nat.zero_add, List.map_nil, List.append_toArray, List.nil_append] at hk ⊢
        exact ⟨_, _, hrun, hk.1, hk.2.1, .inr hk.2.2⟩
      · have hrun := run_append_grow (P := Tryz.prog) w 35 ty 5 i0 (.int .u8 0) Tryz.underlying35 hi hz0 a bs.length c olds (by simp [ho, hz1]) (hA a rfl) ⟨b, o, none⟩ cs.length d (cs.map bcell) (by simp [hz1]) hnews (by omega) (by omega) (growslice_fits (by omega) (by rw [hz2]; omega))
        have hk := key _ (grownCap w (bs.length + cs.length) c 5) (grownCap_ge w _ c 5) (grownCap_le_maxLen w _ c 5 (by unfold maxLen; omega)) rfl
        exact ⟨_, _, hrun, hk.1, hk.2.1, .inr hk.2.2⟩
theorem wpList_append_ownB {w : World} {ops : Array Oper} {rest : List Oper} {o : Oper} {a : Act} {Q : Exit → Act → World → Prop} (hgd : o.guard = none) (s x : Operand)
    (ho : o.op = .call { callee := .builtin .append, args := #[s, x], argTypes := #[35, 35] }) (F F' : Nat → Prop) (v src : Value) (hs : a.eval s = v) (hx : a.eval x = src)
    (S : Nat → Prop) (bs cs : List UInt8) (hown : OwnB w F v bs) (h : Byt w S src cs) (hl : bs.length + cs.length ≤ 140737488355328) (hF : ∀ i, F i → F' i) (hnew : F' w.heap.size)
    (hK : ∀ v' w', OwnB w' F' v' (bs ++ cs) → w.grownBy w' (blkB v) → (blkB v' = blkB v ∨ blkB v' = some w.heap.size) → wpList Tryz.prog ops Q rest (a.put o.dst v') w') : wpList Tryz.prog ops Q (o :: rest) a w :=
  wpList_plain hgd fun _ hk => by
    obtain ⟨v', w', hrun, h2, h3, h4⟩ := run_append_ownB w F F' o.type v src S bs cs hown h hl hF hnew
    unfold Oper.wp execOp
    simp only [ho, resolve, invoke, builtin, Sem.run_bind, Sem.run_pure, Result.andThen_ok, List.map_toArray, List.map_cons, List.map_nil, hs, hx, hrun]
    exact hk _ _ (hK v' w' h2 h3 h4)
end Go.Proofs.YtjnolpfmchnnmaaGreatDoor
end
section
namespace Go.Proofs.YtjnolpfmchnnmaaGreatDoor
set_option maxRecDepth 100000
open Go.RowKit
structure Fl where
  name : Nm
  data : List UInt8
  synced : Int
structure Pk where
  fs : List Fl
  ops : Int
  room : Int
  keep : List Int
  done : Int
  bytes : Int
  down : Bool
def Fd.fl (f : Fd) : Fl := ⟨f.name, f.data, f.synced⟩
def Dk.pk (d : Dk) : Pk := ⟨d.ns.map Fd.fl, d.ops, d.room, d.keep, d.done, d.bytes, d.down⟩
def findP (x : Nm) : List Fl → Option Fl
  | [] => none
  | f :: l => if f.name = x then some f else findP x l
def insP (f : Fl) : List Fl → List Fl
  | [] => [f]
  | g :: l => if f.name < g.name then f :: g :: l else if f.name = g.name then f :: l else g :: insP f l
def delP (x : Nm) : List Fl → List Fl
  | [] => []
  | f :: l => if f.name = x then delP x l else f :: delP x l
def updP (x : Nm) (g : Fl → Fl) (ns : List Fl) : List Fl := ns.map fun f => if f.name = x then g f else f
theorem findP_map (x : Nm) (ns : List Fd) : findP x (ns.map Fd.fl) = (findF x ns).map Fd.fl := by
  induction ns with
  | nil => rfl
  | cons f l ih =>
    show (if f.name = x then some f.fl else findP x (l.map Fd.fl)) = _
    unfold findF
    split
    · rfl
    · exact ih
theorem insP_map (f : Fd) (ns : List Fd) : insP f.fl (ns.map Fd.fl) = (insF f ns).map Fd.fl := by
  induction ns with
  | nil => rfl
  | cons g l ih =>
    show (if f.name < g.name then f.fl :: g.fl :: l.map Fd.fl else if f.name = g.name then f.fl :: l.map Fd.fl else g.fl :: insP f.fl (l.map Fd.fl)) = _
    unfold insF
    split
    · rfl
    · split
      · rfl
      · rw [ih]; rfl
theorem delP_map (x : Nm) (ns : List Fd) : delP x (ns.map Fd.fl) = (delF x ns).map Fd.fl := by
  induction ns with
  | nil => rfl
  | cons g l ih =>
    show (if g.name = x then delP x (l.map Fd.fl) else g.fl :: delP x (l.map Fd.fl)) = _
    unfold delF
    split
    · exact ih
    · rw [ih]; rfl
def readyE (k : Pk) (ss : List Nm) : Int :=
  if k.down = true then 20 else if ss.all nameB = false then 23 else match ss with
    | [] => 0
    | x :: _ => if (findP x k.fs).isNone then 22 else 0
def crashes (k : Pk) : Bool := decide (0 ≤ k.ops) && decide (k.ops ≤ k.done)
def changeE (k : Pk) : Int := if crashes k = true then 20 else 0
def changeK (k : Pk) : Pk := if crashes k = true then { k with down := true } else { k with done := k.done + 1 }
def updK (k : Pk) (x : Nm) (g : Fl → Fl) : Pk := { k with fs := updP x g k.fs }
def syncE (k : Pk) (x : Nm) : Int := if readyE k [x] = 0 then changeE k else readyE k [x]
def syncK (k : Pk) (x : Nm) : Pk := if readyE k [x] = 0 then (if crashes k = true then changeK k else updK (changeK k) x fun f => { f with synced := f.data.length }) else k
def lenP (k : Pk) (x : Nm) : Nat := match findP x k.fs with | some f => f.data.length | none => 0
def deleteK (k : Pk) (x : Nm) : Pk := if readyE k [x] = 0 then (if crashes k = true then changeK k else { changeK k with fs := delP x k.fs, bytes := wrap64 (k.bytes - lenP k x) }) else k
def fullP (k : Pk) (n : Nat) : Bool := decide (0 ≤ k.room) && decide (wrap64 (k.room - k.bytes) < (n : Int))
def appFs (x : Nm) (b : List UInt8) (fs : List Fl) : List Fl := updP x (fun f => { f with data := f.data ++ b }) (if (findP x fs).isSome = true then fs else insP ⟨x, [], 0⟩ fs)
def appendE (k : Pk) (x : Nm) (b : List UInt8) : Int := if readyE k [x] = 0 ∨ readyE k [x] = 22 then (if fullP k b.length = true then 21 else changeE k) else readyE k [x]
def appendK (k : Pk) (x : Nm) (b : List UInt8) : Pk := if readyE k [x] = 0 ∨ readyE k [x] = 22 then (if fullP k b.length = true then k else if crashes k = true then changeK k else { changeK k with fs := appFs x b k.fs, bytes := wrap64 (k.bytes + b.length) }) else k
end Go.Proofs.YtjnolpfmchnnmaaGreatDoor
end
section
namespace Go.Proofs.YtjnolpfmchnnmaaGreatDoor
set_option maxRecDepth 100000
open Go.RowKit Go.BigFrame Go.Sort Go.Shelf Go.Lib Go.Maps
attribute [local go_sem ↓] Go.wp_at_zero Go.wp_at_succ
structure FileV (w : World) (F : Nat → Prop) (f : Fd) : Prop where
  cells : w.heap[f.blk]? = some (.cells #[f.sl, .int .i64 f.synced] 153 (0, 0))
  own : OwnB w F f.sl f.data
  lo : F f.blk
def KeepV (w : World) (F : Nat → Prop) (kv : Value) (keep : List Int) : Prop :=
  ∃ A c, kv = .slice A keep.length c ∧ keep.length ≤ c ∧ keep.length ≤ 140737488355328 ∧ (0 < keep.length → ∃ (g o : Nat) (cs : Array Value), A = some ⟨g, o, none⟩ ∧ F g ∧ w.heap[g]? = some (.cells cs 3 (0, 0)) ∧ ∀ j z, keep[j]? = some z → cs[o + j]? = some (.int .i64 z))
structure DiskV (w : World) (F : Nat → Prop) (p mb : Nat) (kv : Value) (d : Dk) : Prop where
  head : w.heap[p]? = some (.cells #[.map (some mb), .int .i64 d.ops, .int .i64 d.room, kv, .int .i64 d.done, .int .i64 d.bytes, .bool d.down] 116 (0, 0))
  map : ∃ D, w.ownsMap Tryz.prog 9 ptrR mb d.ns.length D ∧ MapIs D d.ns
  files : ∀ f ∈ d.ns, FileV w F f
  keep : KeepV w F kv d.keep
  names : ∀ f ∈ d.ns, nameB f.name = true
  sorted : sortedF d.ns
  blks : d.ns.Pairwise fun a b => a.blk ≠ b.blk
  sls : d.ns.Pairwise fun a b => ∀ g, blkB a.sl = some g → blkB b.sl ≠ some g
  loP : F p
  loM : F mb
def DiskP (w : World) (F : Nat → Prop) (p : Nat) (k : Pk) : Prop := ∃ mb kv d, DiskV w F p mb kv d ∧ d.pk = k
section
variable {w w' : World} {F : Nat → Prop} {p mb : Nat} {kv : Value} {d : Dk}
theorem KeepV.kept {keep : List Int} (h : KeepV w F kv keep) (hk : ∀ g cs, F g → w.heap[g]? = some (.cells cs 3 (0, 0)) → w'.heap[g]? = w.heap[g]?) : KeepV w' F kv keep := by
  obtain ⟨A, c, e, h1, h2, h3⟩ := h
  refine ⟨A, c, e, h1, h2, fun hn => ?_⟩
  obtain ⟨g, o, cs, e1, e2, e3, e4⟩ := h3 hn
  exact ⟨g, o, cs, e1, e2, (hk g cs e2 e3).trans e3, e4⟩
theorem DiskV.ltP (h : DiskV w F p mb kv d) : p < w.heap.size := (Array.getElem?_eq_some_iff.1 h.head).1
theorem DiskV.ltM (h : DiskV w F p mb kv d) : mb < w.heap.size := by obtain ⟨D, h, _⟩ := h.map; exact h.lt
theorem ownsMap_block {D : DataW Unit} {n : Nat} (h : w.ownsMap Tryz.prog 9 ptrR mb n D) (he : w'.heap[mb]? = w.heap[mb]?) : w'.ownsMap Tryz.prog 9 ptrR mb n D := by
  obtain ⟨es, clock, hb, r⟩ := h
  exact ⟨es, clock, he.trans hb, r⟩
theorem DiskV.kept (h : DiskV w F p mb kv d) (hk : ∀ i, F i → i < w.heap.size → w'.heap[i]? = w.heap[i]?) : DiskV w' F p mb kv d := by
  obtain ⟨D, hm, hD⟩ := h.map
  refine ⟨(hk p h.loP h.ltP).trans h.head, ⟨D, ownsMap_block hm (hk mb h.loM h.ltM), hD⟩, fun f hf => ?_, h.keep.kept fun g cs hg hc => hk g hg (Array.getElem?_eq_some_iff.1 hc).1, h.names, h.sorted, h.blks, h.sls, h.loP, h.loM⟩
  have hv := h.files f hf
  exact ⟨(hk _ hv.lo (Array.getElem?_eq_some_iff.1 hv.cells).1).trans hv.cells, hv.own.kept fun g hg => hk g (hv.own.blk hg).1 (hv.own.blk hg).2.2, hv.lo⟩
theorem DiskV.below (h : DiskV w F p mb kv d) (hb : Below w.heap.size w w') : DiskV w' F p mb kv d := h.kept fun i _ hi => hb.block i hi
theorem DiskV.only {S : Nat → Prop} (h : DiskV w F p mb kv d) (ho : Only S w w') (hS : ∀ i, S i → ¬ F i) : DiskV w' F p mb kv d := h.kept fun i hb hi => ho.block i hi fun hs => hS i hs hb
theorem DiskP.below {k : Pk} (h : DiskP w F p k) (hb : Below w.heap.size w w') : DiskP w' F p k := by
  obtain ⟨mb, kv, d, h, e⟩ := h
  exact ⟨mb, kv, d, h.below hb, e⟩
theorem DiskP.only {S : Nat → Prop} {k : Pk} (h : DiskP w F p k) (ho : Only S w w') (hS : ∀ i, S i → ¬ F i) : DiskP w' F p k := by
  obtain ⟨mb, kv, d, h, e⟩ := h
  exact ⟨mb, kv, d, h.only ho hS, e⟩
theorem FileV.mono {F' : Nat → Prop} {f : Fd} (h : FileV w F f) (hF : ∀ i, F i → i < w.heap.size → F' i) : FileV w F' f := by
  refine ⟨h.cells, ?_, hF _ h.lo (Array.getElem?_eq_some_iff.1 h.cells).1⟩
  obtain ⟨A, c, e, h1, h2, h3, h4⟩ := h.own
  exact ⟨A, c, e, h1, h2, h3, h4.imp id fun ⟨g, cur, a, b, e1, r⟩ => ⟨g, cur, a, hF g b (Array.getElem?_eq_some_iff.1 e1).1, e1, r⟩⟩
theorem KeepV.mono {F' : Nat → Prop} {keep : List Int} (h : KeepV w F kv keep) (hF : ∀ i, F i → i < w.heap.size → F' i) : KeepV w F' kv keep := by
  obtain ⟨A, c, e, h1, h2, h3⟩ := h
  refine ⟨A, c, e, h1, h2, fun hn => ?_⟩
  obtain ⟨g, o, cs, e1, e2, e3, e4⟩ := h3 hn
  exact ⟨g, o, cs, e1, hF g e2 (Array.getElem?_eq_some_iff.1 e3).1, e3, e4⟩
theorem DiskV.mono {F' : Nat → Prop} (h : DiskV w F p mb kv d) (hF : ∀ i, F i → i < w.heap.size → F' i) : DiskV w F' p mb kv d :=
  ⟨h.head, h.map, fun f hf => (h.files f hf).mono hF, h.keep.mono hF, h.names, h.sorted, h.blks, h.sls, hF p h.loP h.ltP, hF mb h.loM h.ltM⟩
theorem DiskP.mono {F' : Nat → Prop} {k : Pk} (h : DiskP w F p k) (hF : ∀ i, F i → i < w.heap.size → F' i) : DiskP w F' p k := by
  obtain ⟨mb, kv, d, h, e⟩ := h
  exact ⟨mb, kv, d, h.mono hF, e⟩
def orNew (F : Nat → Prop) (n i : Nat) : Prop := F i ∨ n ≤ i
theorem DiskV.cell (h : DiskV w F p mb kv d) : w.cell? ⟨p, 0, none⟩ = some (.map (some mb)) ∧ w.cell? ⟨p, 1, none⟩ = some (.int .i64 d.ops) ∧ w.cell? ⟨p, 2, none⟩ = some (.int .i64 d.room) ∧ w.cell? ⟨p, 3, none⟩ = some kv ∧ w.cell? ⟨p, 4, none⟩ = some (.int .i64 d.done) ∧ w.cell? ⟨p, 5, none⟩ = some (.int .i64 d.bytes) ∧ w.cell? ⟨p, 6, none⟩ = some (.bool d.down) := by
  refine ⟨?_, ?_, ?_, ?_, ?_, ?_, ?_⟩ <;> (rw [cell_of_row w p _ _ _ _ h.head]; rfl)
theorem DiskV.frozen (h : DiskV w F p mb kv d) (i : Nat) : w.frozen? ⟨p, i, none⟩ = false := frozen_of_row w p i _ _ h.head
theorem DiskV.store (h : DiskV w F p mb kv d) (i : Nat) (v : Value) (d' : Dk) (kv' : Value) (hn : d'.ns = d.ns) (hkp : KeepV w F kv' d'.keep)
    (hc : #[Value.map (some mb), .int .i64 d'.ops, .int .i64 d'.room, kv', .int .i64 d'.done, .int .i64 d'.bytes, .bool d'.down] = (#[Value.map (some mb), .int .i64 d.ops, .int .i64 d.room, kv, .int .i64 d.done, .int .i64 d.bytes, .bool d.down] : Array Value).setIfInBounds i v) : DiskV (w.setCell ⟨p, i, none⟩ v) F p mb kv' d' := by
  obtain ⟨D, hm, hD⟩ := h.map
  have hne : ∀ j, j ≠ p → (w.setCell ⟨p, i, none⟩ v).heap[j]? = w.heap[j]? := fun j hj => heap_setCell_other w ⟨p, i, none⟩ j v hj
  have hty : ∀ j cs (t : TypeId), w.heap[j]? = some (.cells cs t (0, 0)) → t ≠ 116 → j ≠ p := fun j cs t hj ht e => by
    subst e
    rw [h.head] at hj
    injection hj with hj
    injection hj with _ hj
    exact ht hj.symm
  have hmp : mb ≠ p := by
    rintro rfl
    obtain ⟨es, clock, hb, _⟩ := hm
    rw [h.head] at hb
    cases hb
  refine ⟨?_, ⟨D, by rw [hn]; exact ownsMap_block hm (hne mb hmp), by rw [hn]; exact hD⟩, fun f hf => ?_, hkp.kept fun g cs hg hcs => hne g (hty g cs _ hcs (by decide)), by rw [hn]; exact h.names, by rw [hn]; exact h.sorted, by rw [hn]; exact h.blks, by rw [hn]; exact h.sls, h.loP, h.loM⟩
  · rw [hc]
    exact heap_setCell_same w p i _ _ v h.head
  · rw [hn] at hf
    have hv := h.files f hf
    exact ⟨(hne _ (hty _ _ _ hv.cells (by decide))).trans hv.cells, hv.own.kept fun g hg => hne g (by obtain ⟨cs, hL⟩ := (hv.own.blk hg).2.1; exact hty g cs _ hL (by decide)), hv.lo⟩
end
theorem law_str : Keyed Tryz.prog 9 := string_keyed Tryz.underlying9
theorem zero_ptr (w : World) : (zeroValue 151).run Tryz.prog w = .ok (.pointer none) w := by kernel_rfl
theorem key_str (x : Nm) (hl : x.length ≤ 140737488355328) : keyOf Tryz.prog 9 (.string ⟨x.toArray⟩) = some (.string x) := by
  have := WideMaps.keyOf_string_mk (P := Tryz.prog) (k := 9) Tryz.underlying9 (s := ⟨x.toArray⟩) (by simp [ByteArray.size, maxLen]; omega)
  simpa using this
theorem DiskV.look {w : World} {F : Nat → Prop} {p mb : Nat} {kv : Value} {d : Dk} (h : DiskV w F p mb kv d) (x : Nm) (hl : x.length ≤ 140737488355328) :
    (Instr.lookup 114 (.map (some mb)) (.string ⟨x.toArray⟩) false).run Tryz.prog w = .ok (ptrF (findF x d.ns)) w := by
  obtain ⟨D, hm, hD⟩ := h.map
  obtain ⟨v, ps, hrun, hR⟩ := hm.lookup law_str Tryz.underlying114 (zero_ptr w) (zd := .lit (.bool false)) (zp := []) rfl (key_str x hl)
  rw [hD.at_] at hR
  rw [hrun, ptrR_inv hR]
end Go.Proofs.YtjnolpfmchnnmaaGreatDoor
end
