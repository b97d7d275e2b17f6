/-
wal.file; what tells a prefix and a number's digits; wal.segments.
-/
import Derived.Test.YtjnolpfmchnnmaaGreatDoorQPDrops4
import Derived.Test.YtjnolpfmchnnmaaGreatDoorQPDrops3
import Derived.Test.YtjnolpfmchnnmaaGreatDoorQPDrops1
import Derived.Lib.ItoaNum
import Derived.Lib.Atoi
import Derived.Lib.SmallJoins
section
namespace Go.Proofs.YtjnolpfmchnnmaaGreatDoor
set_option maxRecDepth 100000
open Go.RowKit
structure CalmK (k : Pk) (dn : Nat) : Prop where
  ops : k.ops = -1
  room : k.room = -1
  up : k.down = false
  srt : k.fs.Pairwise fun a b => a.name < b.name
  nms : ∀ f ∈ k.fs, nameB f.name = true
  d0 : 0 ≤ k.done
  d1 : k.done ≤ dn
  few : k.fs.length ≤ dn
def fileD (k : Pk) (x : Nm) : Option (List UInt8) := (findP x k.fs).map Fl.data
def putD (D : Nm → Option (List UInt8)) (x : Nm) (c : List UInt8) : Nm → Option (List UInt8) := fun y => if y = x then some c else D y
def delD (D : Nm → Option (List UInt8)) (x : Nm) : Nm → Option (List UInt8) := fun y => if y = x then none else D y
theorem putD_same (D : Nm → Option (List UInt8)) (x : Nm) (c : List UInt8) : putD D x c x = some c := if_pos rfl
theorem putD_ne (D : Nm → Option (List UInt8)) {x y : Nm} (c : List UInt8) (h : y ≠ x) : putD D x c y = D y := if_neg h
theorem delD_ne (D : Nm → Option (List UInt8)) {x y : Nm} (h : y ≠ x) : delD D x y = D y := if_neg h
section
variable {k : Pk} {dn : Nat} {x y : Nm} {b : List UInt8}
theorem findP_name {fs : List Fl} {f : Fl} (h : findP x fs = some f) : f ∈ fs ∧ f.name = x := by
  induction fs with
  | nil => cases h
  | cons g l ih =>
    unfold findP at h
    split at h
    · injection h with h; subst h; exact ⟨List.mem_cons_self, by assumption⟩
    · exact ⟨List.mem_cons_of_mem _ (ih h).1, (ih h).2⟩
theorem findP_non {fs : List Fl} : findP x fs = none ↔ ∀ f ∈ fs, f.name ≠ x := by
  induction fs with
  | nil => exact ⟨fun _ _ h => (by cases h), fun _ => rfl⟩
  | cons g l ih =>
    unfold findP
    split
    · rename_i h
      exact ⟨fun h => (by cases h), fun h' => absurd h (h' g List.mem_cons_self)⟩
    · rename_i h
      rw [ih]
      exact ⟨fun h' f hf => (List.mem_cons.1 hf).elim (fun e => e ▸ h) (h' f), fun h' f hf => h' f (List.mem_cons_of_mem _ hf)⟩
theorem findP_upd (g : Fl → Fl) (hg : ∀ f, (g f).name = f.name) (y : Nm) (fs : List Fl) : findP y (updP x g fs) = if y = x then (findP x fs).map g else findP y fs := by
  induction fs with
  | nil => show none = _; split <;> rfl
  | cons f l ih =>
    show findP y ((if f.name = x then g f else f) :: updP x g l) = _
    by_cases hfx : f.name = x
    · rw [if_pos hfx]
      unfold findP
      rw [hg, hfx, if_pos rfl]
      by_cases hy : y = x
      · rw [if_pos hy.symm, if_pos hy]; rfl
      · rw [if_neg fun e => hy e.symm, if_neg hy, ih, if_neg hy, if_neg fun e => hy e.symm]
    · rw [if_neg hfx]
      unfold findP
      by_cases hfy : f.name = y
      · rw [if_pos hfy, if_neg (fun e => hfx (hfy.trans e))]
        rw [if_pos hfy]
      · rw [if_neg hfy, ih, if_neg hfx]
        split <;> rfl
theorem findP_ins {f : Fl} (y : Nm) {fs : List Fl} : findP y (insP f fs) = if y = f.name then some f else findP y fs := by
  induction fs with
  | nil =>
    show (if f.name = y then some f else none) = _
    by_cases h : y = f.name
    · rw [if_pos h, if_pos h.symm]
    · rw [if_neg h, if_neg fun e => h e.symm]; rfl
  | cons g l ih =>
    unfold insP
    split
    · show (if f.name = y then some f else findP y (g :: l)) = _
      by_cases h : y = f.name
      · rw [if_pos h, if_pos h.symm]
      · rw [if_neg h, if_neg fun e => h e.symm]
    · split
      · rename_i h2
        show (if f.name = y then some f else findP y l) = _
        by_cases h : y = f.name
        · rw [if_pos h, if_pos h.symm]
        · rw [if_neg h, if_neg fun e => h e.symm]
          show _ = if g.name = y then some g else findP y l
          rw [if_neg fun e => h (e.symm.trans h2.symm)]
      · rename_i h1 h2
        show (if g.name = y then some g else findP y (insP f l)) = if y = f.name then some f else if g.name = y then some g else findP y l
        rw [ih]
        by_cases h : y = f.name
        · rw [if_pos h, if_pos h, if_neg fun e => h2 (h.symm.trans e.symm)]
        · rw [if_neg h, if_neg h]
theorem findP_del (y : Nm) {fs : List Fl} : findP y (delP x fs) = if y = x then none else findP y fs := by
  induction fs with
  | nil => show none = _; split <;> rfl
  | cons g l ih =>
    unfold delP
    split
    · rename_i h
      rw [ih]
      by_cases hy : y = x
      · rw [if_pos hy, if_pos hy]
      · rw [if_neg hy, if_neg hy]
        show _ = if g.name = y then some g else findP y l
        rw [if_neg fun e => hy (e.symm.trans h)]
    · rename_i h
      show (if g.name = y then some g else findP y (delP x l)) = if y = x then none else if g.name = y then some g else findP y l
      rw [ih]
      by_cases hy : y = x
      · rw [if_pos hy, if_pos hy, if_neg fun e => h (e.trans hy)]
      · rw [if_neg hy, if_neg hy]
theorem mem_insP' {f g : Fl} {fs : List Fl} (h : g ∈ insP f fs) : g = f ∨ g ∈ fs := by
  induction fs with
  | nil => exact .inl (by simpa [insP] using h)
  | cons a l ih =>
    unfold insP at h
    split at h
    · exact (List.mem_cons.1 h).elim .inl .inr
    · split at h
      · exact (List.mem_cons.1 h).elim .inl fun h => .inr (List.mem_cons_of_mem _ h)
      · rcases List.mem_cons.1 h with h | h
        · exact .inr (h ▸ List.mem_cons_self)
        · exact (ih h).elim .inl fun h => .inr (List.mem_cons_of_mem _ h)
theorem sub_delP (x : Nm) (fs : List Fl) : (delP x fs).Sublist fs := by
  induction fs with
  | nil => exact .slnil
  | cons a l ih => unfold delP; split; exact .cons _ ih; exact .cons_cons _ ih
theorem len_insP' (f : Fl) (fs : List Fl) : (insP f fs).length ≤ fs.length + 1 := by
  induction fs with
  | nil => exact Nat.le_refl _
  | cons a l ih =>
    unfold insP
    split
    · exact Nat.le_refl _
    · split
      · simp
      · simp only [List.length_cons]; omega
theorem srt_ins' {f : Fl} {fs : List Fl} (h : fs.Pairwise fun a b => a.name < b.name) : (insP f fs).Pairwise fun a b => a.name < b.name := by
  induction fs with
  | nil => exact List.pairwise_singleton _ _
  | cons a l ih =>
    have ha := (List.pairwise_cons.1 h).1
    have hl := (List.pairwise_cons.1 h).2
    unfold insP
    split
    · rename_i h1
      refine List.pairwise_cons.2 ⟨fun x hx => ?_, h⟩
      rcases List.mem_cons.1 hx with rfl | hx
      · exact h1
      · exact List.lt_trans h1 (ha x hx)
    · split
      · rename_i h1 h2
        exact List.pairwise_cons.2 ⟨fun x hx => by show f.name < x.name; rw [h2]; exact ha x hx, hl⟩
      · rename_i h1 h2
        refine List.pairwise_cons.2 ⟨fun x hx => ?_, ih hl⟩
        rcases mem_insP' hx with rfl | hx
        · exact lt_tri _ _ h1 h2
        · exact ha x hx
theorem srt_upd' {g : Fl → Fl} (hg : ∀ f, (g f).name = f.name) {fs : List Fl} (h : fs.Pairwise fun a b => a.name < b.name) : (updP x g fs).Pairwise fun a b => a.name < b.name := by
  unfold updP
  rw [List.pairwise_map]
  refine h.imp fun {a b} hab => ?_
  have e : ∀ f : Fl, (if f.name = x then g f else f).name = f.name := fun f => by split <;> simp [hg]
  rw [e, e]
  exact hab
theorem nms_upd {g : Fl → Fl} (hg : ∀ f, (g f).name = f.name) {fs : List Fl} (h : ∀ f ∈ fs, nameB f.name = true) : ∀ f ∈ updP x g fs, nameB f.name = true := fun f hf => by
  obtain ⟨f', hf', rfl⟩ := List.mem_map.1 hf
  split
  · rw [hg]; exact h f' hf'
  · exact h f' hf'
theorem CalmK.crash (h : CalmK k dn) : crashes k = false := by unfold crashes; rw [h.ops]; rfl
theorem CalmK.change (h : CalmK k dn) : changeK k = { k with done := k.done + 1 } := by unfold changeK; rw [h.crash]; rfl
theorem CalmK.changeE (h : CalmK k dn) : changeE k = 0 := by unfold _root_.Go.Proofs.YtjnolpfmchnnmaaGreatDoor.changeE; rw [h.crash]; rfl
theorem CalmK.ready (h : CalmK k dn) (hx : nameB x = true) : readyE k [x] = if (fileD k x).isNone = true then 22 else 0 := by
  unfold readyE fileD
  rw [h.up, if_neg (by decide)]
  simp only [List.all_cons, List.all_nil, hx, Bool.and_true]
  rw [if_neg (by decide), Option.isNone_map]
theorem CalmK.ready0 (h : CalmK k dn) : readyE k [] = 0 := by
  unfold readyE
  rw [h.up]
  rfl
theorem CalmK.ready_none (h : CalmK k dn) (hx : nameB x = true) (hf : fileD k x = none) : readyE k [x] = 22 := by rw [h.ready hx, hf]; rfl
theorem CalmK.ready_some (h : CalmK k dn) (hx : nameB x = true) {c : List UInt8} (hf : fileD k x = some c) : readyE k [x] = 0 := by rw [h.ready hx, hf]; rfl
theorem CalmK.mono (h : CalmK k dn) {dn' : Nat} (hd : dn ≤ dn') : CalmK k dn' := ⟨h.ops, h.room, h.up, h.srt, h.nms, h.d0, by have := h.d1; omega, by have := h.few; omega⟩
theorem CalmK.append (h : CalmK k dn) (hx : nameB x = true) (b : List UInt8) : appendE k x b = 0 ∧ CalmK (appendK k x b) (dn + 1) ∧ fileD (appendK k x b) = putD (fileD k) x ((fileD k x).getD [] ++ b) := by
  have hr : readyE k [x] = 0 ∨ readyE k [x] = 22 := by rw [h.ready hx]; split <;> simp
  have hf : fullP k b.length = false := by unfold fullP; rw [h.room]; rfl
  refine ⟨by unfold appendE; rw [if_pos hr, hf]; exact h.changeE, ?_, ?_⟩
  · unfold appendK
    rw [if_pos hr, hf, h.crash, h.change, if_neg (by decide), if_neg (by decide)]
    refine ⟨h.ops, h.room, h.up, ?_, ?_, by have := h.d0; show 0 ≤ k.done + 1; omega, by have := h.d1; show k.done + 1 ≤ _; omega, ?_⟩
    · show (appFs x b k.fs).Pairwise _
      unfold appFs
      refine srt_upd' (g := fun f => { f with data := f.data ++ b }) (fun _ => rfl) ?_
      split
      · exact h.srt
      · exact srt_ins' h.srt
    · show ∀ f ∈ appFs x b k.fs, _
      unfold appFs
      refine nms_upd (g := fun f => { f with data := f.data ++ b }) (fun _ => rfl) ?_
      split
      · exact h.nms
      · exact fun f hf => (mem_insP' hf).elim (fun e => by rw [e]; exact hx) (h.nms f)
    · show (appFs x b k.fs).length ≤ _
      have := h.few
      unfold appFs updP
      rw [List.length_map]
      split
      · omega
      · have := len_insP' ⟨x, [], 0⟩ k.fs; omega
  · have e : (appendK k x b).fs = appFs x b k.fs := by
      unfold appendK
      rw [if_pos hr, hf, h.crash, if_neg (by decide), if_neg (by decide)]
    funext y
    unfold fileD putD
    rw [e]
    unfold appFs
    rw [findP_upd (fun f => { f with data := f.data ++ b }) (fun _ => rfl)]
    by_cases hy : y = x
    · subst hy
      rw [if_pos rfl, if_pos rfl]
      cases hq : findP y k.fs with
      | none => rw [if_neg (by simp), findP_ins, if_pos rfl]; rfl
      | some f => rw [if_pos (by simp), hq]; rfl
    · rw [if_neg hy, if_neg hy]
      split
      · rfl
      · rw [findP_ins, if_neg hy]
theorem CalmK.sync (h : CalmK k dn) (hx : nameB x = true) {c : List UInt8} (hf : fileD k x = some c) : syncE k x = 0 ∧ CalmK (syncK k x) (dn + 1) ∧ fileD (syncK k x) = fileD k := by
  have hr := h.ready_some hx hf
  refine ⟨by unfold syncE; rw [if_pos hr]; exact h.changeE, ?_, ?_⟩
  · unfold syncK
    rw [if_pos hr, h.crash, h.change, if_neg (by decide)]
    exact ⟨h.ops, h.room, h.up, srt_upd' (g := fun f => { f with synced := f.data.length }) (fun _ => rfl) h.srt, nms_upd (g := fun f => { f with synced := f.data.length }) (fun _ => rfl) h.nms, by have := h.d0; show 0 ≤ k.done + 1; omega, by have := h.d1; show k.done + 1 ≤ _; omega, by have := h.few; show (updP _ _ _).length ≤ _; unfold updP; rw [List.length_map]; exact Nat.le_succ_of_le this⟩
  · unfold syncK
    rw [if_pos hr, h.crash, h.change, if_neg (by decide)]
    funext y
    unfold fileD
    show (findP y (updP x _ k.fs)).map Fl.data = _
    rw [findP_upd (fun f => { f with synced := f.data.length }) (fun _ => rfl)]
    by_cases hy : y = x
    · rw [if_pos hy, hy]; cases findP x k.fs <;> rfl
    · rw [if_neg hy]
theorem CalmK.delete (h : CalmK k dn) (hx : nameB x = true) {c : List UInt8} (hf : fileD k x = some c) : syncE k x = 0 ∧ CalmK (deleteK k x) (dn + 1) ∧ fileD (deleteK k x) = delD (fileD k) x := by
  have hr := h.ready_some hx hf
  refine ⟨by unfold syncE; rw [if_pos hr]; exact h.changeE, ?_, ?_⟩
  · unfold deleteK
    rw [if_pos hr, h.crash, h.change, if_neg (by decide)]
    exact ⟨h.ops, h.room, h.up, h.srt.sublist (sub_delP x _), fun f hf => h.nms f ((sub_delP x _).subset hf), by have := h.d0; show 0 ≤ k.done + 1; omega, by have := h.d1; show k.done + 1 ≤ _; omega, by have := h.few; have := (sub_delP x k.fs).length_le; show (delP x k.fs).length ≤ _; omega⟩
  · unfold deleteK
    rw [if_pos hr, h.crash, h.change, if_neg (by decide)]
    funext y
    unfold fileD delD
    show (findP y (delP x k.fs)).map Fl.data = _
    rw [findP_del]
    split <;> rfl
theorem fileD_readD : readD k x = (fileD k x).getD [] := by
  unfold readD fileD
  cases findP x k.fs <;> rfl
theorem CalmK.list (h : CalmK k dn) : listP k = k.fs.map Fl.name := by unfold listP; rw [h.up]; rfl
theorem CalmK.listSorted (h : CalmK k dn) : (listP k).Pairwise fun a b => a < b := by
  rw [h.list, List.pairwise_map]
  exact h.srt
theorem CalmK.mem_list (h : CalmK k dn) : x ∈ listP k ↔ (fileD k x).isSome = true := by
  rw [h.list]
  unfold fileD
  rw [Option.isSome_map]
  constructor
  · intro hx
    obtain ⟨f, hf, e⟩ := List.mem_map.1 hx
    cases hq : findP x k.fs with
    | some f => rfl
    | none => exact absurd e (findP_non.1 hq f hf)
  · intro hx
    cases hq : findP x k.fs with
    | none => rw [hq] at hx; cases hx
    | some f => exact List.mem_map.2 ⟨f, (findP_name hq).1, (findP_name hq).2⟩
theorem CalmK.name_ok (h : CalmK k dn) (hx : (fileD k x).isSome = true) : nameB x = true := by
  have := h.mem_list.2 hx
  rw [h.list] at this
  obtain ⟨f, hf, rfl⟩ := List.mem_map.1 this
  exact h.nms f hf
theorem CalmK.list_len (h : CalmK k dn) : ∀ x ∈ listP k, x.length ≤ 140737488355328 := fun x hx => by
  have := h.name_ok (h.mem_list.1 hx)
  unfold nameB at this
  simp only [Bool.and_eq_true, decide_eq_true_eq] at this
  omega
end
end Go.Proofs.YtjnolpfmchnnmaaGreatDoor
end
section
namespace Go.Proofs.YtjnolpfmchnnmaaGreatDoor
set_option maxRecDepth 100000
open Go.RowKit Go.BigFrame Go.Sort Go.Shelf Go.Lib
def digB (b : UInt8) : Bool := decide (48 ≤ b.toNat) && decide (b.toNat ≤ 57)
def badDig (r : Nat) : Bool := !(decide (48 ≤ r) && decide (r ≤ 57))
def lowB (b : UInt8) : Bool := decide (97 ≤ b.toNat) && decide (b.toNat ≤ 122)
def badLow (r : Nat) : Bool := !(decide (97 ≤ r) && decide (r ≤ 122))
theorem idx_pred (bad : Nat → Bool) (ok : UInt8 → Bool) (hb : ∀ b : UInt8, bad b.toNat = !ok b) (hh : ∀ r, 128 ≤ r → bad r = true) (l : List UInt8) : ∀ (f pos : Nat), l.length ≤ pos + f → (0 ≤ Lib.idxFuncFrom bad true ⟨l.toArray⟩ f pos ↔ ∃ b ∈ l.drop pos, ok b = false)
  | 0, pos, h => by
    rw [List.drop_eq_nil_of_le (by omega)]
    simp [Lib.idxFuncFrom]
  | f + 1, pos, h => by
    unfold Lib.idxFuncFrom
    by_cases hp : pos < l.length
    · have hs : pos < (⟨l.toArray⟩ : ByteArray).size := by rw [ba_size]; exact hp
      rw [if_pos hs]
      have hd : l.drop pos = l[pos] :: l.drop (pos + 1) := List.drop_eq_getElem_cons hp
      have he : (⟨l.toArray⟩ : ByteArray)[pos]'hs = l[pos] := rfl
      by_cases ha : l[pos].toNat < 128
      · rw [decode_ascii _ _ hs (by rw [he]; exact ha), he]
        dsimp only
        by_cases ho : ok l[pos] = true
        · have := idx_pred bad ok hb hh l f (pos + 1) (by omega)
          rw [if_neg (by rw [hb, ho]; simp), this, hd]
          refine ⟨fun ⟨b, h1, h2⟩ => ⟨b, List.mem_cons_of_mem _ h1, h2⟩, fun ⟨b, h1, h2⟩ => ?_⟩
          rcases List.mem_cons.1 h1 with rfl | h1
          · rw [ho] at h2; cases h2
          · exact ⟨b, h1, h2⟩
        · have ho' : ok l[pos] = false := by simpa using ho
          rw [if_pos (by rw [hb, ho']; rfl), hd]
          refine ⟨fun _ => ⟨l[pos], List.mem_cons_self, ho'⟩, fun _ => by omega⟩
      · have hh' := decode_high _ _ hs (by rw [he]; omega)
        rw [if_pos (hh _ hh'.1)]
        refine ⟨fun _ => ⟨l[pos], by rw [hd]; exact List.mem_cons_self, ?_⟩, fun _ => by omega⟩
        have := hb l[pos]
        rw [hh _ (by omega)] at this
        simpa using this.symm
    · rw [if_neg (by rw [ba_size]; exact hp), List.drop_eq_nil_of_le (by omega)]
      simp
theorem idx_all (bad : Nat → Bool) (ok : UInt8 → Bool) (hb : ∀ b : UInt8, bad b.toNat = !ok b) (hh : ∀ r, 128 ≤ r → bad r = true) (l : List UInt8) : decide (0 ≤ Lib.idxFunc bad true ⟨l.toArray⟩) = !l.all ok := by
  have h := idx_pred bad ok hb hh l (⟨l.toArray⟩ : ByteArray).size 0 (by rw [ba_size]; omega)
  rw [List.drop_zero] at h
  unfold Lib.idxFunc
  rw [Bool.eq_iff_iff, decide_eq_true_iff, h]
  simp
theorem idx_dig (l : List UInt8) : decide (0 ≤ Lib.idxFunc badDig true ⟨l.toArray⟩) = !l.all digB := idx_all badDig digB (fun _ => rfl) (fun r h => by unfold badDig; simp; omega) l
theorem idx_low (l : List UInt8) : decide (0 ≤ Lib.idxFunc badLow true ⟨l.toArray⟩) = !l.all lowB := idx_all badLow lowB (fun _ => rfl) (fun r h => by unfold badLow; simp; omega) l
def sufW : Nm := [46, 108, 111, 103]
def tmpW : Nm := [46, 116, 109, 112]
def dig6 (n : Nat) : Nm := [dg n 5, dg n 4, dg n 3, dg n 2, dg n 1, dg n 0]
def nameW (pre : Nm) (n : Nat) : Nm := pre ++ dig6 n ++ sufW
theorem dg_add (n : Nat) {j : Nat} (h : j < 6) : dg (n + 1000000) j = dg n j := by
  have e : (n + 1000000) / 10 ^ j % 10 = n / 10 ^ j % 10 := by
    rcases (by omega : j = 0 ∨ j = 1 ∨ j = 2 ∨ j = 3 ∨ j = 4 ∨ j = 5) with rfl | rfl | rfl | rfl | rfl | rfl <;> (simp only [Nat.reducePow]; omega)
  unfold dg
  rw [e]
theorem dg_top {n : Nat} (h : n < 1000000) : dg (n + 1000000) 6 = 49 := by
  have e : (n + 1000000) / 10 ^ 6 % 10 = 1 := by simp only [Nat.reducePow]; omega
  unfold dg
  rw [e]
  rfl
theorem itoa_dig6 {n : Nat} (h : n < 1000000) : Lib.itoa ((n + 1000000 : Nat) : Int) = 49 :: dig6 n := by
  have h6 : (10 : Nat) ^ 6 = 1000000 := by decide
  have h7 : (10 : Nat) ^ (6 + 1) = 10000000 := by decide
  unfold Lib.itoa
  rw [if_neg (by omega), Int.toNat_natCast, decDigits_eq, nDigits_unique 6 (n + 1000000) (by omega) (by omega)]
  show [dg (n + 1000000) 6, dg (n + 1000000) 5, dg (n + 1000000) 4, dg (n + 1000000) 3, dg (n + 1000000) 2, dg (n + 1000000) 1, dg (n + 1000000) 0] = _
  rw [dg_top h, dg_add n (by omega), dg_add n (by omega), dg_add n (by omega), dg_add n (by omega), dg_add n (by omega), dg_add n (by omega)]
  rfl
def segNo (pre x : Nm) : Nat :=
  if pre.isPrefixOf x = true then (if sufW.isSuffixOf (x.drop pre.length) = true then (if (x.drop pre.length).length = 10 then (if ((x.drop pre.length).take 6).all digB = true then ((Lib.decNat ((x.drop pre.length).take 6)).getD 0) else 0) else 0) else 0) else 0
def segsP (pre : Nm) (xs : List Nm) : List Nat := (xs.map (segNo pre)).filter (fun n => decide (0 < n))
theorem dg_toNat (n j : Nat) : (dg n j).toNat = 48 + n / 10 ^ j % 10 := by
  unfold dg
  simp
  omega
theorem dig6_ok (n : Nat) : (dig6 n).all digB = true := by
  unfold dig6 digB
  simp only [List.all_cons, List.all_nil, dg_toNat, Bool.and_true, Bool.and_eq_true, decide_eq_true_eq]
  omega
theorem digitVal_dg (n j : Nat) : Lib.digitVal (dg n j) = some (n / 10 ^ j % 10) := by
  unfold Lib.digitVal
  rw [dg_toNat, if_pos (by omega)]
  simp
theorem dec_dig6 {n : Nat} (h : n < 1000000) : Lib.decNat (dig6 n) = some n := by
  unfold Lib.decNat dig6
  simp only [List.isEmpty_cons, Bool.false_eq_true, if_false, Lib.decFrom, digitVal_dg]
  congr 1
  omega
theorem seg_nameW (pre : Nm) {n : Nat} (h : n < 1000000) : segNo pre (nameW pre n) = n := by
  have hd : (nameW pre n).drop pre.length = dig6 n ++ sufW := by unfold nameW; rw [List.append_assoc, List.drop_left]
  have h1 : pre.isPrefixOf (nameW pre n) = true := List.isPrefixOf_iff_prefix.2 ⟨dig6 n ++ sufW, by unfold nameW; rw [List.append_assoc]⟩
  have h2 : sufW.isSuffixOf (dig6 n ++ sufW) = true := List.isSuffixOf_iff_suffix.2 ⟨_, rfl⟩
  unfold segNo
  rw [if_pos h1, hd, if_pos h2, if_pos (show (dig6 n ++ sufW).length = 10 from rfl), show (dig6 n ++ sufW).take 6 = dig6 n from rfl, if_pos (dig6_ok n), dec_dig6 h]
  rfl
theorem atoi_dig {l : Nm} (h : l.all digB = true) (h0 : l ≠ []) : ∃ m, Lib.decNat l = some m ∧ Lib.atoi l = some (m : Int) := by
  have hd : ∀ (l : Nm) (acc : Nat), l.all digB = true → ∃ m, Lib.decFrom acc l = some m := by
    intro l
    induction l with
    | nil => intro acc _; exact ⟨acc, rfl⟩
    | cons b r ih =>
      intro acc h
      rw [List.all_cons, Bool.and_eq_true] at h
      have hb : 48 ≤ b.toNat ∧ b.toNat ≤ 57 := by simpa [digB] using h.1
      unfold Lib.decFrom
      rw [show Lib.digitVal b = some (b.toNat - 48) from by unfold Lib.digitVal; rw [if_pos hb]]
      exact ih _ h.2
  match l, h0 with
  | b :: r, _ =>
    obtain ⟨m, hm⟩ := hd (b :: r) 0 h
    have hb : 48 ≤ b.toNat ∧ b.toNat ≤ 57 := by
      rw [List.all_cons, Bool.and_eq_true] at h
      simpa [digB] using h.1
    have e : Lib.decNat (b :: r) = some m := by unfold Lib.decNat; simpa using hm
    refine ⟨m, e, ?_⟩
    have n1 : (b == 45) = false := by
      apply Bool.eq_false_iff.2
      intro hc
      rw [beq_iff_eq] at hc
      subst hc
      exact absurd hb.1 (by decide)
    have n2 : (b == 43) = false := by
      apply Bool.eq_false_iff.2
      intro hc
      rw [beq_iff_eq] at hc
      subst hc
      exact absurd hb.1 (by decide)
    simp [Lib.atoi, n1, n2, e]
theorem segNo_steps (pre x y z : Nm) (b1 b2 : Bool) (h1 : Lib.hasPrefix x pre = b1) (hy : Lib.trimPrefix x pre = y) (h2 : Lib.hasSuffix y sufW = b2) (hz : Lib.trimSuffix y sufW = z) :
    segNo pre x = if b1 = true ∧ b2 = true ∧ z.length = 6 ∧ z.all digB = true then (Lib.decNat z).getD 0 else 0 := by
  unfold Lib.trimPrefix at hy
  unfold Lib.trimSuffix at hz
  rw [h1] at hy
  rw [h2] at hz
  unfold segNo
  rw [show pre.isPrefixOf x = b1 from h1]
  cases b1 with
  | false => simp
  | true =>
    rw [if_pos rfl] at hy
    rw [if_pos rfl, hy, show sufW.isSuffixOf y = b2 from h2]
    cases b2 with
    | false => simp
    | true =>
      rw [if_pos rfl] at hz
      have hs : 4 ≤ y.length := by
        have := (List.isSuffixOf_iff_suffix.1 (show sufW.isSuffixOf y = true from h2)).length_le
        exact this
      have hzl : z.length = y.length - 4 := by rw [← hz, List.length_take]; show min (y.length - 4) y.length = _; omega
      by_cases h10 : y.length = 10
      · have e : y.take 6 = z := by rw [← hz]; show _ = y.take (y.length - 4); rw [h10]
        rw [if_pos rfl, if_pos h10, e]
        by_cases hd : z.all digB = true
        · rw [if_pos hd, if_pos ⟨rfl, rfl, by omega, hd⟩]
        · rw [if_neg hd, if_neg fun h => hd h.2.2.2]
      · rw [if_pos rfl, if_neg h10, if_neg fun h => h10 (by have := h.2.2.1; omega)]
theorem segsP_snoc (pre : Nm) (xs : List Nm) (x : Nm) : segsP pre (xs ++ [x]) = segsP pre xs ++ (if 0 < segNo pre x then [segNo pre x] else []) := by
  unfold segsP
  rw [List.map_append, List.filter_append]
  congr 1
  simp only [List.map_cons, List.map_nil, List.filter_cons, List.filter_nil, decide_eq_true_eq]
theorem segsP_len (pre : Nm) (xs : List Nm) : (segsP pre xs).length ≤ xs.length := by
  unfold segsP
  have := List.length_filter_le (fun n => decide (0 < n)) (xs.map (segNo pre))
  simpa using this
theorem trim_len (x pre : Nm) : (Lib.trimPrefix x pre).length ≤ x.length ∧ (Lib.trimSuffix (Lib.trimPrefix x pre) sufW).length ≤ x.length := by
  have h1 : (Lib.trimPrefix x pre).length ≤ x.length := by
    unfold Lib.trimPrefix
    split
    · rw [List.length_drop]; omega
    · exact Nat.le_refl _
  refine ⟨h1, ?_⟩
  unfold Lib.trimSuffix
  split
  · rw [List.length_take]; omega
  · exact h1
theorem decNat_lt {z : Nm} (h6 : z.length = 6) (hd : z.all digB = true) : (Lib.decNat z).getD 0 < 1000000 := by
  match z, h6 with
  | [a, b, c, d, e, f], _ =>
    simp only [List.all_cons, List.all_nil, Bool.and_true, Bool.and_eq_true] at hd
    have hv : ∀ x : UInt8, digB x = true → Lib.digitVal x = some (x.toNat - 48) ∧ x.toNat - 48 ≤ 9 := fun x h => by
      have : 48 ≤ x.toNat ∧ x.toNat ≤ 57 := by simpa [digB] using h
      exact ⟨by unfold Lib.digitVal; rw [if_pos this], by omega⟩
    obtain ⟨ha, hb, hc, hd, he, hf⟩ := hd
    obtain ⟨ha, la⟩ := hv a ha
    obtain ⟨hb, lb⟩ := hv b hb
    obtain ⟨hc, lc⟩ := hv c hc
    obtain ⟨hd, ld⟩ := hv d hd
    obtain ⟨he, le⟩ := hv e he
    obtain ⟨hf, lf⟩ := hv f hf
    unfold Lib.decNat
    simp only [List.isEmpty_cons, Bool.false_eq_true, if_false, Lib.decFrom, ha, hb, hc, hd, he, hf, Option.getD_some]
    omega
theorem segNo_lt (pre x : Nm) : segNo pre x < 1000000 := by
  rw [segNo_steps pre x _ _ _ _ rfl rfl rfl rfl]
  split
  · rename_i h
    exact decNat_lt h.2.2.1 h.2.2.2
  · omega
end Go.Proofs.YtjnolpfmchnnmaaGreatDoor
end
section
namespace Go.Proofs.YtjnolpfmchnnmaaGreatDoor
set_option maxRecDepth 100000
open Go.RowKit Go.BigFrame Go.Sort Go.Shelf Go.Lib Go.Maps
def DkP (w : World) (base p : Nat) (k : Pk) : Prop := ∃ F, DiskP w F p k ∧ ∀ i, F i → base ≤ i ∧ i < w.heap.size
theorem DkP.made {w : World} {F : Nat → Prop} {base p : Nat} {k : Pk} (h : DiskP w F p k) (hF : ∀ i, F i → i < w.heap.size → base ≤ i) : DkP w base p k :=
  ⟨fun i => base ≤ i ∧ i < w.heap.size, h.mono fun i hi hl => ⟨hF i hi hl, hl⟩, fun _ hi => hi⟩
section
variable {w w2 : World} {base p : Nat} {k : Pk}
theorem new_dk (S : Nat → Prop) (ops room : Int) (v : Value) (zs : List Int) (w : World) (hz : IntsIn w S v zs) (hl : zs.length * 8 ≤ 140737488355328) (base : Nat) (hbase : base ≤ w.heap.size) :
    Calls Tryz.prog 15 #[.agg #[.int .i64 ops, .int .i64 room, v]] w fun r w' => ∃ p, r = .returned (.pointer (some ⟨p, 0, none⟩)) ∧ DkP w' base p ⟨[], ops, room, zs, 0, 0, false⟩ ∧ Below w.heap.size w w' := by
  refine (new_any S ops room v zs w hz hl).mono ?_
  rintro r w' ⟨p, rfl, h, hb⟩
  exact ⟨p, rfl, .made h fun i hi _ => Nat.le_trans hbase hi, hb⟩
end
end Go.Proofs.YtjnolpfmchnnmaaGreatDoor
end
section
namespace Go.Proofs.YtjnolpfmchnnmaaGreatDoor
set_option maxRecDepth 100000
open Go.RowKit Go.BigFrame Go.Sort Go.Shelf Go.Lib
attribute [local go_sem ↓] Go.wp_at_zero Go.wp_at_succ
def TabW (w : World) : Prop := Lib.TabIs Tryz.prog w "internal/strconv.uint64pow10" .u64 Lib.pow10Tab
def tabG : Nat := 3
theorem gTab : Tryz.prog.globalNamed "internal/strconv.uint64pow10" = some tabG := by kernel_rfl
theorem TabW.lt {w : World} (h : TabW w) : tabG < w.heap.size := by
  unfold TabW Lib.TabIs World.var? at h
  rw [gTab, Option.bind_some] at h
  rcases Nat.lt_or_ge tabG w.heap.size with h' | h'
  · exact h'
  · rw [Array.getElem?_eq_none h'] at h; cases h
theorem TabW.only {w w' : World} {S : Nat → Prop} (h : TabW w) (ho : Only S w w') (hS : ∀ i, S i → tabG < i) : TabW w' := by
  have hz := h.lt
  unfold TabW Lib.TabIs World.var? at h ⊢
  rw [gTab, Option.bind_some] at h ⊢
  rw [ho.block tabG hz fun hs => by have := hS tabG hs; omega]
  exact h
theorem TabW.below {w w' : World} (h : TabW w) (hf : fr w w') : TabW w' := h.only (S := fun _ => False) (Only.of_below hf) fun _ h => h.elim
theorem fr_grow (w : World) (k : Nat) (os : Array Obj) : fr w (Sort.grow (w.drewN k) os) := ⟨rfl, rfl, rfl, by simp [Sort.grow, World.drewN], fun i hi => by
  show (w.heap ++ os)[i]? = _
  rw [Array.getElem?_append_left hi]⟩
set_option maxRecDepth 100000 in
set_option maxHeartbeats 1000000 in
theorem file_any (pre : Nm) (n : Nat) (w : World) (ht : TabW w) (hp : pre.length ≤ 64) (hn : n < 1000000) :
    Calls Tryz.prog 65 #[.string ⟨pre.toArray⟩, .int .i64 n] w fun r w' => r = .returned (.string ⟨(nameW pre n).toArray⟩) ∧ fr w w' := by
  have hi : Lib.itoa ((n : Int) + 1000000) = 49 :: dig6 n := by
    have := itoa_dig6 hn
    rwa [Int.natCast_add] at this
  have HI := fun wx (hx : TabW wx) => Tryz.strconv_Itoa ((n : Int) + 1000000) (by omega) (by omega) wx hx
  simp only [hi] at HI
  have HT := Lib.hid ht
  obtain ⟨S, hS⟩ : ∃ S : ByteArray, (⟨(49 :: dig6 n).toArray⟩ : ByteArray) = S := ⟨_, rfl⟩
  have h7 : S.size = 7 := by rw [← hS]; rfl
  obtain ⟨A, hA⟩ : ∃ A : ByteArray, (⟨pre.toArray⟩ : ByteArray) = A := ⟨_, rfl⟩
  obtain ⟨D, hD⟩ : ∃ D : ByteArray, (⟨(dig6 n).toArray⟩ : ByteArray) = D := ⟨_, rfl⟩
  have hx : S.extract 1 7 = D := by rw [← hS, ← hD]; rfl
  rw [hS] at HI
  have hA0 : A.size ≤ 64 := by rw [← hA, ba_size]; exact hp
  have hD0 : D.size = 6 := by rw [← hD]; rfl
  have hAD : (A ++ D).size = A.size + 6 := by rw [ByteArray.size_append, hD0]
  have HR : Hid (A ++ D ++ ⟨#[46, 108, 111, 103]⟩ = ⟨(nameW pre n).toArray⟩) := Lib.hid (by
    rw [← hA, ← hD]
    unfold nameW sufW
    apply ByteArray.ext
    simp)
  clear hi ht hS hD hp
  rw [hA]
  clear hA
  go_enter Tryz.func65, Tryz.ntmps65
  go_wp2_with (go_at_call 119; refine (HI _ HT.out).mono ?_; rintro r w1 ⟨rfl, k, os, rfl⟩)
  go_ret
  rw [HR.out]
  exact ⟨rfl, fr_grow _ _ _⟩
end Go.Proofs.YtjnolpfmchnnmaaGreatDoor
end
