/-
A log's names, in plain words.
-/
import Derived.Test.YtjnolpfmchnnmaaGreatDoorQPNil5
import Derived.Test.YtjnolpfmchnnmaaGreatDoorQPNil4
import Derived.Test.YtjnolpfmchnnmaaGreatDoorQPNil2
import Derived.Lib.ItoaNum
import Derived.Lib.Atoi
section
namespace Go.Proofs.YtjnolpfmchnnmaaGreatDoor
set_option maxRecDepth 100000
open Go.RowKit Go.BigFrame Go.Sort Go.Shelf Go.Lib Go.Maps
attribute [local go_sem ↓] Go.wp_at_zero Go.wp_at_succ
theorem Row.monoLt {w : World} {S S' : Nat → Prop} {A : Option Addr} {n sz : Nat} {xs : List Value} (h : Row w S A n sz xs) (hS : ∀ i, i < w.heap.size → S i → S' i) : Row w S' A n sz xs :=
  ⟨h.1, fun hn => by obtain ⟨b, o, e, h1, hb, hc⟩ := h.2 hn; exact ⟨b, o, e, hS b hb h1, hb, hc⟩⟩
theorem Row.push {w w2 : World} {S S' : Nat → Prop} {v' row : Value} {A : Option Addr} {n sz : Nat} {xs : List Value} (h : Row w S A n sz xs) (hg : w.grownBy w2 row.ownBlock) (hat : v'.ownBlock = row.ownBlock ∨ v'.ownBlock = some w.heap.size)
    (hne : ∀ i, i < w.heap.size → S i → row.ownBlock ≠ some i) (hS : ∀ i, i < w.heap.size → S i → v'.ownBlock ≠ some i → S' i) : Row w2 S' A n sz xs := by
  have h1 : Row w (fun i => S i ∧ i < w.heap.size) A n sz xs := h.monoLt fun i hi hs => ⟨hs, hi⟩
  have h2 : Row w2 (fun i => S i ∧ i < w.heap.size) A n sz xs := h1.only (S := fun i => row.ownBlock = some i) ⟨hg.os, hg.tape, hg.output, hg.size, fun i hi hS => hg.block i hi (fun e => hS e.symm)⟩ (fun i hi hT => hne i hi hT.1)
  refine h2.mono fun i hi => hS i hi.2 hi.1 (fun e => ?_)
  rcases hat with h | h
  · exact hne i hi.2 hi.1 (h ▸ e)
  · rw [h] at e
    injection e with e
    omega
abbrev Rd (α : Type) := World → (Nat → Prop) → α → List Value → Prop
structure Fine {α : Type} (R : Rd α) (k : Nat) : Prop where
  len : ∀ {w S x cs}, R w S x cs → cs.length = k
  keep : ∀ {w w' : World} {S S' : Nat → Prop} {x cs}, R w S x cs → (∀ A n sz xs, Row w S A n sz xs → Row w' S' A n sz xs) → R w' S' x cs
inductive All2 {α β : Type} (P : α → β → Prop) : List α → List β → Prop
  | nil : All2 P [] []
  | cons {a b l m} : P a b → All2 P l m → All2 P (a :: l) (b :: m)
theorem All2.imp {α β : Type} {P Q : α → β → Prop} (h : ∀ a b, P a b → Q a b) {l : List α} {m : List β} (hl : All2 P l m) : All2 Q l m := by
  induction hl with
  | nil => exact .nil
  | cons h1 _ ih => exact .cons (h _ _ h1) ih
theorem All2.snoc {α β : Type} {P : α → β → Prop} {l : List α} {m : List β} {a : α} {b : β} (hl : All2 P l m) (h : P a b) : All2 P (l ++ [a]) (m ++ [b]) := by
  induction hl with
  | nil => exact .cons h .nil
  | cons h1 _ ih => exact .cons h1 ih
theorem All2.length {α β : Type} {P : α → β → Prop} {l : List α} {m : List β} (hl : All2 P l m) : l.length = m.length := by
  induction hl with
  | nil => rfl
  | cons _ _ ih => simp [ih]
theorem All2.at_ {α β : Type} {P : α → β → Prop} {l : List α} {m : List β} (hl : All2 P l m) {i : Nat} {a : α} (hi : l[i]? = some a) : ∃ b, m[i]? = some b ∧ P a b := by
  induction hl generalizing i with
  | nil => simp at hi
  | cons h1 _ ih =>
    cases i with
    | zero => simp at hi; subst hi; exact ⟨_, rfl, h1⟩
    | succ i => exact ih (by simpa using hi)
theorem flat_at {k : Nat} {css : List (List Value)} (h : ∀ cs ∈ css, cs.length = k) {i j : Nat} {cs : List Value} {u : Value} (hi : css[i]? = some cs) (hj : cs[j]? = some u) : css.flatten[i * k + j]? = some u := by
  induction css generalizing i with
  | nil => simp at hi
  | cons a l ih =>
    have ha : a.length = k := h a List.mem_cons_self
    rw [List.flatten_cons]
    cases i with
    | zero =>
      simp at hi
      subst hi
      rw [Nat.zero_mul, Nat.zero_add, List.getElem?_append_left (List.getElem?_eq_some_iff.1 hj).1]
      exact hj
    | succ i =>
      rw [List.getElem?_append_right (by rw [ha, Nat.succ_mul]; omega), ha, show (i + 1) * k + j - k = i * k + j by rw [Nat.succ_mul]; omega]
      exact ih (fun cs hc => h cs (List.mem_cons_of_mem _ hc)) (by simpa using hi)
section
variable {α : Type} {R : Rd α} {k bytes : Nat}
def Rows (R : Rd α) (k bytes : Nat) (w : World) (S : Nat → Prop) (v : Value) (xs : List α) : Prop :=
  ∃ A c css, v = .slice A xs.length c ∧ xs.length ≤ c ∧ c ≤ 9223372036854775807 ∧ xs.length * bytes ≤ 140737488355328 ∧ Row w S A xs.length k css.flatten ∧ All2 (R w S) xs css
theorem Rows.keep (hR : Fine R k) {w w' : World} {S S' : Nat → Prop} {v : Value} {xs : List α} (h : Rows R k bytes w S v xs) (hk : ∀ A n sz ys, Row w S A n sz ys → Row w' S' A n sz ys) : Rows R k bytes w' S' v xs := by
  obtain ⟨A, c, css, e, h1, h2, h3, h4, h5⟩ := h
  exact ⟨A, c, css, e, h1, h2, h3, hk _ _ _ _ h4, h5.imp fun _ _ hx => hR.keep hx hk⟩
theorem Rows.below (hR : Fine R k) {w w' : World} {S : Nat → Prop} {v : Value} {xs : List α} (h : Rows R k bytes w S v xs) (hb : Below w.heap.size w w') : Rows R k bytes w' S v xs := h.keep hR fun _ _ _ _ hr => hr.below hb
theorem Rows.only (hR : Fine R k) {w w' : World} {T S : Nat → Prop} {v : Value} {xs : List α} (h : Rows R k bytes w T v xs) (ho : Only S w w') (hd : ∀ i, T i → ¬ S i) : Rows R k bytes w' T v xs := h.keep hR fun _ _ _ _ hr => hr.only ho fun i _ hi => hd i hi
theorem Rows.mono (hR : Fine R k) {w : World} {S S' : Nat → Prop} {v : Value} {xs : List α} (h : Rows R k bytes w S v xs) (hS : ∀ i, S i → S' i) : Rows R k bytes w S' v xs := h.keep hR fun _ _ _ _ hr => hr.mono hS
theorem Rows.form {w : World} {S : Nat → Prop} {v : Value} {xs : List α} (h : Rows R k bytes w S v xs) : ∃ A c, v = .slice A xs.length c := by
  obtain ⟨A, c, _, e, _⟩ := h
  exact ⟨A, c, e⟩
theorem Rows.at_ (hR : Fine R k) {w : World} {S : Nat → Prop} {A : Option Addr} {n c : Nat} {xs : List α} (h : Rows R k bytes w S (.slice A n c) xs) {i : Nat} {x : α} (hi : xs[i]? = some x) :
    ∃ b o cs, A = some ⟨b, o, none⟩ ∧ b < w.heap.size ∧ S b ∧ R w S x cs ∧ ∀ j u, cs[j]? = some u → w.cell? ⟨b, o + (i * k + j), none⟩ = some u := by
  obtain ⟨A', c', css, hE, h1, h2, h3, h4, h5⟩ := h
  injection hE with e1 e2 e3
  subst e1
  have hlt := (List.getElem?_eq_some_iff.1 hi).1
  obtain ⟨b, o, rfl, hS, hb, hc⟩ := h4.2 (by omega)
  obtain ⟨cs, hcs, hx⟩ := h5.at_ hi
  have hall : ∀ cs ∈ css, cs.length = k := fun cs hm => by
    obtain ⟨j, hj⟩ := List.getElem?_of_mem hm
    have hjl : j < xs.length := by rw [h5.length]; exact (List.getElem?_eq_some_iff.1 hj).1
    obtain ⟨cs', h', hx'⟩ := h5.at_ (List.getElem?_eq_getElem hjl)
    rw [hj] at h'
    injection h' with h'
    subst h'
    exact hR.len hx'
  exact ⟨b, o, cs, rfl, hb, hS, hx, fun j u hu => hc _ _ (flat_at hall hcs hu)⟩
def freshL (w : World) (base : Nat) (v : Value) (i : Nat) : Prop := base ≤ i ∧ v.ownBlock ≠ some i ∧ Loose w i
def OwnRows (R : Rd α) (k : Nat) (t : TypeId) (w : World) (base : Nat) (v : Value) (xs : List α) : Prop := ∃ css, w.ownsRow base t k v xs.length css.flatten ∧ All2 (R w (freshL w base v)) xs css
theorem OwnRows.nil (t : TypeId) (w : World) (base : Nat) : OwnRows R k t w base (.slice none 0 0) [] := ⟨[], World.ownsRow_nil _ _ _ _, .nil⟩
theorem OwnRows.rows (hR : Fine R k) {t : TypeId} {w : World} {base : Nat} {v : Value} {xs : List α} (h : OwnRows R k t w base v xs) (hl : xs.length * bytes ≤ 140737488355328) : Rows R k bytes w (fun i => base ≤ i ∧ i < w.heap.size) v xs := by
  obtain ⟨css, h1, h2⟩ := h
  have h3 : All2 (R w (fun i => base ≤ i ∧ i < w.heap.size)) xs css := h2.imp fun _ _ hx => hR.keep hx fun _ _ _ _ hr => hr.mono fun i hi => ⟨hi.1, hi.2.2.lt⟩
  rcases h1.2 with ⟨rfl, h0⟩ | ⟨g, cap, cur, rfl, hbg, hh, hcap, hcm, _⟩
  · have : xs = [] := List.eq_nil_of_length_eq_zero h0
    subst this
    exact ⟨none, 0, css, rfl, Nat.le_refl _, by omega, by simp, ⟨h1.1, fun h => absurd h (by simp)⟩, h3⟩
  · have hlt : g < w.heap.size := (Array.getElem?_eq_some_iff.1 hh).1
    refine ⟨_, _, css, rfl, hcap, by unfold maxLen at hcm; omega, hl, ⟨h1.1, fun _ => ⟨g, 0, rfl, ⟨hbg, hlt⟩, hlt, fun j u hu => ?_⟩⟩, h3⟩
    have := h1.cells (g := g) rfl j u hu
    rwa [Addr.add_lit] at this
end
theorem Byt.keepR {w w' : World} {S S' : Nat → Prop} {v : Value} {bs : List UInt8} (h : Byt w S v bs) (hk : ∀ A n sz xs, Row w S A n sz xs → Row w' S' A n sz xs) : Byt w' S' v bs := by
  obtain ⟨A, c, e, h1, h2, h3, h4⟩ := h
  exact ⟨A, c, e, h1, h2, h3, hk _ _ _ _ h4⟩
end Go.Proofs.YtjnolpfmchnnmaaGreatDoor
end
section
namespace Go.Proofs.YtjnolpfmchnnmaaGreatDoor
set_option maxRecDepth 100000
open Go.RowKit Go.BigFrame Go.Sort Go.Shelf Go.Lib Go.Maps
attribute [local go_sem ↓] Go.wp_at_zero Go.wp_at_succ
def OwnS (w : World) (base : Nat) (v : Value) (ss : List Nm) : Prop := w.ownsRow base 9 1 v ss.length (ss.map encStr)
theorem OwnS.nil (w : World) (base : Nat) : OwnS w base (.slice none 0 0) [] := World.ownsRow_nil _ _ _ _
theorem strs0 (w : World) : Strs w (fun _ => True) (.slice none 0 0) [] := ⟨_, _, rfl, Nat.le_refl _, by omega, by simp, fun h => by simp at h⟩
def listP (k : Pk) : List Nm := if k.down = true then [] else k.fs.map Fl.name
set_option maxRecDepth 100000 in
set_option maxHeartbeats 2000000 in
theorem list_any (F : Nat → Prop) (p : Nat) (k : Pk) (w : World) (h : DiskP w F p k) (hl : k.fs.length * 16 ≤ 140737488355328) :
    Calls Tryz.prog 58 #[.pointer (some ⟨p, 0, none⟩)] w fun r w' => ∃ v, r = .returned (.tuple #[v, .int .i64 (readyE k [])]) ∧ OwnS w' w.heap.size v (listP k) ∧ Below w.heap.size w w' := by
  have HR := Lib.hid (ready_any F p k (fun _ => True) _ [] w h (strs0 w) (fun y hy => by cases hy))
  obtain ⟨mb, kv, d, h, rfl⟩ := h
  have H := Lib.hid h
  clear h
  have hlen : d.ns.length * 16 ≤ 140737488355328 := by rw [← map_len]; exact hl
  cases hd : d.pk.down with
  | true =>
    have e1 : readyE d.pk [] = 20 := by unfold readyE; rw [if_pos hd]
    have e2 : listP d.pk = [] := by unfold listP; rw [if_pos hd]
    rw [e1] at HR ⊢
    rw [e2]
    clear hd e1 e2
    go_enter Tryz.func58, Tryz.ntmps58
    go_wp2_with (go_at_call 90; refine HR.out.mono ?_; rintro r w1 ⟨rfl, hb1⟩)
    refine bodyPost_ret (v := .tuple #[.slice none 0 0, .int .i64 20]) (by simp [results, Tryz.results58, go_sem]) rfl ?_
    exact ⟨_, rfl, OwnS.nil _ _, hb1⟩
  | false =>
    have e1 : readyE d.pk [] = 0 := by unfold readyE; rw [if_neg (by rw [hd]; simp)]; rfl
    have e2 : listP d.pk = d.ns.map Fd.name := by unfold listP; rw [if_neg (by rw [hd]; simp)]; show (d.ns.map Fd.fl).map Fl.name = _; rw [List.map_map]; rfl
    rw [e1] at HR ⊢
    rw [e2]
    clear hd e1 e2
    go_enter Tryz.func58, Tryz.ntmps58
    go_wp2_with (first
      | (go_at_call 90; refine HR.out.mono ?_; rintro r w1 ⟨rfl, hb1⟩)
      | (go_at_call 86; refine (names_any F p mb _ d _ (H.out.below hb1) hlen).mono ?_; rintro r w2 ⟨vn, rfl, hrow, hb2⟩))
    refine bodyPost_ret (v := .tuple #[vn, .int .i64 0]) (by simp [results, Tryz.results58, go_sem]) rfl ?_
    refine ⟨_, rfl, ?_, hb1.trans (hb2.mono hb1.size)⟩
    unfold OwnS
    rw [List.length_map]
    exact ownsRow_base_a hrow hb1.size
end Go.Proofs.YtjnolpfmchnnmaaGreatDoor
end
section
namespace Go.Proofs.YtjnolpfmchnnmaaGreatDoor
set_option maxRecDepth 100000
open Go.RowKit
structure CalmK (k : Pk) (dn : Nat) : Prop where
  ops : k.ops = -1
  room : k.room = -1
  up : k.down = false
  srt : k.fs.Pairwise fun a b => a.name < b.name
  nms : ∀ f ∈ k.fs, nameB f.name = true
  d0 : 0 ≤ k.done
  d1 : k.done ≤ dn
  few : k.fs.length ≤ dn
def fileD (k : Pk) (x : Nm) : Option (List UInt8) := (findP x k.fs).map Fl.data
def putD (D : Nm → Option (List UInt8)) (x : Nm) (c : List UInt8) : Nm → Option (List UInt8) := fun y => if y = x then some c else D y
theorem putD_same (D : Nm → Option (List UInt8)) (x : Nm) (c : List UInt8) : putD D x c x = some c := if_pos rfl
theorem putD_ne (D : Nm → Option (List UInt8)) {x y : Nm} (c : List UInt8) (h : y ≠ x) : putD D x c y = D y := if_neg h
section
variable {k : Pk} {dn : Nat} {x y : Nm} {b : List UInt8}
theorem findP_name {fs : List Fl} {f : Fl} (h : findP x fs = some f) : f ∈ fs ∧ f.name = x := by
  induction fs with
  | nil => cases h
  | cons g l ih =>
    unfold findP at h
    split at h
    · injection h with h; subst h; exact ⟨List.mem_cons_self, by assumption⟩
    · exact ⟨List.mem_cons_of_mem _ (ih h).1, (ih h).2⟩
theorem findP_non {fs : List Fl} : findP x fs = none ↔ ∀ f ∈ fs, f.name ≠ x := by
  induction fs with
  | nil => exact ⟨fun _ _ h => (by cases h), fun _ => rfl⟩
  | cons g l ih =>
    unfold findP
    split
    · rename_i h
      exact ⟨fun h => (by cases h), fun h' => absurd h (h' g List.mem_cons_self)⟩
    · rename_i h
      rw [ih]
      exact ⟨fun h' f hf => (List.mem_cons.1 hf).elim (fun e => e ▸ h) (h' f), fun h' f hf => h' f (List.mem_cons_of_mem _ hf)⟩
theorem findP_upd (g : Fl → Fl) (hg : ∀ f, (g f).name = f.name) (y : Nm) (fs : List Fl) : findP y (updP x g fs) = if y = x then (findP x fs).map g else findP y fs := by
  induction fs with
  | nil => show none = _; split <;> rfl
  | cons f l ih =>
    show findP y ((if f.name = x then g f else f) :: updP x g l) = _
    by_cases hfx : f.name = x
    · rw [if_pos hfx]
      unfold findP
      rw [hg, hfx, if_pos rfl]
      by_cases hy : y = x
      · rw [if_pos hy.symm, if_pos hy]; rfl
      · rw [if_neg fun e => hy e.symm, if_neg hy, ih, if_neg hy, if_neg fun e => hy e.symm]
    · rw [if_neg hfx]
      unfold findP
      by_cases hfy : f.name = y
      · rw [if_pos hfy, if_neg (fun e => hfx (hfy.trans e))]
        rw [if_pos hfy]
      · rw [if_neg hfy, ih, if_neg hfx]
        split <;> rfl
theorem findP_ins {f : Fl} (y : Nm) {fs : List Fl} : findP y (insP f fs) = if y = f.name then some f else findP y fs := by
  induction fs with
  | nil =>
    show (if f.name = y then some f else none) = _
    by_cases h : y = f.name
    · rw [if_pos h, if_pos h.symm]
    · rw [if_neg h, if_neg fun e => h e.symm]; rfl
  | cons g l ih =>
    unfold insP
    split
    · show (if f.name = y then some f else findP y (g :: l)) = _
      by_cases h : y = f.name
      · rw [if_pos h, if_pos h.symm]
      · rw [if_neg h, if_neg fun e => h e.symm]
    · split
      · rename_i h2
        show (if f.name = y then some f else findP y l) = _
        by_cases h : y = f.name
        · rw [if_pos h, if_pos h.symm]
        · rw [if_neg h, if_neg fun e => h e.symm]
          show _ = if g.name = y then some g else findP y l
          rw [if_neg fun e => h (e.symm.trans h2.symm)]
      · rename_i h1 h2
        show (if g.name = y then some g else findP y (insP f l)) = if y = f.name then some f else if g.name = y then some g else findP y l
        rw [ih]
        by_cases h : y = f.name
        · rw [if_pos h, if_pos h, if_neg fun e => h2 (h.symm.trans e.symm)]
        · rw [if_neg h, if_neg h]
theorem mem_insP' {f g : Fl} {fs : List Fl} (h : g ∈ insP f fs) : g = f ∨ g ∈ fs := by
  induction fs with
  | nil => exact .inl (by simpa [insP] using h)
  | cons a l ih =>
    unfold insP at h
    split at h
    · exact (List.mem_cons.1 h).elim .inl .inr
    · split at h
      · exact (List.mem_cons.1 h).elim .inl fun h => .inr (List.mem_cons_of_mem _ h)
      · rcases List.mem_cons.1 h with h | h
        · exact .inr (h ▸ List.mem_cons_self)
        · exact (ih h).elim .inl fun h => .inr (List.mem_cons_of_mem _ h)
theorem len_insP' (f : Fl) (fs : List Fl) : (insP f fs).length ≤ fs.length + 1 := by
  induction fs with
  | nil => exact Nat.le_refl _
  | cons a l ih =>
    unfold insP
    split
    · exact Nat.le_refl _
    · split
      · simp
      · simp only [List.length_cons]; omega
theorem srt_ins' {f : Fl} {fs : List Fl} (h : fs.Pairwise fun a b => a.name < b.name) : (insP f fs).Pairwise fun a b => a.name < b.name := by
  induction fs with
  | nil => exact List.pairwise_singleton _ _
  | cons a l ih =>
    have ha := (List.pairwise_cons.1 h).1
    have hl := (List.pairwise_cons.1 h).2
    unfold insP
    split
    · rename_i h1
      refine List.pairwise_cons.2 ⟨fun x hx => ?_, h⟩
      rcases List.mem_cons.1 hx with rfl | hx
      · exact h1
      · exact List.lt_trans h1 (ha x hx)
    · split
      · rename_i h1 h2
        exact List.pairwise_cons.2 ⟨fun x hx => by show f.name < x.name; rw [h2]; exact ha x hx, hl⟩
      · rename_i h1 h2
        refine List.pairwise_cons.2 ⟨fun x hx => ?_, ih hl⟩
        rcases mem_insP' hx with rfl | hx
        · exact lt_tri _ _ h1 h2
        · exact ha x hx
theorem srt_upd' {g : Fl → Fl} (hg : ∀ f, (g f).name = f.name) {fs : List Fl} (h : fs.Pairwise fun a b => a.name < b.name) : (updP x g fs).Pairwise fun a b => a.name < b.name := by
  unfold updP
  rw [List.pairwise_map]
  refine h.imp fun {a b} hab => ?_
  have e : ∀ f : Fl, (if f.name = x then g f else f).name = f.name := fun f => by split <;> simp [hg]
  rw [e, e]
  exact hab
theorem nms_upd {g : Fl → Fl} (hg : ∀ f, (g f).name = f.name) {fs : List Fl} (h : ∀ f ∈ fs, nameB f.name = true) : ∀ f ∈ updP x g fs, nameB f.name = true := fun f hf => by
  obtain ⟨f', hf', rfl⟩ := List.mem_map.1 hf
  split
  · rw [hg]; exact h f' hf'
  · exact h f' hf'
theorem CalmK.crash (h : CalmK k dn) : crashes k = false := by unfold crashes; rw [h.ops]; rfl
theorem CalmK.change (h : CalmK k dn) : changeK k = { k with done := k.done + 1 } := by unfold changeK; rw [h.crash]; rfl
theorem CalmK.changeE (h : CalmK k dn) : changeE k = 0 := by unfold _root_.Go.Proofs.YtjnolpfmchnnmaaGreatDoor.changeE; rw [h.crash]; rfl
theorem CalmK.ready (h : CalmK k dn) (hx : nameB x = true) : readyE k [x] = if (fileD k x).isNone = true then 22 else 0 := by
  unfold readyE fileD
  rw [h.up, if_neg (by decide)]
  simp only [List.all_cons, List.all_nil, hx, Bool.and_true]
  rw [if_neg (by decide), Option.isNone_map]
theorem CalmK.ready0 (h : CalmK k dn) : readyE k [] = 0 := by
  unfold readyE
  rw [h.up]
  rfl
theorem CalmK.ready_none (h : CalmK k dn) (hx : nameB x = true) (hf : fileD k x = none) : readyE k [x] = 22 := by rw [h.ready hx, hf]; rfl
theorem CalmK.ready_some (h : CalmK k dn) (hx : nameB x = true) {c : List UInt8} (hf : fileD k x = some c) : readyE k [x] = 0 := by rw [h.ready hx, hf]; rfl
theorem CalmK.mono (h : CalmK k dn) {dn' : Nat} (hd : dn ≤ dn') : CalmK k dn' := ⟨h.ops, h.room, h.up, h.srt, h.nms, h.d0, by have := h.d1; omega, by have := h.few; omega⟩
theorem CalmK.append (h : CalmK k dn) (hx : nameB x = true) (b : List UInt8) : appendE k x b = 0 ∧ CalmK (appendK k x b) (dn + 1) ∧ fileD (appendK k x b) = putD (fileD k) x ((fileD k x).getD [] ++ b) := by
  have hr : readyE k [x] = 0 ∨ readyE k [x] = 22 := by rw [h.ready hx]; split <;> simp
  have hf : fullP k b.length = false := by unfold fullP; rw [h.room]; rfl
  refine ⟨by unfold appendE; rw [if_pos hr, hf]; exact h.changeE, ?_, ?_⟩
  · unfold appendK
    rw [if_pos hr, hf, h.crash, h.change, if_neg (by decide), if_neg (by decide)]
    refine ⟨h.ops, h.room, h.up, ?_, ?_, by have := h.d0; show 0 ≤ k.done + 1; omega, by have := h.d1; show k.done + 1 ≤ _; omega, ?_⟩
    · show (appFs x b k.fs).Pairwise _
      unfold appFs
      refine srt_upd' (g := fun f => { f with data := f.data ++ b }) (fun _ => rfl) ?_
      split
      · exact h.srt
      · exact srt_ins' h.srt
    · show ∀ f ∈ appFs x b k.fs, _
      unfold appFs
      refine nms_upd (g := fun f => { f with data := f.data ++ b }) (fun _ => rfl) ?_
      split
      · exact h.nms
      · exact fun f hf => (mem_insP' hf).elim (fun e => by rw [e]; exact hx) (h.nms f)
    · show (appFs x b k.fs).length ≤ _
      have := h.few
      unfold appFs updP
      rw [List.length_map]
      split
      · omega
      · have := len_insP' ⟨x, [], 0⟩ k.fs; omega
  · have e : (appendK k x b).fs = appFs x b k.fs := by
      unfold appendK
      rw [if_pos hr, hf, h.crash, if_neg (by decide), if_neg (by decide)]
    funext y
    unfold fileD putD
    rw [e]
    unfold appFs
    rw [findP_upd (fun f => { f with data := f.data ++ b }) (fun _ => rfl)]
    by_cases hy : y = x
    · subst hy
      rw [if_pos rfl, if_pos rfl]
      cases hq : findP y k.fs with
      | none => rw [if_neg (by simp), findP_ins, if_pos rfl]; rfl
      | some f => rw [if_pos (by simp), hq]; rfl
    · rw [if_neg hy, if_neg hy]
      split
      · rfl
      · rw [findP_ins, if_neg hy]
theorem CalmK.sync (h : CalmK k dn) (hx : nameB x = true) {c : List UInt8} (hf : fileD k x = some c) : syncE k x = 0 ∧ CalmK (syncK k x) (dn + 1) ∧ fileD (syncK k x) = fileD k := by
  have hr := h.ready_some hx hf
  refine ⟨by unfold syncE; rw [if_pos hr]; exact h.changeE, ?_, ?_⟩
  · unfold syncK
    rw [if_pos hr, h.crash, h.change, if_neg (by decide)]
    exact ⟨h.ops, h.room, h.up, srt_upd' (g := fun f => { f with synced := f.data.length }) (fun _ => rfl) h.srt, nms_upd (g := fun f => { f with synced := f.data.length }) (fun _ => rfl) h.nms, by have := h.d0; show 0 ≤ k.done + 1; omega, by have := h.d1; show k.done + 1 ≤ _; omega, by have := h.few; show (updP _ _ _).length ≤ _; unfold updP; rw [List.length_map]; exact Nat.le_succ_of_le this⟩
  · unfold syncK
    rw [if_pos hr, h.crash, h.change, if_neg (by decide)]
    funext y
    unfold fileD
    show (findP y (updP x _ k.fs)).map Fl.data = _
    rw [findP_upd (fun f => { f with synced := f.data.length }) (fun _ => rfl)]
    by_cases hy : y = x
    · rw [if_pos hy, hy]; cases findP x k.fs <;> rfl
    · rw [if_neg hy]
theorem fileD_readD : readD k x = (fileD k x).getD [] := by
  unfold readD fileD
  cases findP x k.fs <;> rfl
theorem CalmK.list (h : CalmK k dn) : listP k = k.fs.map Fl.name := by unfold listP; rw [h.up]; rfl
theorem CalmK.listSorted (h : CalmK k dn) : (listP k).Pairwise fun a b => a < b := by
  rw [h.list, List.pairwise_map]
  exact h.srt
theorem CalmK.mem_list (h : CalmK k dn) : x ∈ listP k ↔ (fileD k x).isSome = true := by
  rw [h.list]
  unfold fileD
  rw [Option.isSome_map]
  constructor
  · intro hx
    obtain ⟨f, hf, e⟩ := List.mem_map.1 hx
    cases hq : findP x k.fs with
    | some f => rfl
    | none => exact absurd e (findP_non.1 hq f hf)
  · intro hx
    cases hq : findP x k.fs with
    | none => rw [hq] at hx; cases hx
    | some f => exact List.mem_map.2 ⟨f, (findP_name hq).1, (findP_name hq).2⟩
theorem CalmK.name_ok (h : CalmK k dn) (hx : (fileD k x).isSome = true) : nameB x = true := by
  have := h.mem_list.2 hx
  rw [h.list] at this
  obtain ⟨f, hf, rfl⟩ := List.mem_map.1 this
  exact h.nms f hf
theorem CalmK.list_len (h : CalmK k dn) : ∀ x ∈ listP k, x.length ≤ 140737488355328 := fun x hx => by
  have := h.name_ok (h.mem_list.1 hx)
  unfold nameB at this
  simp only [Bool.and_eq_true, decide_eq_true_eq] at this
  omega
end
end Go.Proofs.YtjnolpfmchnnmaaGreatDoor
end
section
namespace Go.Proofs.YtjnolpfmchnnmaaGreatDoor
set_option maxRecDepth 100000
open Go.RowKit Go.BigFrame Go.Sort Go.Shelf Go.Lib
def digB (b : UInt8) : Bool := decide (48 ≤ b.toNat) && decide (b.toNat ≤ 57)
def badDig (r : Nat) : Bool := !(decide (48 ≤ r) && decide (r ≤ 57))
def lowB (b : UInt8) : Bool := decide (97 ≤ b.toNat) && decide (b.toNat ≤ 122)
def badLow (r : Nat) : Bool := !(decide (97 ≤ r) && decide (r ≤ 122))
theorem idx_pred (bad : Nat → Bool) (ok : UInt8 → Bool) (hb : ∀ b : UInt8, bad b.toNat = !ok b) (hh : ∀ r, 128 ≤ r → bad r = true) (l : List UInt8) : ∀ (f pos : Nat), l.length ≤ pos + f → (0 ≤ Lib.idxFuncFrom bad true ⟨l.toArray⟩ f pos ↔ ∃ b ∈ l.drop pos, ok b = false)
  | 0, pos, h => by
    rw [List.drop_eq_nil_of_le (by omega)]
    simp [Lib.idxFuncFrom]
  | f + 1, pos, h => by
    unfold Lib.idxFuncFrom
    by_cases hp : pos < l.length
    · have hs : pos < (⟨l.toArray⟩ : ByteArray).size := by rw [ba_size]; exact hp
      rw [if_pos hs]
      have hd : l.drop pos = l[pos] :: l.drop (pos + 1) := List.drop_eq_getElem_cons hp
      have he : (⟨l.toArray⟩ : ByteArray)[pos]'hs = l[pos] := rfl
      by_cases ha : l[pos].toNat < 128
      · rw [decode_ascii _ _ hs (by rw [he]; exact ha), he]
        dsimp only
        by_cases ho : ok l[pos] = true
        · have := idx_pred bad ok hb hh l f (pos + 1) (by omega)
          rw [if_neg (by rw [hb, ho]; simp), this, hd]
          refine ⟨fun ⟨b, h1, h2⟩ => ⟨b, List.mem_cons_of_mem _ h1, h2⟩, fun ⟨b, h1, h2⟩ => ?_⟩
          rcases List.mem_cons.1 h1 with rfl | h1
          · rw [ho] at h2; cases h2
          · exact ⟨b, h1, h2⟩
        · have ho' : ok l[pos] = false := by simpa using ho
          rw [if_pos (by rw [hb, ho']; rfl), hd]
          refine ⟨fun _ => ⟨l[pos], List.mem_cons_self, ho'⟩, fun _ => by omega⟩
      · have hh' := decode_high _ _ hs (by rw [he]; omega)
        rw [if_pos (hh _ hh'.1)]
        refine ⟨fun _ => ⟨l[pos], by rw [hd]; exact List.mem_cons_self, ?_⟩, fun _ => by omega⟩
        have := hb l[pos]
        rw [hh _ (by omega)] at this
        simpa using this.symm
    · rw [if_neg (by rw [ba_size]; exact hp), List.drop_eq_nil_of_le (by omega)]
      simp
theorem idx_all (bad : Nat → Bool) (ok : UInt8 → Bool) (hb : ∀ b : UInt8, bad b.toNat = !ok b) (hh : ∀ r, 128 ≤ r → bad r = true) (l : List UInt8) : decide (0 ≤ Lib.idxFunc bad true ⟨l.toArray⟩) = !l.all ok := by
  have h := idx_pred bad ok hb hh l (⟨l.toArray⟩ : ByteArray).size 0 (by rw [ba_size]; omega)
  rw [List.drop_zero] at h
  unfold Lib.idxFunc
  rw [Bool.eq_iff_iff, decide_eq_true_iff, h]
  simp
theorem idx_dig (l : List UInt8) : decide (0 ≤ Lib.idxFunc badDig true ⟨l.toArray⟩) = !l.all digB := idx_all badDig digB (fun _ => rfl) (fun r h => by unfold badDig; simp; omega) l
theorem idx_low (l : List UInt8) : decide (0 ≤ Lib.idxFunc badLow true ⟨l.toArray⟩) = !l.all lowB := idx_all badLow lowB (fun _ => rfl) (fun r h => by unfold badLow; simp; omega) l
def sufW : Nm := [46, 108, 111, 103]
def tmpW : Nm := [46, 116, 109, 112]
def dig6 (n : Nat) : Nm := [dg n 5, dg n 4, dg n 3, dg n 2, dg n 1, dg n 0]
def nameW (pre : Nm) (n : Nat) : Nm := pre ++ dig6 n ++ sufW
theorem dg_add (n : Nat) {j : Nat} (h : j < 6) : dg (n + 1000000) j = dg n j := by
  have e : (n + 1000000) / 10 ^ j % 10 = n / 10 ^ j % 10 := by
    rcases (by omega : j = 0 ∨ j = 1 ∨ j = 2 ∨ j = 3 ∨ j = 4 ∨ j = 5) with rfl | rfl | rfl | rfl | rfl | rfl <;> (simp only [Nat.reducePow]; omega)
  unfold dg
  rw [e]
theorem dg_top {n : Nat} (h : n < 1000000) : dg (n + 1000000) 6 = 49 := by
  have e : (n + 1000000) / 10 ^ 6 % 10 = 1 := by simp only [Nat.reducePow]; omega
  unfold dg
  rw [e]
  rfl
theorem itoa_dig6 {n : Nat} (h : n < 1000000) : Lib.itoa ((n + 1000000 : Nat) : Int) = 49 :: dig6 n := by
  have h6 : (10 : Nat) ^ 6 = 1000000 := by decide
  have h7 : (10 : Nat) ^ (6 + 1) = 10000000 := by decide
  unfold Lib.itoa
  rw [if_neg (by omega), Int.toNat_natCast, decDigits_eq, nDigits_unique 6 (n + 1000000) (by omega) (by omega)]
  show [dg (n + 1000000) 6, dg (n + 1000000) 5, dg (n + 1000000) 4, dg (n + 1000000) 3, dg (n + 1000000) 2, dg (n + 1000000) 1, dg (n + 1000000) 0] = _
  rw [dg_top h, dg_add n (by omega), dg_add n (by omega), dg_add n (by omega), dg_add n (by omega), dg_add n (by omega), dg_add n (by omega)]
  rfl
def segNo (pre x : Nm) : Nat :=
  if pre.isPrefixOf x = true then (if sufW.isSuffixOf (x.drop pre.length) = true then (if (x.drop pre.length).length = 10 then (if ((x.drop pre.length).take 6).all digB = true then ((Lib.decNat ((x.drop pre.length).take 6)).getD 0) else 0) else 0) else 0) else 0
def segsP (pre : Nm) (xs : List Nm) : List Nat := (xs.map (segNo pre)).filter (fun n => decide (0 < n))
theorem dg_toNat (n j : Nat) : (dg n j).toNat = 48 + n / 10 ^ j % 10 := by
  unfold dg
  simp
  omega
theorem dig6_ok (n : Nat) : (dig6 n).all digB = true := by
  unfold dig6 digB
  simp only [List.all_cons, List.all_nil, dg_toNat, Bool.and_true, Bool.and_eq_true, decide_eq_true_eq]
  omega
theorem digitVal_dg (n j : Nat) : Lib.digitVal (dg n j) = some (n / 10 ^ j % 10) := by
  unfold Lib.digitVal
  rw [dg_toNat, if_pos (by omega)]
  simp
theorem dec_dig6 {n : Nat} (h : n < 1000000) : Lib.decNat (dig6 n) = some n := by
  unfold Lib.decNat dig6
  simp only [List.isEmpty_cons, Bool.false_eq_true, if_false, Lib.decFrom, digitVal_dg]
  congr 1
  omega
theorem seg_nameW (pre : Nm) {n : Nat} (h : n < 1000000) : segNo pre (nameW pre n) = n := by
  have hd : (nameW pre n).drop pre.length = dig6 n ++ sufW := by unfold nameW; rw [List.append_assoc, List.drop_left]
  have h1 : pre.isPrefixOf (nameW pre n) = true := List.isPrefixOf_iff_prefix.2 ⟨dig6 n ++ sufW, by unfold nameW; rw [List.append_assoc]⟩
  have h2 : sufW.isSuffixOf (dig6 n ++ sufW) = true := List.isSuffixOf_iff_suffix.2 ⟨_, rfl⟩
  unfold segNo
  rw [if_pos h1, hd, if_pos h2, if_pos (show (dig6 n ++ sufW).length = 10 from rfl), show (dig6 n ++ sufW).take 6 = dig6 n from rfl, if_pos (dig6_ok n), dec_dig6 h]
  rfl
theorem atoi_dig {l : Nm} (h : l.all digB = true) (h0 : l ≠ []) : ∃ m, Lib.decNat l = some m ∧ Lib.atoi l = some (m : Int) := by
  have hd : ∀ (l : Nm) (acc : Nat), l.all digB = true → ∃ m, Lib.decFrom acc l = some m := by
    intro l
    induction l with
    | nil => intro acc _; exact ⟨acc, rfl⟩
    | cons b r ih =>
      intro acc h
      rw [List.all_cons, Bool.and_eq_true] at h
      have hb : 48 ≤ b.toNat ∧ b.toNat ≤ 57 := by simpa [digB] using h.1
      unfold Lib.decFrom
      rw [show Lib.digitVal b = some (b.toNat - 48) from by unfold Lib.digitVal; rw [if_pos hb]]
      exact ih _ h.2
  match l, h0 with
  | b :: r, _ =>
    obtain ⟨m, hm⟩ := hd (b :: r) 0 h
    have hb : 48 ≤ b.toNat ∧ b.toNat ≤ 57 := by
      rw [List.all_cons, Bool.and_eq_true] at h
      simpa [digB] using h.1
    have e : Lib.decNat (b :: r) = some m := by unfold Lib.decNat; simpa using hm
    refine ⟨m, e, ?_⟩
    have n1 : (b == 45) = false := by
      apply Bool.eq_false_iff.2
      intro hc
      rw [beq_iff_eq] at hc
      subst hc
      exact absurd hb.1 (by decide)
    have n2 : (b == 43) = false := by
      apply Bool.eq_false_iff.2
      intro hc
      rw [beq_iff_eq] at hc
      subst hc
      exact absurd hb.1 (by decide)
    simp [Lib.atoi, n1, n2, e]
theorem segNo_steps (pre x y z : Nm) (b1 b2 : Bool) (h1 : Lib.hasPrefix x pre = b1) (hy : Lib.trimPrefix x pre = y) (h2 : Lib.hasSuffix y sufW = b2) (hz : Lib.trimSuffix y sufW = z) :
    segNo pre x = if b1 = true ∧ b2 = true ∧ z.length = 6 ∧ z.all digB = true then (Lib.decNat z).getD 0 else 0 := by
  unfold Lib.trimPrefix at hy
  unfold Lib.trimSuffix at hz
  rw [h1] at hy
  rw [h2] at hz
  unfold segNo
  rw [show pre.isPrefixOf x = b1 from h1]
  cases b1 with
  | false => simp
  | true =>
    rw [if_pos rfl] at hy
    rw [if_pos rfl, hy, show sufW.isSuffixOf y = b2 from h2]
    cases b2 with
    | false => simp
    | true =>
      rw [if_pos rfl] at hz
      have hs : 4 ≤ y.length := by
        have := (List.isSuffixOf_iff_suffix.1 (show sufW.isSuffixOf y = true from h2)).length_le
        exact this
      have hzl : z.length = y.length - 4 := by rw [← hz, List.length_take]; show min (y.length - 4) y.length = _; omega
      by_cases h10 : y.length = 10
      · have e : y.take 6 = z := by rw [← hz]; show _ = y.take (y.length - 4); rw [h10]
        rw [if_pos rfl, if_pos h10, e]
        by_cases hd : z.all digB = true
        · rw [if_pos hd, if_pos ⟨rfl, rfl, by omega, hd⟩]
        · rw [if_neg hd, if_neg fun h => hd h.2.2.2]
      · rw [if_pos rfl, if_neg h10, if_neg fun h => h10 (by have := h.2.2.1; omega)]
theorem segsP_snoc (pre : Nm) (xs : List Nm) (x : Nm) : segsP pre (xs ++ [x]) = segsP pre xs ++ (if 0 < segNo pre x then [segNo pre x] else []) := by
  unfold segsP
  rw [List.map_append, List.filter_append]
  congr 1
  simp only [List.map_cons, List.map_nil, List.filter_cons, List.filter_nil, decide_eq_true_eq]
theorem segsP_len (pre : Nm) (xs : List Nm) : (segsP pre xs).length ≤ xs.length := by
  unfold segsP
  have := List.length_filter_le (fun n => decide (0 < n)) (xs.map (segNo pre))
  simpa using this
theorem trim_len (x pre : Nm) : (Lib.trimPrefix x pre).length ≤ x.length ∧ (Lib.trimSuffix (Lib.trimPrefix x pre) sufW).length ≤ x.length := by
  have h1 : (Lib.trimPrefix x pre).length ≤ x.length := by
    unfold Lib.trimPrefix
    split
    · rw [List.length_drop]; omega
    · exact Nat.le_refl _
  refine ⟨h1, ?_⟩
  unfold Lib.trimSuffix
  split
  · rw [List.length_take]; omega
  · exact h1
theorem decNat_lt {z : Nm} (h6 : z.length = 6) (hd : z.all digB = true) : (Lib.decNat z).getD 0 < 1000000 := by
  match z, h6 with
  | [a, b, c, d, e, f], _ =>
    simp only [List.all_cons, List.all_nil, Bool.and_true, Bool.and_eq_true] at hd
    have hv : ∀ x : UInt8, digB x = true → Lib.digitVal x = some (x.toNat - 48) ∧ x.toNat - 48 ≤ 9 := fun x h => by
      have : 48 ≤ x.toNat ∧ x.toNat ≤ 57 := by simpa [digB] using h
      exact ⟨by unfold Lib.digitVal; rw [if_pos this], by omega⟩
    obtain ⟨ha, hb, hc, hd, he, hf⟩ := hd
    obtain ⟨ha, la⟩ := hv a ha
    obtain ⟨hb, lb⟩ := hv b hb
    obtain ⟨hc, lc⟩ := hv c hc
    obtain ⟨hd, ld⟩ := hv d hd
    obtain ⟨he, le⟩ := hv e he
    obtain ⟨hf, lf⟩ := hv f hf
    unfold Lib.decNat
    simp only [List.isEmpty_cons, Bool.false_eq_true, if_false, Lib.decFrom, ha, hb, hc, hd, he, hf, Option.getD_some]
    omega
theorem segNo_lt (pre x : Nm) : segNo pre x < 1000000 := by
  rw [segNo_steps pre x _ _ _ _ rfl rfl rfl rfl]
  split
  · rename_i h
    exact decNat_lt h.2.2.1 h.2.2.2
  · omega
end Go.Proofs.YtjnolpfmchnnmaaGreatDoor
end
