/-
law TableTold.
-/
import Derived.Test.YtiffgjodbcploaaGreatQPCrashUpto9
import Derived.Test.YtiffgjodbcploaaGreatQPCrashUpto15
import Derived.Test.YtiffgjodbcploaaGreatRows
import Derived.Test.YtiffgjodbcploaaGreatQPCrashUpto6
import Derived.Test.YtiffgjodbcploaaGreatQPCrashUpto10
import Derived.Test.YtiffgjodbcploaaGreatQPCrashUpto5
import Derived.StillTailTactics
import Derived.Deep.Cut
import Derived.Deep.CutRange
import Derived.Deep.DeepCutAuto
section
namespace Go.Proofs.YtiffgjodbcploaaGreat
set_option maxRecDepth 100000
open Go.RowKit
theorem findP_mem {x : Nm} {fs : List Fl} {f : Fl} (h : findP x fs = some f) : f ∈ fs ∧ f.name = x := by
  induction fs with
  | nil => cases h
  | cons g l ih =>
    unfold findP at h
    split at h
    · rename_i e
      obtain rfl := Option.some.inj h
      exact ⟨List.mem_cons_self, e⟩
    · exact ⟨List.mem_cons_of_mem _ (ih h).1, (ih h).2⟩
theorem mem_insP {f g : Fl} {fs : List Fl} (h : g ∈ insP f fs) : g = f ∨ g ∈ fs := by
  induction fs with
  | nil => simpa [insP] using h
  | cons a l ih =>
    unfold insP at h
    split at h
    · rcases List.mem_cons.1 h with e | e
      · exact .inl e
      · exact .inr e
    · split at h
      · rcases List.mem_cons.1 h with e | e
        · exact .inl e
        · exact .inr (List.mem_cons_of_mem _ e)
      · rcases List.mem_cons.1 h with e | e
        · exact .inr (e ▸ List.mem_cons_self)
        · exact (ih e).imp id (List.mem_cons_of_mem _)
theorem len_insP (f : Fl) (fs : List Fl) : (insP f fs).length ≤ fs.length + 1 := by
  induction fs with
  | nil => simp [insP]
  | cons a l ih =>
    unfold insP
    split
    · simp
    · split
      · simp
      · simp only [List.length_cons]; omega
theorem mem_delP {x : Nm} {g : Fl} {fs : List Fl} (h : g ∈ delP x fs) : g ∈ fs := by
  induction fs with
  | nil => cases h
  | cons a l ih =>
    unfold delP at h
    split at h
    · exact List.mem_cons_of_mem _ (ih h)
    · rcases List.mem_cons.1 h with e | e
      · exact e ▸ List.mem_cons_self
      · exact List.mem_cons_of_mem _ (ih e)
theorem len_delP (x : Nm) (fs : List Fl) : (delP x fs).length ≤ fs.length := by
  induction fs with
  | nil => simp [delP]
  | cons a l ih =>
    unfold delP
    split
    · simp only [List.length_cons]; omega
    · simp only [List.length_cons]; omega
def fitP (fs : List Fl) (N B : Nat) : Prop := fs.length ≤ N ∧ ∀ f ∈ fs, f.data.length ≤ B
theorem fitP.mono {fs : List Fl} {N B N' B' : Nat} (h : fitP fs N B) (hN : N ≤ N') (hB : B ≤ B') : fitP fs N' B' := ⟨Nat.le_trans h.1 hN, fun f hf => Nat.le_trans (h.2 f hf) hB⟩
theorem fit_upd {x : Nm} {g : Fl → Fl} {fs : List Fl} {N B n : Nat} (h : fitP fs N B) (hg : ∀ f, (g f).data.length ≤ f.data.length + n) : fitP (updP x g fs) N (B + n) := by
  refine ⟨by unfold updP; rw [List.length_map]; exact h.1, fun f hf => ?_⟩
  unfold updP at hf
  obtain ⟨a, ha, rfl⟩ := List.mem_map.1 hf
  have := h.2 a ha
  split
  · have := hg a; omega
  · omega
theorem fit_app {x : Nm} {b : List UInt8} {fs : List Fl} {N B : Nat} (h : fitP fs N B) : fitP (appFs x b fs) (N + 1) (B + b.length) := by
  unfold appFs
  refine fit_upd ?_ (fun f => by simp)
  split
  · exact h.mono (by omega) (Nat.le_refl _)
  · refine ⟨Nat.le_trans (len_insP _ _) (by have := h.1; omega), fun f hf => ?_⟩
    rcases mem_insP hf with rfl | hf
    · simp
    · exact h.2 f hf
theorem fit_del {x : Nm} {fs : List Fl} {N B : Nat} (h : fitP fs N B) : fitP (delP x fs) N B :=
  ⟨Nat.le_trans (len_delP _ _) h.1, fun f hf => h.2 f (mem_delP hf)⟩
theorem fit_ren {x y : Nm} {fs : List Fl} {N B : Nat} (h : fitP fs N B) : fitP (renFs x y fs) (N + 1) B := by
  unfold renFs
  split
  · rename_i f hf
    refine ⟨Nat.le_trans (len_insP _ _) (by have := (fit_del (x := x) h).1; omega), fun g hg => ?_⟩
    rcases mem_insP hg with rfl | hg
    · exact h.2 f (findP_mem hf).1
    · exact (fit_del h).2 g hg
  · exact h.mono (by omega) (Nat.le_refl _)
theorem fit_change {k : Pk} {N B : Nat} (h : fitP k.fs N B) : fitP (changeK k).fs N B := by
  unfold changeK
  split <;> exact h
theorem fit_appendK {k : Pk} {x : Nm} {b : List UInt8} {N B : Nat} (h : fitP k.fs N B) : fitP (appendK k x b).fs (N + 1) (B + b.length) := by
  have h1 : fitP k.fs (N + 1) (B + b.length) := h.mono (by omega) (by omega)
  unfold appendK
  split
  · split
    · exact h1
    · split
      · exact fit_change h1
      · exact fit_app h
  · exact h1
theorem fit_syncK {k : Pk} {x : Nm} {N B : Nat} (h : fitP k.fs N B) : fitP (syncK k x).fs N B := by
  unfold syncK
  split
  · split
    · exact fit_change h
    · exact fit_upd (n := 0) (fit_change h) (fun f => Nat.le_refl _)
  · exact h
theorem fit_deleteK {k : Pk} {x : Nm} {N B : Nat} (h : fitP k.fs N B) : fitP (deleteK k x).fs N B := by
  unfold deleteK
  split
  · split
    · exact fit_change h
    · exact fit_del h
  · exact h
theorem fit_renameK {k : Pk} {x y : Nm} {N B : Nat} (h : fitP k.fs N B) : fitP (renameK k x y).fs (N + 1) B := by
  have h1 : fitP k.fs (N + 1) B := h.mono (by omega) (Nat.le_refl _)
  unfold renameK
  split
  · split
    · exact fit_change h1
    · split
      · exact fit_change h1
      · exact fit_ren h
  · exact h1
/-- what a call does to the counter. -/
def stepC (k : Pk) (e : Int) (k' : Pk) : Prop :=
  (e = 20 ∧ k.ops ≤ k.done ∧ k'.down = true ∧ k'.done = k.done) ∨ (e = 0 ∧ k.done < k.ops ∧ k'.done = k.done + 1 ∧ k'.down = false ∧ k'.ops = k.ops ∧ k'.room = k.room) ∨ (e ≠ 0 ∧ e ≠ 20 ∧ k' = k)
theorem ready_codes {k : Pk} {ss : List Nm} (hd : k.down = false) : readyE k ss = 0 ∨ readyE k ss = 22 ∨ readyE k ss = 23 := by
  unfold readyE
  rw [if_neg (by rw [hd]; simp)]
  split
  · exact .inr (.inr rfl)
  · split
    · exact .inl rfl
    · split
      · exact .inr (.inl rfl)
      · exact .inl rfl
theorem step_change {k k' : Pk} (hd : k.down = false) (ho : 0 ≤ k.ops) (h : crashes k = true → k' = changeK k) (h' : crashes k = false → k'.done = (changeK k).done ∧ k'.down = k.down ∧ k'.ops = k.ops ∧ k'.room = k.room) : stepC k (changeE k) k' := by
  unfold changeE
  cases hc : crashes k with
  | true =>
    rw [if_pos rfl]
    have e := h hc
    unfold changeK at e
    rw [if_pos hc] at e
    have hc' : (decide (0 ≤ k.ops) && decide (k.ops ≤ k.done)) = true := hc
    simp at hc'
    exact .inl ⟨rfl, hc'.2, by rw [e], by rw [e]⟩
  | false =>
    rw [if_neg (by simp)]
    obtain ⟨h1, h2, h3, h4⟩ := h' hc
    have hc' : (decide (0 ≤ k.ops) && decide (k.ops ≤ k.done)) = false := hc
    have hlt : k.done < k.ops := by
      simp only [Bool.and_eq_false_iff, decide_eq_false_iff_not] at hc'
      omega
    unfold changeK at h1
    rw [if_neg (by rw [hc]; simp)] at h1
    exact .inr (.inl ⟨rfl, hlt, h1, by rw [h2, hd], h3, h4⟩)
theorem keep_change (k : Pk) : (changeK k).ops = k.ops ∧ (changeK k).room = k.room ∧ (changeK k).keep = k.keep ∧ (changeK k).fs = k.fs ∧ (crashes k = false → (changeK k).down = k.down) := by
  unfold changeK
  split
  · rename_i h
    exact ⟨rfl, rfl, rfl, rfl, fun e => by rw [h] at e; cases e⟩
  · exact ⟨rfl, rfl, rfl, rfl, fun _ => rfl⟩
theorem step_none {k : Pk} {ss : List Nm} (hd : k.down = false) (h : ¬ readyE k ss = 0) : stepC k (readyE k ss) k := by
  rcases ready_codes (ss := ss) hd with e | e | e
  · exact absurd e h
  · rw [e]; exact .inr (.inr ⟨by omega, by omega, rfl⟩)
  · rw [e]; exact .inr (.inr ⟨by omega, by omega, rfl⟩)
theorem step_sync {k : Pk} {x : Nm} (hd : k.down = false) (ho : 0 ≤ k.ops) : stepC k (syncE k x) (syncK k x) := by
  unfold syncE syncK
  have hk := keep_change k
  by_cases h : readyE k [x] = 0
  · rw [if_pos h, if_pos h]
    refine step_change hd ho (fun hc => by rw [if_pos hc]) (fun hc => ?_)
    rw [if_neg (by rw [hc]; simp)]
    exact ⟨rfl, hk.2.2.2.2 hc, hk.1, hk.2.1⟩
  · rw [if_neg h, if_neg h]
    exact step_none hd h
theorem step_delete {k : Pk} {x : Nm} (hd : k.down = false) (ho : 0 ≤ k.ops) : stepC k (syncE k x) (deleteK k x) := by
  unfold syncE deleteK
  have hk := keep_change k
  by_cases h : readyE k [x] = 0
  · rw [if_pos h, if_pos h]
    refine step_change hd ho (fun hc => by rw [if_pos hc]) (fun hc => ?_)
    rw [if_neg (by rw [hc]; simp)]
    exact ⟨rfl, hk.2.2.2.2 hc, hk.1, hk.2.1⟩
  · rw [if_neg h, if_neg h]
    exact step_none hd h
theorem step_rename {k : Pk} {x y : Nm} (hd : k.down = false) (ho : 0 ≤ k.ops) : stepC k (renameE k x y) (renameK k x y) := by
  unfold renameE renameK
  have hk := keep_change k
  by_cases h : readyE k [x, y] = 0
  · rw [if_pos h, if_pos h]
    refine step_change hd ho (fun hc => by rw [if_pos hc]) (fun hc => ?_)
    rw [if_neg (by rw [hc]; simp)]
    split
    · exact ⟨rfl, hk.2.2.2.2 hc, hk.1, hk.2.1⟩
    · exact ⟨rfl, hk.2.2.2.2 hc, hk.1, hk.2.1⟩
  · rw [if_neg h, if_neg h]
    exact step_none hd h
theorem step_append {k : Pk} {x : Nm} {b : List UInt8} (hd : k.down = false) (ho : 0 ≤ k.ops) (hr : k.room < 0) : stepC k (appendE k x b) (appendK k x b) := by
  unfold appendE appendK
  have hk := keep_change k
  have hf : fullP k b.length = false := by unfold fullP; simp; omega
  by_cases h : readyE k [x] = 0 ∨ readyE k [x] = 22
  · rw [if_pos h, if_pos h, if_neg (by rw [hf]; simp), if_neg (by rw [hf]; simp)]
    refine step_change hd ho (fun hc => by rw [if_pos hc]) (fun hc => ?_)
    rw [if_neg (by rw [hc]; simp)]
    exact ⟨rfl, hk.2.2.2.2 hc, hk.1, hk.2.1⟩
  · rw [if_neg h, if_neg h]
    exact step_none hd fun e => h (.inl e)
theorem append_down {k : Pk} {x : Nm} {b : List UInt8} (h : k.down = true) : appendE k x b = 20 ∧ appendK k x b = k := by
  have hr : readyE k [x] = 20 := by unfold readyE; rw [if_pos h]
  have hn : ¬ (readyE k [x] = 0 ∨ readyE k [x] = 22) := by rw [hr]; omega
  unfold appendE appendK
  rw [if_neg hn, if_neg hn]
  exact ⟨hr, rfl⟩
end Go.Proofs.YtiffgjodbcploaaGreat
end
section
namespace Go.Proofs.YtiffgjodbcploaaGreat
set_option maxRecDepth 100000
open Go.RowKit Go.BigFrame Go.Sort Go.Shelf Go.Lib Go.Maps
attribute [local go_sem ↓] Go.wp_at_zero Go.wp_at_succ
def ofGo (acc : List Fl) : List Fl → Option (List Fl)
  | [] => some acc
  | f :: l => if (findP f.name acc).isSome = true then none else ofGo (insP f acc) l
def sumB (l : List Fl) : Int := l.foldl (fun b f => wrap64 (b + f.data.length)) 0
def ofE (fs : List Fl) : Int := if fs.any nmB = true then 23 else match ofGo [] fs with
  | none => 31
  | some _ => if fs.any rgB = true then 2 else 0
def ofK (fs : List Fl) (ops room : Int) (keep : List Int) : Pk := ⟨(ofGo [] fs).getD [], ops, room, keep, 0, sumB fs, false⟩
theorem drop_cons {α : Type} {l : List α} {i : Nat} {a : α} (h : l[i]? = some a) : l.drop i = a :: l.drop (i + 1) := by
  obtain ⟨h1, h2⟩ := List.getElem?_eq_some_iff.1 h
  rw [List.drop_eq_getElem_cons h1, h2]
theorem sumB_snoc {l : List Fl} {i : Nat} {f : Fl} (h : l[i]? = some f) : sumB (l.take (i + 1)) = wrap64 (sumB (l.take i) + f.data.length) := by
  unfold sumB
  rw [take_snoc h, List.foldl_append]
  rfl
theorem put_file {w : World} {mb n : Nat} {D : DataW Unit} (h : w.ownsMap Tryz.prog 9 ptrR mb n D) (hn : n < maxLen) (x : Nm) (hx : x.length ≤ 140737488355328) (g : Nat) :
    ∃ w', (Instr.mapUpdate 66 (.map (some mb)) (.string ⟨x.toArray⟩) (.pointer (some ⟨g, 0, none⟩))).run Tryz.prog w = .ok () w' ∧ w'.ownsMap Tryz.prog 9 ptrR mb (n + 1) (D.put (.string x) (.lit (.int .i64 g))) ∧ w.grownBy w' (some mb) :=
  h.update law_str Tryz.underlying66 hn (key_str x hx) (ps := []) rfl
theorem bcloneO_any (S : Nat → Prop) (v : Value) (bs : List UInt8) (w : World) (h : Byt w S v bs) :
    Calls Tryz.prog 39 #[v] w fun r w' => ∃ v', r = .returned v' ∧ OwnB w' (fun i => w.heap.size ≤ i) v' bs ∧ Below w.heap.size w w' := by
  have hl := h.len
  have h' := Lib.hid h
  obtain ⟨A, c, rfl, _⟩ := h
  have q22 : ∀ (w : World) (a : Option Addr) (n c n' c' : Nat), (binOp .eql 42 (.slice a n c) (.slice none n' c')).run Tryz.prog w = .ok (.bool a.isNone) w := fun w a n c n' c' => Lib.run_eql_slice_nil w _ _ a n c n' c' Tryz.underlying42
  rcases A with _ | ad
  · have h0 : bs = [] := by
      obtain ⟨A, c', e, _, _, _, hr⟩ := h'.out
      rcases Nat.eq_zero_or_pos bs.length with h0 | h0
      · exact List.eq_nil_of_length_eq_zero h0
      · injection e with e1 _ _
        subst e1
        obtain ⟨b, o, h, _⟩ := hr.2 h0
        cases h
    subst h0
    go_enter Tryz.func39, Tryz.ntmps39
    go_wp2
    go_ret
    exact ⟨_, rfl, OwnB.nil _ _, Below.refl _ _⟩
  · have hb1 := (Below.refl w.heap.size w).alloc (Nat.le_refl _) (.cells #[] 5)
    have HB := Lib.hid hb1
    clear hb1
    go_enter Tryz.func39, Tryz.ntmps39
    go_wp2_with (at_builtin; refine wpList_append_byt rfl _ _ rfl w.heap.size _ _ rfl rfl S bs (lit0 w) (h'.out.below HB.out) HB.out.size ?_; intro v' w1 hown hgrow)
    go_ret
    exact ⟨_, rfl, OwnB.of_own hown hl (fun _ hi => hi), HB.out.grown hgrow HB.out.size (fun j e => by cases e; exact Nat.le_refl _)⟩
section
variable {W w' w2 : World} {p X i : Nat} {a b c d : Value}
theorem fr.blk (h : fr W w') {j : Nat} (hj : j < W.heap.size) : w'.heap[j]? = W.heap[j]? := Below.block h j hj
theorem fr.four (h : fr W w') (c0 : W.cell? ⟨p, i, none⟩ = some a) (x0 : W.cell? ⟨X, 0, none⟩ = some b) (x1 : W.cell? ⟨X, 1, none⟩ = some c) (x2 : W.cell? ⟨X, 2, none⟩ = some d) :
    w'.cell? ⟨p, i, none⟩ = some a ∧ w'.cell? ⟨X, 0, none⟩ = some b ∧ w'.cell? ⟨X, 1, none⟩ = some c ∧ w'.cell? ⟨X, 2, none⟩ = some d := ⟨h.cell c0, h.cell x0, h.cell x1, h.cell x2⟩
theorem fr.fourG {g : Nat} (h : fr W w') (c0 : W.cell? ⟨p, i, none⟩ = some a) (x0 : W.cell? ⟨X, 0, none⟩ = some b) (x1 : W.cell? ⟨X, 1, none⟩ = some c) (x2 : W.cell? ⟨X, 2, none⟩ = some d) (hg : w'.grownBy w2 (some g)) (hp : p ≠ g) (hX : X ≠ g) :
    w2.cell? ⟨p, i, none⟩ = some a ∧ w2.cell? ⟨X, 0, none⟩ = some b ∧ w2.cell? ⟨X, 1, none⟩ = some c ∧ w2.cell? ⟨X, 2, none⟩ = some d := by
  have l1 := World.block_lt_of_cell? W _ c0
  have l2 := World.block_lt_of_cell? W _ x0
  have hs := Below.size h
  have b1 := hg.block p (by simp at l1; omega) (fun e => hp (Option.some.inj e))
  have b2 := hg.block X (by simp at l2; omega) (fun e => hX (Option.some.inj e))
  exact ⟨(World.cell?_of_block (w' := w2) (w := w') (a := ⟨p, i, none⟩) b1).trans (h.cell c0), (World.cell?_of_block (w' := w2) (w := w') (a := ⟨X, 0, none⟩) b2).trans (h.cell x0),
    (World.cell?_of_block (w' := w2) (w := w') (a := ⟨X, 1, none⟩) b2).trans (h.cell x1), (World.cell?_of_block (w' := w2) (w := w') (a := ⟨X, 2, none⟩) b2).trans (h.cell x2)⟩
end
set_option maxRecDepth 100000 in
set_option maxHeartbeats 4000000 in
theorem of_any (S S' : Nat → Prop) (v : Value) (fs : List Fl) (ops room : Int) (kv : Value) (zs : List Int) (w : World) (hv : FilesV w S v fs) (hz : IntsIn w S' kv zs) (hl : zs.length * 8 ≤ 140737488355328) :
    Calls Tryz.prog 20 #[v, .agg #[.int .i64 ops, .int .i64 room, kv]] w fun r w' => ∃ q, r = .returned (.tuple #[q, .int .i64 (ofE fs)]) ∧ (ofE fs ≠ 0 → q = .pointer none) ∧ (ofE fs = 0 → ∃ p, q = .pointer (some ⟨p, 0, none⟩) ∧ DiskP w' (fun i => w.heap.size ≤ i) p (ofK fs ops room zs)) ∧ Below w.heap.size w w' := by
  obtain ⟨A, c, rfl⟩ := hv.form
  obtain ⟨n, hn⟩ : ∃ n, fs.length = n := ⟨_, rfl⟩
  have hmax : n * 48 ≤ 140737488355328 := by obtain ⟨_, _, _, _, _, _, h3, _⟩ := hv; rw [← hn]; exact h3
  rw [hn] at hv ⊢
  have HN := Lib.hid hn
  obtain ⟨Ak, ck, rfl, _⟩ := id hz
  have hA : Below w.heap.size w (w.alloc (.cells #[.int .i64 ops, .int .i64 room, .slice Ak zs.length ck] 28)) := (Below.refl _ _).alloc (Nat.le_refl _) _
  have HNEW := Lib.hid (new_any S' ops room _ zs _ (hz.below hA) hl)
  have HA := Lib.hid hA
  have HV := Lib.hid hv
  clear hn hv hz hA
  obtain ⟨q0, hq0⟩ : ∃ e, ofE fs = e := ⟨_, rfl⟩
  rw [hq0]
  have HQ := Lib.hid hq0
  clear hq0
  go_enter Tryz.func20, Tryz.ntmps20
  go_wp2_with (go_at_call 7; refine HNEW.out.mono ?_; rintro r w1 ⟨p, rfl, h1, hb1⟩; have H1 := Lib.hid (h1.mono (F' := fun i => w.heap.size ≤ i) fun i hi _ => Nat.le_trans HA.out.size hi); have HB1 := Lib.hid (HA.out.trans (hb1.mono HA.out.size)); clear h1 hb1)
  have HAN := Lib.hid (any1 S _ fs w1 (HV.out.below flFine HB1.out))
  cases hnm : fs.any nmB with
  | true =>
    rw [hnm] at HAN
    obtain rfl : 23 = q0 := by rw [← HQ.out]; unfold ofE; rw [if_pos hnm]
    clear hnm
    go_wp2_with (go_at_call 43; refine HAN.out.mono ?_; rintro r w2 ⟨rfl, hb2⟩)
    refine bodyPost_ret (v := .tuple #[.pointer none, .int .i64 23]) (by simp [results, Tryz.results20, go_sem]) rfl ?_
    exact ⟨_, rfl, fun _ => rfl, fun e => absurd e (by decide), HB1.out.trans (hb2.mono HB1.out.size)⟩
  | false =>
    rw [hnm] at HAN
    have HNM := Lib.hid hnm
    clear hnm
    go_upto_region 4 with (go_at_call 43; refine HAN.out.mono ?_; rintro r w2 ⟨rfl, hb2⟩; have H2 := Lib.hid (H1.out.below hb2); have HB2 := Lib.hid (HB1.out.trans (hb2.mono HB1.out.size)); clear hb2 H1 HAN HB1)
    go_wp2
    go_loopw [15] (fun t wr => ∃ (i : Nat) (acc : List Fl) (mb : Nat) (kv : Value) (d : Dk), i ≤ n ∧ t = .int .i64 i ∧ DiskV wr (fun i => w.heap.size ≤ i) p mb kv d ∧ d.pk = ⟨acc, ops, room, zs, 0, sumB (fs.take i), false⟩ ∧ ofGo [] fs = ofGo acc (fs.drop i) ∧ acc.length ≤ i ∧ Below w.heap.size w wr) (fun t _ => n - (intOf t).toNat)
    case atStart =>
      obtain ⟨mb, kv, d, h, e⟩ := H2.out
      exact ⟨0, [], mb, kv, d, Nat.zero_le _, rfl, h, e, rfl, Nat.le_refl _, HB2.out⟩
    case round =>
      obtain ⟨i, acc, mb, kv, d, hi, rfl, hd, hpk, hgo, hal, hbel⟩ := hrel
      have HD := Lib.hid hd
      have HPK := Lib.hid hpk
      have HGO := Lib.hid hgo
      have HB := Lib.hid hbel
      clear hd hpk hgo hbel H2 HB2
      by_cases hin : i < n
      · obtain ⟨f, hf⟩ : ∃ f, fs[i]? = some f := ⟨_, List.getElem?_eq_getElem (by rw [HN.out]; exact hin)⟩
        obtain ⟨b, o, cs, rfl, _, _, ⟨vd, rfl, hvd, hxl⟩, hc⟩ := Rows.at_ flFine (HV.out.below flFine HB.out) hf
        obtain ⟨A', c', rfl⟩ := slice_form hvd
        have c0 : wr.cell? ⟨b, o + i * 3, none⟩ = _ := hc 0 _ rfl
        have c1 : wr.cell? ⟨b, o + i * 3 + 1, none⟩ = _ := hc 1 _ rfl
        have c2 : wr.cell? ⟨b, o + i * 3 + 2, none⟩ = _ := hc 2 _ rfl
        have hnmf : nameB f.name = true := by
          have h1 := List.any_eq_false.1 HNM.out f (List.mem_of_getElem? hf)
          unfold nmB at h1
          simpa using h1
        have HNMF := Lib.hid hnmf
        have HF := Lib.hid hf
        have HVD := Lib.hid hvd
        clear hf hvd hc hnmf
        go_upto_region 7 with (fail)
        obtain ⟨W, hW⟩ : ∃ W, W = wr.alloc (.cells #[.string ⟨f.name.toArray⟩, .slice A' f.data.length c', .int .i64 f.synced] 55) := ⟨_, rfl⟩
        have hbox : W.heap[wr.heap.size]? = some (.cells #[.string ⟨f.name.toArray⟩, .slice A' f.data.length c', .int .i64 f.synced] 55 (0, 0)) := by rw [hW]; exact heap_alloc_new wr _
        have hbw : Below wr.heap.size wr W := by rw [hW]; exact (Below.refl _ _).alloc (Nat.le_refl _) _
        rw [← hW]
        have HDW := Lib.hid (HD.out.below hbw)
        have HBW := Lib.hid (HB.out.trans (hbw.mono HB.out.size))
        have HVW := Lib.hid (HVD.out.below hbw)
        have HBOX := Lib.hid hbox
        have y0 : W.cell? ⟨wr.heap.size, 0, none⟩ = some (.string ⟨f.name.toArray⟩) := cell_of_row W wr.heap.size 0 _ _ _ hbox
        obtain ⟨x0, _⟩ := HDW.out.cell
        have F0 : ∀ q : Ext W, q.w.cell? { block := p, off := 0 } = _ := fun q => q.h.cell x0
        have F1 : ∀ q : Ext W, q.w.cell? { block := wr.heap.size, off := 0 } = _ := fun q => q.h.cell y0
        have F2 : ∀ q : Ext W, (Instr.lookup 66 (.map (some mb)) (.string ⟨f.name.toArray⟩) false).run Tryz.prog q.w = .ok (ptrF (findF f.name d.ns)) q.w := fun q => (HDW.out.below q.h).look f.name hxl
        have hfp : findP f.name acc = (findF f.name d.ns).map Fd.fl := by rw [← findP_map]; show _ = findP f.name d.pk.fs; rw [HPK.out]
        have HFP := Lib.hid hfp
        clear hW hbox hbw c0 c1 c2 hfp
        cases hff : findF f.name d.ns with
        | some g =>
          rw [hff] at F2 HFP
          unfold ptrF at F2
          have hE : ofE fs = 31 := by
            unfold ofE
            rw [if_neg (by rw [HNM.out]; simp), HGO.out, drop_cons HF.out, ofGo, if_pos (by rw [HFP.out]; rfl)]
          obtain rfl : 31 = q0 := hE.symm.trans HQ.out
          clear hE hff
          (refine wp_region_quiet_ext (by kernel_rfl) (by kernel_rfl) ?_; (repeat (go_big_quiet_step (fail))); refine wpQuiet_nil ?_; intro wq hw'; obtain ⟨⟨_, hq⟩, hw''⟩ := hw'; subst hw'')
          go_wp2
          refine bodyPost_ret (v := .tuple #[.pointer none, .int .i64 31]) (by simp [results, Tryz.results20, go_sem]) rfl ?_
          exact ⟨_, rfl, fun _ => rfl, fun e => absurd e (by decide), HBW.out.trans (Below.mono hq HBW.out.size)⟩
        | none =>
          rw [hff] at F2 HFP
          unfold ptrF at F2
          have HFF := Lib.hid hff
          clear hff
          (refine wp_region_quiet_ext (by kernel_rfl) (by kernel_rfl) ?_; (repeat (go_big_quiet_step (fail))); refine wpQuiet_nil ?_; intro wq hw'; obtain ⟨⟨_, hq⟩, hw''⟩ := hw'; subst hw'')
          have hvq := HDW.out.below hq
          have HVQ := Lib.hid hvq
          obtain ⟨x0q, _⟩ := hvq.cell
          have hbq : wq.heap[wr.heap.size]? = some (.cells #[.string ⟨f.name.toArray⟩, .slice A' f.data.length c', .int .i64 f.synced] 55 (0, 0)) := (Below.block hq _ (Array.getElem?_eq_some_iff.1 HBOX.out).1).trans HBOX.out
          have HBQ := Lib.hid hbq
          have z0 : wq.cell? ⟨wr.heap.size, 0, none⟩ = some (.string ⟨f.name.toArray⟩) := cell_of_row wq wr.heap.size 0 _ _ _ hbq
          have z1 : wq.cell? ⟨wr.heap.size, 1, none⟩ = some (.slice A' f.data.length c') := cell_of_row wq wr.heap.size 1 _ _ _ hbq
          have z2 : wq.cell? ⟨wr.heap.size, 2, none⟩ = some (.int .i64 f.synced) := cell_of_row wq wr.heap.size 2 _ _ _ hbq
          obtain ⟨D, hm, hD, hT⟩ := hvq.tidy
          have HBB := Lib.hid (HBW.out.trans (Below.mono hq HBW.out.size))
          have HVX := Lib.hid (fr.byt hq HVW.out)
          have HML := Lib.hid hm.lt
          have HM := Lib.hid hm
          have HDT := Lib.hid (And.intro hD hT)
          have hpm : p ≠ mb := fun e => map_ne HVQ.out.head HM.out e
          have hxm : wr.heap.size ≠ mb := fun e => map_ne HBQ.out HM.out e
          have hdl : d.ns.length < maxLen := by have e1 := congrArg (fun k : Pk => k.fs.length) HPK.out; have e2 : d.pk.fs.length = d.ns.length := map_len d; simp only at e1; unfold maxLen; omega
          clear hvq hbq hm hD hT F0 F1 F2 x0 y0 hq
          go_upto_region 9 with (fail)
          have hf0 : fr wq wq.drew := fr.refl.drew
          go_region_held3 (fun w' => w'.cell? ⟨p, 0, none⟩ = some (.map (some mb)) ∧ w'.cell? ⟨wr.heap.size, 0, none⟩ = some (.string ⟨f.name.toArray⟩) ∧ w'.cell? ⟨wr.heap.size, 1, none⟩ = some (.slice A' f.data.length c') ∧ w'.cell? ⟨wr.heap.size, 2, none⟩ = some (.int .i64 f.synced))
            (first
              | with_reducible exact fr.four hf0 x0q z0 z1 z2
              | with_reducible exact hs3
              | with_reducible exact fr.four hf1 x0q z0 z1 z2
              | with_reducible exact fr.four (fr.alloc hf1 _) x0q z0 z1 z2)
            (first
              | (go_split_ands; go_at_call 39; with_reducible (refine (bcloneO_any _ (.slice A' f.data.length c') f.data _ (fr.byt hf0 HVX.out)).mono ?_); rintro r w2 ⟨v1, rfl, hk', hb2⟩; obtain ⟨Ak', ck', rfl⟩ := hk'.form; have hf1 := fr.step hf0 hb2; have hf2 := fr.alloc hf1 (.cells #[.slice Ak' f.data.length ck', .int .i64 f.synced] 91); have hbk := fr.blk hf2 HML.out; have hmm := ownsMap_block HM.out hbk; obtain ⟨w3, hrun3, hown3, hgrow3⟩ := put_file hmm hdl f.name hxl w2.heap.size; have hs3 := fr.fourG hf2 x0q z0 z1 z2 hgrow3 hpm hxm))
          have hzq := HBB.out.size
          have hz2 : w.heap.size ≤ w2.heap.size := Nat.le_trans hzq (Below.size hf1)
          have hva := HVQ.out.below hf2
          have hfv : FileV (w2.alloc (.cells #[.slice Ak' f.data.length ck', .int .i64 f.synced] 91)) (fun i => w.heap.size ≤ i) ⟨f.name, f.data, f.synced, w2.heap.size, .slice Ak' f.data.length ck'⟩ :=
            ⟨heap_alloc_new w2 _, (hk'.mono fun i hi => Nat.le_trans hzq hi).below ((Below.refl _ _).alloc (Nat.le_refl _) _), hz2⟩
          have hins := hva.ins (F' := fun i => w.heap.size ≤ i) (fun _ hi => hi) (f := ⟨f.name, f.data, f.synced, w2.heap.size, .slice Ak' f.data.length ck'⟩) HDT.out.1 HDT.out.2 hgrow3 hown3 hfv HNMF.out
            (fun g hg _ e => by have h1 := (Array.getElem?_eq_some_iff.1 (HVQ.out.files g hg).cells).1; have h2 := Below.size hf1; simp only at e; omega)
            (fun g hg _ j hj e => by have h1 := ((HVQ.out.files g hg).own.blk e).2.2; have h2 := (hk'.blk hj).1; simp only [World.drew] at h2; omega)
          obtain ⟨_, _, _, _, _, x5, _⟩ := hins.cell
          have xf := hins.frozen
          obtain ⟨_, _, z13, _⟩ := hs3
          have HINS := Lib.hid hins
          have HBC := Lib.hid ((HBB.out.trans (Below.mono hf2 hzq)).grown hgrow3 (by simp; omega) (fun j e => by obtain rfl := Option.some.inj e; exact HVQ.out.loM))
          clear hva hfv hins hk' hb2 hf1 hf2 hbk hmm hrun3 hown3 hgrow3 hf0 z0 z1 z2 x0q
          go_wp2
          go_region
          have hst := (HINS.out.store 5 (.int .i64 (wrap64 (d.bytes + f.data.length))) { d with ns := insF ⟨f.name, f.data, f.synced, w2.heap.size, .slice Ak' f.data.length ck'⟩ d.ns, bytes := wrap64 (d.bytes + f.data.length) } kv rfl HINS.out.keep rfl).below (Below.refl _ _).drew
          have hpk' : Dk.pk { d with ns := insF ⟨f.name, f.data, f.synced, w2.heap.size, .slice Ak' f.data.length ck'⟩ d.ns, bytes := wrap64 (d.bytes + f.data.length) } = ⟨insP f acc, ops, room, zs, 0, sumB (fs.take (i + 1)), false⟩ := by
            have o1 : d.ns.map Fd.fl = acc := congrArg Pk.fs HPK.out
            have o2 : d.ops = ops := congrArg Pk.ops HPK.out
            have o3 : d.room = room := congrArg Pk.room HPK.out
            have o4 : d.keep = zs := congrArg Pk.keep HPK.out
            have o5 : d.done = 0 := congrArg Pk.done HPK.out
            have o6 : d.bytes = sumB (fs.take i) := congrArg Pk.bytes HPK.out
            have o7 : d.down = false := congrArg Pk.down HPK.out
            unfold Dk.pk
            simp only
            rw [← insP_map, o1, o2, o3, o4, o5, o6, o7, sumB_snoc HF.out]
            rfl
          have HST := Lib.hid hst
          have HPK' := Lib.hid hpk'
          have HBE := Lib.hid (HBC.out.trans ((((Only.refl _ w3).setCell (p := ⟨p, 5, none⟩) (S := fun j => w.heap.size ≤ j) HINS.out.loP (.int .i64 (wrap64 (d.bytes + f.data.length)))).drew).below HBC.out.size fun j hj => hj))
          have hgo' : ofGo [] fs = ofGo (insP f acc) (fs.drop (i + 1)) := by rw [HGO.out, drop_cons HF.out, ofGo, if_neg (by rw [HFP.out]; simp)]
          have hlen' := len_insP f acc
          clear hst hpk' xf x5 z13
          go_wp2
          refine ⟨⟨i + 1, insP f acc, mb, kv, _, by omega, by go_num, HST.out, HPK'.out, hgo', by omega, HBE.out⟩, by simp [intOf]; omega⟩
      · obtain rfl : i = n := by omega
        have hd0 : fs.drop i = [] := List.drop_of_length_le (by rw [HN.out]; exact Nat.le_refl _)
        have hgo0 : ofGo [] fs = some acc := by rw [HGO.out, hd0]; rfl
        have hE : ofE fs = if fs.any rgB = true then 2 else 0 := by
          unfold ofE
          rw [if_neg (by rw [HNM.out]; simp), hgo0]
        have hK : d.pk = ofK fs ops room zs := by
          rw [HPK.out]
          unfold ofK
          rw [hgo0, List.take_of_length_le (by rw [HN.out]; exact Nat.le_refl _)]
          rfl
        have HAN2 := Lib.hid (any2 S _ fs wr (HV.out.below flFine HB.out))
        have HE := Lib.hid hE
        have HK := Lib.hid hK
        clear hd0 hgo0 hE hK
        cases hrg : fs.any rgB with
        | true =>
          rw [hrg] at HAN2 HE
          obtain rfl : 2 = q0 := by rw [← HQ.out, HE.out, if_pos rfl]
          clear hrg
          go_wp2_with (go_at_call 43; refine HAN2.out.mono ?_; rintro r w4 ⟨rfl, hb4⟩)
          refine bodyPost_ret (v := .tuple #[.pointer none, .int .i64 2]) (by simp [results, Tryz.results20, go_sem]) rfl ?_
          exact ⟨_, rfl, fun _ => rfl, fun e => absurd e (by decide), HB.out.trans (hb4.mono HB.out.size)⟩
        | false =>
          rw [hrg] at HAN2 HE
          obtain rfl : 0 = q0 := by rw [← HQ.out, HE.out, if_neg (by simp)]
          clear hrg
          go_wp2_with (go_at_call 43; refine HAN2.out.mono ?_; rintro r w4 ⟨rfl, hb4⟩)
          refine bodyPost_ret (v := .tuple #[.pointer (some ⟨p, 0, none⟩), .int .i64 0]) (by simp [results, Tryz.results20, go_sem]) rfl ?_
          exact ⟨_, rfl, ⟨p, rfl, mb, kv, d, HD.out.below hb4, HK.out⟩, HB.out.trans (hb4.mono HB.out.size)⟩
end Go.Proofs.YtiffgjodbcploaaGreat
end
section
namespace Go.Proofs.YtiffgjodbcploaaGreat
set_option maxRecDepth 100000
open Go.RowKit Go.ChangeShapes Go.WideShapes Go.Deep
section
variable {H : Type} {enc : TypeId × Value → H} {w : World} {base : Nat} {held : Bool} {spare : Nat → Bool}
theorem bulk_one (d : DataW H) : 1 ≤ Rows.uptoBulk d := by
  cases d with
  | lit l => cases l <;> simp [Rows.uptoBulk]
  | nil => simp [Rows.uptoBulk]
  | ptr d => simp [Rows.uptoBulk]
  | slice elems spare => simp [Rows.uptoBulk]
  | agg parts => simp [Rows.uptoBulk]
  | iface t d => simp [Rows.uptoBulk]
  | map entries => simp [Rows.uptoBulk]
  | held h => simp [Rows.uptoBulk]
theorem bulk_len (l : List (DataW H)) : l.length ≤ Rows.uptoBulkAll l := by
  induction l with
  | nil => simp [Rows.uptoBulkAll]
  | cons x r ih => have := bulk_one x; simp only [Rows.uptoBulkAll, List.length_cons]; omega
theorem bulk_app (l m : List (DataW H)) : Rows.uptoBulkAll (l ++ m) = Rows.uptoBulkAll l + Rows.uptoBulkAll m := by
  induction l with
  | nil => simp [Rows.uptoBulkAll]
  | cons x r ih => simp only [List.cons_append, Rows.uptoBulkAll, ih]; omega
theorem bytesE_app (l m : List Ent) : bytesE (l ++ m) = bytesE l + bytesE m := by simp [bytesE]
set_option maxRecDepth 10000 in
theorem open_bytU {fuel : Nat} {v : Value} {x : DataW H × List MemPlace} (h : DataW.trod enc Tryz.prog w base spare held fuel 42 [v] = some x) (hw : ∀ n ∈ x.1.weights Tryz.prog 42, n ≤ reachBytes) :
    ∃ bs, Byt w (fun _ => True) v bs ∧ bs.length ≤ Rows.uptoBulk x.1 := by
  rcases open_ints Tryz.underlying42 Tryz.underlying5 cells_u8 h with ⟨hv, _⟩ | ⟨a, len, cap, zs, hv, _, hl, hm, hz, hx, hc, hwf⟩
  · obtain rfl : v = .slice none 0 0 := by simpa using hv
    exact ⟨[], Byt.nil _ _, by simp⟩
  · obtain rfl : v = .slice (some a) len cap := by simpa using hv
    have hlen : len ≤ zs.length := by rw [hz]; split <;> omega
    subst hx
    have hr := hw _ (by simp only [DataW.weights, Tryz.underlying42]; exact List.mem_cons_self)
    rw [bytes_u8] at hr
    simp only [lits, List.length_map, List.length_take, List.length_drop, reachBytes] at hr
    have e1 : ((zs.take len).map fun z => UInt8.ofNat z.toNat).length = len := by simp; omega
    unfold maxLen at hm
    have e2 : ((zs.take len).map fun z => UInt8.ofNat z.toNat).length ≤ Rows.uptoBulk (H := H) (.slice (lits .u8 (zs.take len)) (lits .u8 (zs.drop len))) := by
      have := bulk_len (H := H) (lits .u8 (zs.take len))
      simp only [Rows.uptoBulk]
      simp only [lits, List.length_map] at this ⊢
      omega
    refine ⟨(zs.take len).map fun z => UInt8.ofNat z.toNat, ⟨some a, cap, by rw [e1], by omega, by omega, by omega, ?_⟩, e2⟩
    rw [e1]
    refine ⟨by simp; omega, fun h0 => ?_⟩
    have hs := hc 0 (by omega)
    have hsp : a = ⟨a.block, a.off, none⟩ := cell_spot (a := a) (by simpa [Addr.add] using hs)
    refine ⟨a.block, a.off, by rw [← hsp], trivial, ?_, fun j u hu => ?_⟩
    · have := World.block_lt_of_cell? w _ hs
      simpa [Addr.add] using this
    · rw [List.getElem?_map, List.getElem?_map, List.getElem?_take] at hu
      split at hu
      · rename_i hj
        have hcj := hc j (by omega)
        rw [hsp, Addr.add_lit] at hcj
        rw [hcj]
        obtain ⟨z, hzj⟩ : ∃ z, zs[j]? = some z := ⟨_, List.getElem?_eq_getElem (by omega)⟩
        have hb := bounds_u8 (hwf z (List.mem_of_getElem? hzj))
        rw [hzj] at hu
        simp only [Option.map_some, Option.some.injEq] at hu
        rw [← hu, List.getD_eq_getElem?_getD, hzj]
        unfold bcell
        simp
        omega
      · simp at hu
set_option maxRecDepth 10000 in
theorem open_entU {fuel : Nat} {cs : List Value} {x : DataW H × List MemPlace} (h : DataW.trod enc Tryz.prog w base spare held fuel 48 cs = some x) (hw : ∀ n ∈ x.1.weights Tryz.prog 48, n ≤ reachBytes) :
    ∃ e : Ent, EntCells w (fun _ => True) cs [e] ∧ e.key.length + e.val.length ≤ Rows.uptoBulk x.1 := by
  obtain ⟨y0, y1, y2, y3, n, rfl, hl, h0, h1, h2, h3⟩ := Joins.trod_struct4 Tryz.underlying48 h
  rw [cells_e] at hl
  match cs, hl with
  | [c0, c1, c2, c3], _ =>
    simp only [cells_bs, cells_i, cells_b, List.drop_zero, List.drop_succ_cons, List.take_succ_cons, List.take_zero] at h0 h1 h2 h3
    simp only [DataW.weights, Tryz.underlying48, List.map_cons, List.map_nil, DataW.weightsEach, List.append_nil, List.mem_append] at hw
    obtain ⟨k, hk, hkl⟩ := open_bytU h0 (fun n hn => hw n (.inl hn))
    obtain ⟨u, hu, hul⟩ := open_bytU h3 (fun n hn => hw n (.inr (.inr (.inr hn))))
    obtain ⟨s, hs, _, _⟩ := DataW.trod_int Tryz.underlying3 h1
    obtain ⟨d, hd, _⟩ := DataW.trod_bool Tryz.underlying4 h2
    exact ⟨⟨k, s, d, u⟩, ⟨by simpa using hs, by simpa using hd, hk, hu, trivial⟩, by simp only [Rows.uptoBulk, Rows.uptoBulkAll]; omega⟩
set_option maxRecDepth 10000 in
theorem open_entriesU {fuel : Nat} {v : Value} {x : DataW H × List MemPlace} (h : DataW.trod enc Tryz.prog w base spare held fuel 22 [v] = some x) (hw : ∀ n ∈ x.1.weights Tryz.prog 22, n ≤ reachBytes) :
    ∃ es, Ents w (fun _ => True) v es ∧ es.length ≤ Rows.uptoBulk x.1 ∧ bytesE es ≤ Rows.uptoBulk x.1 := by
  rcases open_slice Tryz.underlying22 h with ⟨hv, hx⟩ | ⟨a, len, cap, m, n, D, Pl, hv, _, hl, hm, hmm, hx, hc⟩
  · obtain rfl : v = .slice none 0 0 := by simpa using hv
    exact ⟨[], Ents.nil _ _, by simp, by simp [bytesE]⟩
  · obtain rfl : v = .slice (some a) len cap := by simpa using hv
    have hlm : len ≤ m := by rw [hmm]; split <;> omega
    subst hx
    simp only [DataW.weights, Tryz.underlying22, List.mem_cons, List.mem_append] at hw
    have hr := hw _ (.inl rfl)
    rw [bytes_e] at hr
    simp only [List.length_map, List.length_range, reachBytes] at hr
    unfold maxLen at hm
    rw [cells_e] at hc
    have key : ∀ k, k ≤ len → ∃ (cs : List Value) (es : List Ent), es.length = k ∧ bytesE es ≤ Rows.uptoBulkAll ((List.range k).map D) ∧ EntCells w (fun _ => True) cs es ∧ ∀ j u, cs[j]? = some u → w.cell? (a.add j) = some u := by
      intro k
      induction k with
      | zero => exact fun _ => ⟨[], [], rfl, by simp [bytesE], trivial, fun j u hu => by simp at hu⟩
      | succ k ih =>
        intro hk
        obtain ⟨cs, es, hel, hbe, hce, hcc⟩ := ih (by omega)
        obtain ⟨cs', h1, h2⟩ := hc k (by omega)
        obtain ⟨e, he, heb⟩ := open_entU h2 (fun n hn => hw n (.inr (.inl (weightsAll_mem (List.mem_map.2 ⟨k, List.mem_range.2 (by omega), rfl⟩) n hn))))
        obtain ⟨_, hl4, h4⟩ := World.cells?_some h1
        have hcl := hce.len
        have hbs : bytesE (es ++ [e]) ≤ Rows.uptoBulkAll ((List.range (k + 1)).map D) := by
          rw [List.range_succ, List.map_append, bulk_app, bytesE_app]
          simp only [List.map_cons, List.map_nil, Rows.uptoBulkAll, bytesE, List.sum_cons, List.sum_nil]
          simp only at heb
          simp only [bytesE] at hbe
          omega
        refine ⟨cs ++ cs', es ++ [e], by simp [hel], hbs, hce.append he, fun j u hu => ?_⟩
        rw [List.getElem?_append] at hu
        split at hu
        · exact hcc j u hu
        · have hj : j - cs.length < 4 := by rw [← hl4]; exact (List.getElem?_eq_some_iff.1 hu).1
          have h5 := h4 _ hj
          rw [hu] at h5
          have h6 := h4 0 (by omega)
          have hsp : a.add (k * 4) = ⟨a.block, a.off + k * 4, none⟩ := by
            have h7 := cell_spot (w := w) (a := (a.add (k * 4))) (v := cs'[0]) (by
              rw [show (a.add (k * 4)).add 0 = a.add (k * 4) by simp [Addr.add]] at h6
              rw [h6, List.getElem?_eq_getElem (by omega)])
            rw [h7, add_block, add_off]
          rw [hsp, Addr.add_lit] at h5
          unfold Addr.add
          by_cases hj0 : j = 0
          · rw [if_pos hj0]
            subst hj0
            have hk0 : k = 0 := by omega
            subst hk0
            have : a = ⟨a.block, a.off, none⟩ := by simpa [Addr.add] using hsp
            rw [this]
            simpa using h5
          · rw [if_neg hj0, ← h5]
            congr 2
            omega
    obtain ⟨cs, es, hel, hbe, hce, hcc⟩ := key len (Nat.le_refl _)
    have hcl := hce.len
    have hlb := bulk_len ((List.range len).map D)
    rw [List.length_map, List.length_range] at hlb
    refine ⟨es, ⟨some a, cap, cs, by rw [hel], by omega, by omega, by omega, ?_, hce⟩, by simp only [Rows.uptoBulk]; omega, by simp only [Rows.uptoBulk]; omega⟩
    rw [hel]
    refine ⟨by omega, fun h0 => ?_⟩
    obtain ⟨u0, hu0⟩ : ∃ u, cs[0]? = some u := ⟨_, List.getElem?_eq_getElem (by omega)⟩
    have hs := hcc 0 u0 hu0
    have hsp : a = ⟨a.block, a.off, none⟩ := cell_spot (a := a) (by simpa [Addr.add] using hs)
    refine ⟨a.block, a.off, by rw [← hsp], trivial, ?_, fun j u hu => ?_⟩
    · have := World.block_lt_of_cell? w _ hs
      simpa [Addr.add] using this
    · have := hcc j u hu
      rwa [hsp, Addr.add_lit] at this
set_option maxRecDepth 10000 in
theorem arg_entriesU {r : Reach} {b0 : Nat} {v : Value} {d : DataW H} {ps : List MemPlace} (hval : Value.okWide Tryz.prog w r b0 22 v) (hd : DataW.Trod enc Tryz.prog w base spare held 22 v d ps) (hw : ∀ n ∈ d.weights Tryz.prog 22, n ≤ reachBytes)
    (hk : Rows.uptoBulk d ≤ 1048576) : ∃ es, Ents w (fun _ => True) v es ∧ (es.length ≤ 1048576 ∧ bytesE es ≤ 1048576) := by
  obtain ⟨n, hn⟩ := arg_slice Tryz.underlying22 hval hd
  obtain ⟨es, h1, h2, h3⟩ := open_entriesU hn hw
  simp only at h2 h3
  exact ⟨es, h1, by omega, by omega⟩
/-- a Look: a key, a range, a number. -/
def LookV (w : World) (S : Nat → Prop) (v : Value) (a : List UInt8 × List UInt8 × List UInt8 × Int) : Prop := ∃ kv lv hv, v = .agg #[kv, lv, hv, .int .i64 a.2.2.2] ∧ Byt w S kv a.1 ∧ Byt w S lv a.2.1 ∧ Byt w S hv a.2.2.1
end
end Go.Proofs.YtiffgjodbcploaaGreat
end
section
namespace Go.Proofs.YtiffgjodbcploaaGreat
set_option maxRecDepth 100000
open Go.RowKit Go.BigFrame Go.Shelf
attribute [local go_sem ↓] Go.wp_at_zero Go.wp_at_succ
/-- one file of a dump. -/
theorem file_one {w : World} {base : Nat} {v : Value} {f : Fl} (h : OwnFiles w base v [f]) : ∃ g c d, v = .slice (some ⟨g, 0, none⟩) 1 c ∧ w.cell? ⟨g, 1, none⟩ = some d ∧ Byt w (fun i => base ≤ i ∧ Loose w i) d f.data := by
  obtain ⟨css, h1, h2⟩ := h
  obtain ⟨cs, hc, hp⟩ := h2.at_ (i := 0) rfl
  obtain ⟨d, rfl, h3, _⟩ := hp
  obtain ⟨g, c, rfl, _⟩ := own_pos h1 (by simp)
  have hcs : css = [[.string ⟨f.name.toArray⟩, d, .int .i64 f.synced]] := by
    have := h2.length
    match css, this, hc with
    | [a], _, hc => simp only [List.getElem?_cons_zero, Option.some.injEq] at hc; rw [hc]
  refine ⟨g, c, d, rfl, ?_, h3.mono fun i hi => ⟨hi.1, hi.2.2⟩⟩
  have h := h1.cells (g := g) rfl 1 d (by rw [hcs]; rfl)
  rwa [Addr.add_lit, Nat.zero_add] at h
theorem byt_set {w : World} {S : Nat → Prop} {b o n c k : Nat} {bs : List UInt8} (h : Byt w S (.slice (some ⟨b, o, none⟩) n c) bs) (hL : Loose w b) (hk : k < n) (y : UInt8) : Byt (w.setCell ⟨b, o + k, none⟩ (bcell y)) S (.slice (some ⟨b, o, none⟩) n c) (bs.set k y) := by
  obtain ⟨cs, hh⟩ := hL
  have hs := heap_setCell_same w b (o + k) cs _ (bcell y) hh
  obtain ⟨A, ca, e, h1, h2, h3, hr⟩ := h
  simp only [Value.slice.injEq] at e
  obtain ⟨rfl, rfl, rfl⟩ := e
  obtain ⟨b', o', e, hS, hlt, hc⟩ := hr.2 (by omega)
  simp only [Option.some.injEq, Addr.mk.injEq, and_true] at e
  obtain ⟨rfl, rfl⟩ := e
  refine ⟨_, _, by rw [List.length_set], by rw [List.length_set]; exact h1, h2, by rw [List.length_set]; exact h3, by rw [List.length_map, List.length_set]; simp, fun _ => ⟨b, o, rfl, hS, by simpa [World.setCell] using hlt, fun j u hu => ?_⟩⟩
  rw [cell_of_row _ _ _ _ _ _ hs]
  have key : ∀ j u, (bs.map bcell)[j]? = some u → cs[o + j]? = some u := fun j u hu => by
    have := hc j u hu
    rwa [cell_of_row _ _ _ _ _ _ hh] at this
  rw [List.map_set, List.getElem?_set] at hu
  by_cases hj : k = j
  · subst hj
    rw [if_pos rfl] at hu
    split at hu
    · rename_i hjl
      simp only [Option.some.injEq] at hu
      obtain ⟨u0, hu0⟩ : ∃ u, (bs.map bcell)[k]? = some u := ⟨_, List.getElem?_eq_getElem hjl⟩
      have h5 := (Array.getElem?_eq_some_iff.1 (key k u0 hu0)).1
      rw [Array.getElem?_setIfInBounds_self, if_pos h5, hu]
    · cases hu
  · rw [if_neg hj] at hu
    rw [Array.getElem?_setIfInBounds_ne (by omega)]
    exact key j u hu
theorem size4 (x : Int) : ∃ k : Nat, (1 ≤ k ∧ k ≤ 1024) ∧ wrap64 (1 + wrap64 ((IntKind.u64.wrap x).tmod 4)) = (k : Int) := by
  have h0 := wrap_u64 x
  have h1 : (IntKind.u64.wrap x).tmod 4 = (IntKind.u64.wrap x) % 4 := Int.tmod_eq_emod_of_nonneg (by rw [h0]; omega)
  rw [h1]
  obtain ⟨r, hr⟩ : ∃ r, (IntKind.u64.wrap x) % 4 = r := ⟨_, rfl⟩
  rw [hr]
  have h2 : 0 ≤ r ∧ r < 4 := by omega
  refine ⟨(1 + r).toNat, by omega, ?_⟩
  unfold wrap64
  omega
theorem rem_at (x : Int) (n : Nat) (h0 : 0 < n) (hn : n ≤ 9223372036854775807) : ∃ k : Nat, k < n ∧ wrap64 ((IntKind.u64.wrap x).tmod (n : Int)) = (k : Int) := by
  have h1 := wrap_u64 x
  rw [Int.tmod_eq_emod_of_nonneg (by rw [h1]; omega)]
  have h2 := Int.emod_nonneg (IntKind.u64.wrap x) (show (n : Int) ≠ 0 by omega)
  have h3 := Int.emod_lt_of_pos (IntKind.u64.wrap x) (show (0 : Int) < n by omega)
  exact ⟨((IntKind.u64.wrap x) % n).toNat, by omega, by rw [IntWalk.wrap64_in _ ⟨by omega, by omega⟩]; omega⟩
/-- the byte that is turned. -/
theorem turn_val (x : UInt8) (a : Int) : ∃ y : UInt8, y ≠ x ∧ Value.int .u8 (bits .xor .u8 (x.toNat : Int) (wrap64 (1 + wrap64 ((IntKind.u64.wrap a).tmod 255)) % 256)) = bcell y := by
  have h0 := wrap_u64 a
  have h1 : (IntKind.u64.wrap a).tmod 255 = (IntKind.u64.wrap a) % 255 := Int.tmod_eq_emod_of_nonneg (by rw [h0]; omega)
  rw [h1]
  obtain ⟨r, hr⟩ : ∃ r, (IntKind.u64.wrap a) % 255 = r := ⟨_, rfl⟩
  rw [hr]
  have h2 : 0 ≤ r ∧ r < 255 := by omega
  obtain ⟨q, hq, hqv⟩ : ∃ q : Nat, (1 ≤ q ∧ q < 256) ∧ wrap64 (1 + wrap64 r) % 256 = (q : Int) := by
    refine ⟨(1 + r).toNat, by omega, ?_⟩
    rw [IntWalk.wrap64_in r ⟨by omega, by omega⟩, IntWalk.wrap64_in _ ⟨by omega, by omega⟩]
    omega
  rw [hqv]
  have hx := x.toNat_lt
  have h3 := crc_index (c := x.toNat) (x := q) hq.2
  rw [show ((x.toNat : Int) % 256) = (x.toNat : Int) by omega, show x.toNat % 256 = x.toNat by omega] at h3
  rw [h3]
  have hlt : x.toNat ^^^ q < 256 := Nat.xor_lt_two_pow (n := 8) hx hq.2
  have hto : (UInt8.ofNat (x.toNat ^^^ q)).toNat = x.toNat ^^^ q := by simp only [UInt8.toNat_ofNat']; omega
  refine ⟨UInt8.ofNat (x.toNat ^^^ q), fun e => ?_, ?_⟩
  · have e1 := congrArg UInt8.toNat e
    rw [hto] at e1
    have e2 : x.toNat ^^^ q = x.toNat ^^^ 0 := by rw [Nat.xor_zero]; exact e1
    have := xor_cancel e2
    omega
  · unfold bcell
    rw [hto]
theorem byt_take {w : World} {S : Nat → Prop} {b o n c k : Nat} {bs : List UInt8} (h : Byt w S (.slice (some ⟨b, o, none⟩) n c) bs) (hk : k ≤ n) : Byt w S (.slice (some ⟨b, o, none⟩) k c) (bs.take k) := by
  obtain ⟨A, ca, e, h1, h2, h3, hr⟩ := h
  simp only [Value.slice.injEq] at e
  obtain ⟨rfl, rfl, rfl⟩ := e
  have hl : (bs.take k).length = k := by rw [List.length_take]; omega
  refine ⟨_, _, by rw [hl], by omega, h2, by omega, by rw [List.length_map]; simp, fun h0 => ?_⟩
  obtain ⟨b', o', e, hS, hlt, hc⟩ := hr.2 (by rw [hl] at h0; omega)
  refine ⟨b', o', e, hS, hlt, fun j u hu => hc j u ?_⟩
  rw [List.map_take, List.getElem?_take] at hu
  split at hu
  · exact hu
  · cases hu
theorem byt_cell {w : World} {S : Nat → Prop} {b o n c k : Nat} {bs : List UInt8} {x : UInt8} (h : Byt w S (.slice (some ⟨b, o, none⟩) n c) bs) (hx : bs[k]? = some x) : w.cell? ⟨b, o + k, none⟩ = some (.int .u8 (x.toNat : Int)) := by
  obtain ⟨A, ca, e, h1, h2, h3, hr⟩ := h
  simp only [Value.slice.injEq] at e
  obtain ⟨rfl, rfl, rfl⟩ := e
  have hl := (List.getElem?_eq_some_iff.1 hx).1
  obtain ⟨b', o', e, hS, hlt, hc⟩ := hr.2 (by omega)
  simp only [Option.some.injEq, Addr.mk.injEq, and_true] at e
  obtain ⟨rfl, rfl⟩ := e
  exact hc k _ (by rw [List.getElem?_map, hx]; rfl)
theorem byt_loose {w : World} {lo b o n c : Nat} {bs : List UInt8} (h : Byt w (fun i => lo ≤ i ∧ Loose w i) (.slice (some ⟨b, o, none⟩) n c) bs) (hp : 0 < bs.length) : Loose w b ∧ lo ≤ b := by
  obtain ⟨A, ca, e, h1, h2, h3, hr⟩ := h
  simp only [Value.slice.injEq] at e
  obtain ⟨rfl, rfl, rfl⟩ := e
  obtain ⟨b', o', e, hS, hlt, hc⟩ := hr.2 hp
  simp only [Option.some.injEq, Addr.mk.injEq, and_true] at e
  obtain ⟨rfl, rfl⟩ := e
  exact ⟨hS.2, hS.1⟩
theorem Loose.frozen' {w : World} {b p : Nat} (h : Loose w b) : w.frozen? ⟨b, p, none⟩ = false := by
  obtain ⟨cs, h⟩ := h
  exact frozen_of_row w b p cs _ h
theorem Byt.drewE {w : World} {S : Nat → Prop} {v : Value} {bs : List UInt8} (h : Byt w S v bs) : Byt w.drew S v bs := h.below (Below.refl _ w).drew
theorem fr.putE' {W X : World} {pb j : Nat} {u : Value} (h : fr W X) (hp : W.heap.size ≤ pb) : fr W (X.setCell ⟨pb, j, none⟩ u) := RowKit.Below.setCell h hp u
theorem fr.stepR' {W X Y : World} (h : fr W X) (g : fr X Y) : fr W Y := fr.step h g
/-- a slice of one file, just made. -/
theorem file_new (x : Nm) (b : List UInt8) (s : Int) (d : Value) (w : World) (h : Byt w (fun _ => True) d b) (hx : x.length ≤ 140737488355328) : FilesV (w.alloc (.cells #[.string ⟨x.toArray⟩, d, .int .i64 s] 55)) (fun _ => True) (.slice (some ⟨w.heap.size, 0, none⟩) 1 1) [⟨x, b, s⟩] := by
  have hb := h.below (fr.alloc (fr.refl (W := w)) (.cells #[.string ⟨x.toArray⟩, d, .int .i64 s] 55))
  refine ⟨_, _, [[.string ⟨x.toArray⟩, d, .int .i64 s]], rfl, by simp, by simp, by simp, ⟨by simp, fun _ => ⟨w.heap.size, 0, rfl, trivial, by simp, fun j u hu => ?_⟩⟩, .cons ⟨d, rfl, hb, hx⟩ .nil⟩
  rw [World.cell?_alloc_at _ _ _ _ (by simp)]
  simpa using hu
/-- an open table's file, put on a disk of its own. -/
def oneK (b : List UInt8) : Pk := ⟨[⟨[116], b, b.length⟩], -1, -1, [], 0, sumB [⟨[116], b, b.length⟩], false⟩
theorem one_of (b : List UInt8) : ofE [⟨[116], b, b.length⟩] = 0 ∧ ofK [⟨[116], b, b.length⟩] (-1) (-1) [] = oneK b := by
  refine ⟨?_, rfl⟩
  unfold ofE
  have h1 : [(⟨[116], b, b.length⟩ : Fl)].any nmB = false := by simp [nmB, nameB, okByte]
  have h2 : [(⟨[116], b, b.length⟩ : Fl)].any rgB = false := by simp [rgB]
  have h3 : ofGo [] [(⟨[116], b, b.length⟩ : Fl)] = some [⟨[116], b, b.length⟩] := rfl
  rw [h1, h2, h3]
  rfl
theorem one_ready (b : List UInt8) : readyE (oneK b) [[116]] = 0 ∧ readD (oneK b) [116] = b := ⟨rfl, rfl⟩
set_option maxRecDepth 100000 in
set_option maxHeartbeats 1000000 in
theorem tabToldLaw (v : Value) (es : List Ent) (av : Value) (a : Int × Int) (cb : Bool) (w : World) (hv : Ents w (fun _ => True) v es) (hN : es.length ≤ 1048576 ∧ bytesE es ≤ 1048576) (ha : av = .agg #[.int .i64 a.1, .int .i64 a.2]) :
    Calls Tryz.prog 4 #[v, av, .bool cb] w fun r w' => r = .returned (.bool true) ∧ Below w.heap.size w w' := by
  obtain ⟨a0, a1⟩ := a
  subst ha
  simp only
  obtain ⟨A, c, rfl⟩ := hv.form
  obtain ⟨N, hNN⟩ : ∃ q, es.length = q := ⟨_, rfl⟩
  rw [hNN]
  rw [hNN] at hv hN
  obtain ⟨hN1, hN2⟩ := hN
  have hfA : fr w (w.alloc (.cells #[.int .i64 a0, .int .i64 a1] 50)) := fr.alloc fr.refl _
  have hbx := heap_alloc_new w (.cells #[.int .i64 a0, .int .i64 a1] 50)
  have HV := Lib.hid hv
  have HNN := Lib.hid hNN
  have HFA := Lib.hid hfA
  have HBX := Lib.hid hbx
  clear hv hNN hfA hbx
  go_enter Tryz.func4, Tryz.ntmps4
  go_wp2_with (fail)
  refine (twakes_any _).mono ?_
  rintro r w1 ⟨rfl, hb1⟩
  have HF1 := Lib.hid (fr.step HFA.out hb1)
  have HX1 := Lib.hid (fr.hp hb1 HBX.out)
  clear hb1
  by_cases hN0 : N = 0
  · subst hN0
    go_wp2
    refine bodyPost_ret (v := .bool true) (by simp [results, Tryz.results4, go_sem]) rfl ?_
    exact ⟨rfl, HF1.out⟩
  have hN0' : ((N : Int) == 0) = false := by simpa using hN0
  have HOR := Lib.hid (rordered_any _ _ es w1 (HV.out.below HF1.out))
  rcases hord : orderedE es with _ | _
  · rw [hord] at HOR
    clear hord
    go_wp2_with (go_at_call 11; refine HOR.out.mono ?_; rintro r w2 ⟨rfl, hb2⟩; have HF2 := Lib.hid (fr.step HF1.out hb2); clear hb2)
    refine bodyPost_ret (v := .bool true) (by simp [results, Tryz.results4, go_sem]) rfl ?_
    exact ⟨rfl, HF2.out⟩
  rw [hord] at HOR
  have HORD := Lib.hid hord
  clear hord
  go_upto_region 5 with (go_at_call 11; refine HOR.out.mono ?_; rintro r w2 ⟨rfl, hb2⟩; have HF2 := Lib.hid (fr.step HF1.out hb2); have HX2 := Lib.hid (fr.hp hb2 HX1.out); clear hb2)
  clear HOR HF1 HX1 HBX HFA
  have x1 := cell_of_row w2 _ 1 _ _ _ HX2.out
  simp only [List.getElem?_toArray, List.getElem?_cons_zero, List.getElem?_cons_succ] at x1
  go_wp2_with (fail)
  obtain ⟨sz, hsz, hszv⟩ := size4 a1
  rw [hszv]
  refine (made_any _ A N c sz es w2 (HV.out.below HF2.out) HNN.out hsz HORD.out (by omega) (by omega) (by omega)).mono ?_
  rintro r w3 ⟨Tb, p, ps, rfl, hps, _, _, ⟨F, hD, _⟩, hf3⟩
  have hfle := fileF_le hps
  rw [HNN.out] at hfle
  obtain ⟨fl, hfl⟩ : ∃ f, fileF N ps = f := ⟨_, rfl⟩
  rw [hfl] at hD hfle
  have hfl40 : fl.length ≤ 1099511627000 := by omega
  have HDM := Lib.hid (dump_any F p _ w3 hD (show ([⟨[116], sealF fl, (sealF fl).length⟩] : List Fl).length * 48 ≤ 140737488355328 by simp))
  obtain ⟨n, hn⟩ : ∃ n, (sealF fl).length = n := ⟨_, rfl⟩
  have hn12 : n = fl.length + 12 := by rw [← hn, sealF_len]
  have HF3 := Lib.hid (fr.step HF2.out hf3)
  have HX3 := Lib.hid (fr.hp hf3 HX2.out)
  clear hps hD hf3 x1 hszv hsz HF2 HX2 hfle hfl
  go_wp2_with (fail)
  refine HDM.out.mono ?_
  rintro r w4 ⟨v4, rfl, hv4, hb4⟩
  obtain ⟨g4, c4, d4, rfl, hd4, hB4⟩ := file_one (f := ⟨[116], sealF fl, (sealF fl).length⟩) hv4
  obtain ⟨Ad, cd, rfl⟩ := slice_form hB4
  obtain ⟨bd, od, rfl⟩ := Byt.some_of hB4 (by show 0 < (sealF fl).length; omega)
  simp only at hd4 hB4
  rw [hn] at hd4 hB4
  have HB4 := Lib.hid hB4
  have HF4 := Lib.hid (fr.step HF3.out hb4)
  have hx4 := fr.hp hb4 HX3.out
  have x0 := cell_of_row w4 _ 0 _ _ _ hx4
  have x1 := cell_of_row w4 _ 1 _ _ _ hx4
  simp only [List.getElem?_toArray, List.getElem?_cons_zero, List.getElem?_cons_succ] at x0 x1
  have HN' := Lib.hid hn
  have hn0 : ((n : Int) == 0) = false := by simp; omega
  have hun : IntKind.u64.wrap (n : Int) = (n : Int) := wraps64 _ (by omega) (by omega)
  have hz3 := hb4.size
  have HN12 := Lib.hid hn12
  have hnle : n ≤ 1099511627788 := by omega
  obtain ⟨k, hkn, hkv⟩ := rem_at a0 n (by omega) (by omega)
  have hkv' : wrap64 ((IntKind.u64.wrap a0).tmod (n : Int)) = (k : Int) := hkv
  clear HDM hv4 hB4 hb4 hn hn12 HX3 hkv
  have hcd : n ≤ cd ∧ cd ≤ 9223372036854775807 := by obtain ⟨A, ca, e, h1, h2, _⟩ := HB4.out; simp only [Value.slice.injEq] at e; rw [HN'.out] at h1; omega
  obtain ⟨hcd1, hcd2⟩ := hcd
  go_upto_region 13 with (fail)
  rw [hkv']
  have H40 := Lib.hid hfl40
  clear hkv' hun hN1 hN2 hfl40 x0
  go_upto_if 70 with (fail)
  go_cut [10] (fun x wc => ∃ (m : Nat) (b' : List UInt8), x = .slice (some ⟨bd, od, none⟩) m cd ∧ Byt wc (fun _ => True) (.slice (some ⟨bd, od, none⟩) m cd) b' ∧ b'.length = m ∧ Bad b' ∧ m ≤ n ∧ fr w wc)
  case first =>
    rcases cb with _ | _
    · obtain ⟨xb, hxb⟩ : ∃ u, (sealF fl)[k]? = some u := ⟨_, List.getElem?_eq_getElem (by rw [HN'.out]; exact hkn)⟩
      obtain ⟨y, hy, hyv⟩ := turn_val xb a1
      have hcl := byt_cell HB4.out hxb
      obtain ⟨hlo, hbase⟩ := byt_loose HB4.out (by rw [HN'.out]; omega)
      have hfz := hlo.frozen' (p := od + k)
      have hfr := HF4.out.size
      have HBT := Lib.hid (byt_set (HB4.out.mono (S' := fun _ => True) fun _ _ => trivial) hlo hkn y)
      have HFW := Lib.hid (show fr w (w4.setCell ⟨bd, od + k, none⟩ (bcell y)) from fr.putE' HF4.out (by have := HF3.out.size; omega))
      have HBD := Lib.hid (bad_turn (Nat.le_trans H40.out (by decide)) hxb hy)
      have HYV := Lib.hid hyv
      clear hxb hlo hbase hy hyv hd4
      go_wp2
      go_still_tail 15, (by kernel_rfl)
      go_wp2_with fail
      go_meet
      case rel =>
        rw [HYV.out]
        refine ⟨n, (sealF fl).set k y, rfl, HBT.out.drewE, by rw [List.length_set]; exact HN'.out, HBD.out, Nat.le_refl _, HFW.out.drew⟩
    · go_wp2_with fail
      go_meet
      case rel =>
        exact ⟨k, (sealF fl).take k, rfl, byt_take (HB4.out.mono (S' := fun _ => True) fun _ _ => trivial) (Nat.le_of_lt hkn), by rw [List.length_take, HN'.out]; omega, bad_cut (Nat.le_trans H40.out (by decide)) (by have := HN12.out; omega), Nat.le_of_lt hkn, HF4.out⟩
  case rest =>
    obtain ⟨m, b', rfl, hbm, hml, hbad, hmn, hfm⟩ := hcut
    go_wp2_with (fail)
    refine (calm_any _).mono ?_
    rintro r w6 ⟨rfl, f6⟩
    have hfl6 := file_new [116] b' m (.slice (some ⟨bd, od, none⟩) m cd) wc hbm (by simp)
    have HFL := Lib.hid (hfl6.below flFine f6)
    have HF6 := Lib.hid (fr.stepR' (fr.alloc hfm _) f6)
    have HML := Lib.hid hml
    have HBAD := Lib.hid hbad
    have HBL := Lib.hid (show b'.length ≤ n by omega)
    clear hfm f6 hfl6 hbm hml hbad
    go_wp2_with (fail)
    refine (of_any (fun _ => True) (fun _ => True) _ [⟨[116], b', m⟩] (-1) (-1) _ [] w6 HFL.out (IntsIn.nil _ _) (by simp)).mono ?_
    rintro r w7 ⟨q, rfl, _, hq, hb7⟩
    have ho := one_of b'
    rw [HML.out] at ho
    obtain ⟨p7, rfl, h7⟩ := hq ho.1
    rw [ho.1]
    rw [ho.2] at h7
    have HF7 := Lib.hid (fr.step HF6.out hb7)
    have H7 := Lib.hid h7
    clear ho hq hb7 h7
    go_wp2_with (fail)
    refine (topen_bad _ p7 (oneK b') [116] w7 H7.out (by simp) (one_ready b').1 (by rw [(one_ready b').2]; have := HBL.out; have := HN12.out; have := H40.out; omega) (by rw [(one_ready b').2]; exact HBAD.out)).mono ?_
    rintro r w8 ⟨rfl, f8⟩
    go_wp2
    refine bodyPost_ret (v := .bool true) (by simp [results, Tryz.results4, go_sem]) rfl ?_
    exact ⟨rfl, fr.stepR' HF7.out f8⟩
end Go.Proofs.YtiffgjodbcploaaGreat
end
