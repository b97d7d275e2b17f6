/-
ref07's insert, without.
-/
import Derived.Test.YtcmjoaepihbodaaQPOwnU8
import Derived.Test.YtcmjoaepihbodaaQPOwnU9
import Derived.Sort.Walk0
section
namespace Go.Proofs.Ytcmjoaepihbodaa
open Go.RowKit
def sortedP (fs : List Fl) : Prop := fs.Pairwise fun a b => a.name < b.name
/-- the place of the first file of a name. -/
def idxP (x : Nm) : List Fl → Option Nat
  | [] => none
  | f :: l => if f.name = x then some 0 else (idxP x l).map (· + 1)
def idxI (x : Nm) (fs : List Fl) : Int := match idxP x fs with | some i => i | none => -1
theorem idxP_at {x : Nm} {fs : List Fl} {k : Nat} {f : Fl} (h : fs[k]? = some f) (he : f.name = x) (hl : ∀ g ∈ fs.take k, g.name ≠ x) : idxP x fs = some k := by
  induction fs generalizing k with
  | nil => simp at h
  | cons a l ih =>
    cases k with
    | zero =>
      simp at h
      subst h
      rw [idxP, if_pos he]
    | succ k =>
      rw [idxP, if_neg (hl a (by simp)), ih (by simpa using h) (fun g hg => hl g (by rw [List.take_succ_cons]; exact List.mem_cons_of_mem _ hg))]
      rfl
theorem idxP_none {x : Nm} {fs : List Fl} (h : ∀ g ∈ fs, g.name ≠ x) : idxP x fs = none := by
  induction fs with
  | nil => rfl
  | cons a l ih => rw [idxP, if_neg (h a List.mem_cons_self), ih fun g hg => h g (List.mem_cons_of_mem _ hg)]; rfl
theorem idxP_find {x : Nm} {fs : List Fl} : (idxP x fs = none ∧ findP x fs = none) ∨ ∃ i f, idxP x fs = some i ∧ findP x fs = some f ∧ fs[i]? = some f ∧ f.name = x := by
  induction fs with
  | nil => exact .inl ⟨rfl, rfl⟩
  | cons a l ih =>
    unfold idxP findP
    by_cases h : a.name = x
    · rw [if_pos h, if_pos h]
      exact .inr ⟨0, a, rfl, rfl, by simp, h⟩
    · rw [if_neg h, if_neg h]
      rcases ih with ⟨h1, h2⟩ | ⟨i, f, h1, h2, h3, h4⟩
      · exact .inl ⟨by rw [h1]; rfl, h2⟩
      · exact .inr ⟨i + 1, f, by rw [h1]; rfl, h2, by simpa using h3, h4⟩
theorem findP_none {x : Nm} {fs : List Fl} (h : findP x fs = none) : ∀ f ∈ fs, f.name ≠ x := by
  induction fs with
  | nil => simp
  | cons a l ih =>
    unfold findP at h
    split at h
    · cases h
    · rename_i hn
      intro f hf
      rcases List.mem_cons.1 hf with rfl | hf
      · exact hn
      · exact ih h f hf
/-- in the order of the names. -/
def insI (f : Fl) : List Fl → List Fl
  | [] => [f]
  | g :: l => if f.name < g.name then f :: g :: l else g :: insI f l
theorem insI_insP {f : Fl} {fs : List Fl} (h : findP f.name fs = none) : insI f fs = insP f fs := by
  induction fs with
  | nil => rfl
  | cons a l ih =>
    have ha := findP_none h a List.mem_cons_self
    unfold findP at h
    rw [if_neg ha] at h
    unfold insI insP
    rw [if_neg (fun e : f.name = a.name => ha e.symm), ih h]
theorem len_insI (f : Fl) (fs : List Fl) : (insI f fs).length = fs.length + 1 := by
  induction fs with
  | nil => rfl
  | cons a l ih =>
    unfold insI
    split
    · simp
    · simp [ih]
theorem erase_delP {x : Nm} {fs : List Fl} {i : Nat} (hs : sortedP fs) (h : idxP x fs = some i) : delP x fs = fs.eraseIdx i := by
  induction fs generalizing i with
  | nil => cases h
  | cons a l ih =>
    obtain ⟨h1, h2⟩ := List.pairwise_cons.1 hs
    unfold idxP at h
    unfold delP
    by_cases e : a.name = x
    · rw [if_pos e] at h
      obtain rfl := Option.some.inj h
      rw [if_pos e, List.eraseIdx_cons_zero]
      have : ∀ g ∈ l, g.name ≠ x := fun g hg e' => by have := h1 g hg; rw [e, e'] at this; exact List.lt_irrefl _ this
      clear ih h h1 h2 hs
      induction l with
      | nil => rfl
      | cons b l ih => rw [delP, if_neg (this b List.mem_cons_self), ih fun g hg => this g (List.mem_cons_of_mem _ hg)]
    · rw [if_neg e] at h
      rw [if_neg e]
      cases hi : idxP x l with
      | none => rw [hi] at h; cases h
      | some j =>
        rw [hi] at h
        obtain rfl := Option.some.inj h
        rw [ih h2 hi, List.eraseIdx_cons_succ]
theorem sorted_ne {fs : List Fl} (hs : sortedP fs) : fs.Pairwise fun a b => a.name ≠ b.name := hs.imp fun h e => by rw [e] at h; exact List.lt_irrefl _ h
theorem srt_ins {f : Fl} {fs : List Fl} (hs : sortedP fs) : sortedP (insP f fs) := by
  induction fs with
  | nil => exact List.pairwise_singleton _ _
  | cons a l ih =>
    obtain ⟨h1, h2⟩ := List.pairwise_cons.1 hs
    unfold insP
    split
    · rename_i h
      exact List.pairwise_cons.2 ⟨fun g hg => by
        rcases List.mem_cons.1 hg with rfl | hg
        · exact h
        · exact List.lt_trans h (h1 g hg), hs⟩
    · split
      · rename_i e
        exact List.pairwise_cons.2 ⟨fun g hg => by rw [e]; exact h1 g hg, h2⟩
      · rename_i hn he
        refine List.pairwise_cons.2 ⟨fun g hg => ?_, ih h2⟩
        rcases mem_insP hg with rfl | hg
        · exact Std.lt_of_le_of_ne (List.not_lt.1 hn) fun e => he e.symm
        · exact h1 g hg
theorem srt_del {x : Nm} {fs : List Fl} (hs : sortedP fs) : sortedP (delP x fs) := by
  induction fs with
  | nil => exact List.Pairwise.nil
  | cons a l ih =>
    obtain ⟨h1, h2⟩ := List.pairwise_cons.1 hs
    unfold delP
    split
    · exact ih h2
    · exact List.pairwise_cons.2 ⟨fun g hg => h1 g (mem_delP hg), ih h2⟩
/-- the bytes of all files. -/
def tot (fs : List Fl) : Nat := (fs.map fun f => f.data.length).sum
theorem tot_take {fs : List Fl} {i : Nat} {f : Fl} (h : fs[i]? = some f) : tot (fs.take (i + 1)) = tot (fs.take i) + f.data.length := by
  unfold tot
  rw [List.take_add_one, h]
  simp
theorem tot_le {fs : List Fl} (i : Nat) : tot (fs.take i) ≤ tot fs := by
  unfold tot
  rw [← List.take_append_drop i fs, List.map_append, List.sum_append]
  simp only [List.take_append_drop]
  omega
theorem tot_mem {fs : List Fl} {f : Fl} (h : f ∈ fs) : f.data.length ≤ tot fs := by
  unfold tot
  induction fs with
  | nil => cases h
  | cons a l ih =>
    rw [List.map_cons, List.sum_cons]
    rcases List.mem_cons.1 h with rfl | h
    · omega
    · have := ih h; omega
theorem wrap_id {z : Int} (h1 : -9223372036854775808 ≤ z) (h2 : z ≤ 9223372036854775807) : wrap64 z = z := by unfold wrap64; omega
end Go.Proofs.Ytcmjoaepihbodaa
end
section
namespace Go.Proofs.Ytcmjoaepihbodaa
open Go.RowKit Go.BigFrame
attribute [local go_sem ↓] Go.wp_at_zero Go.wp_at_succ
theorem ba_take (A : ByteArray) (k : Nat) (h : k < A.size) : A.data.toList.take (k + 1) = A.data.toList.take k ++ [A[k]] := by
  rw [List.take_add_one, List.getElem?_eq_getElem (by simpa using h)]; rfl
theorem ba_bad (A : ByteArray) (k : Nat) (h : k < A.size) (hb : okByte A[k] = false) : nameB A.data.toList = false := by
  have : A.data.toList.all okByte = false := by
    rw [List.all_eq_false]
    refine ⟨A[k], ?_, by rw [hb]; simp⟩
    have : A.data.toList[k]? = some A[k] := by rw [List.getElem?_eq_getElem (by simpa using h)]; rfl
    exact List.mem_of_getElem? this
  unfold nameB
  rw [this, Bool.and_false]
set_option maxRecDepth 100000 in
set_option maxHeartbeats 4000000 in
theorem rname_ba (A : ByteArray) (w : World) (hx : A.size ≤ 140737488355328) :
    Calls Try.prog 36 #[.string A] w fun e w' => e = .returned (.bool (nameB A.data.toList)) ∧ w = w' := by
  go_enter Try.func36, Try.ntmps36
  go_wp2
  go_loopw [3] (fun t wr => ∃ k : Nat, k ≤ A.size ∧ t = .int .i64 k ∧ (A.data.toList.take k).all okByte = true ∧ wr = w) (fun t _ => A.size - (intOf t).toNat)
  case atStart => exact ⟨0, by omega, rfl, rfl, rfl⟩
  case round =>
    obtain ⟨k, hk, rfl, hall, rfl⟩ := hrel
    have HALL := Lib.hid hall
    clear hall
    by_cases h1 : k < A.size
    · have HT := Lib.hid (ba_take A k h1)
      have HBAD := Lib.hid (ba_bad A k h1)
      have hok : Hid (okByte A[k] = !badRune A[k].toNat) := Lib.hid (by rw [badRune_byte, Bool.not_not])
      have hb := A[k].toNat_lt
      rcases (by omega : (A[k].toNat : Int) < 45 ∨ (A[k].toNat : Int) = 45 ∨ (A[k].toNat : Int) = 46 ∨ (A[k].toNat : Int) = 47 ∨ (48 ≤ (A[k].toNat : Int) ∧ (A[k].toNat : Int) ≤ 57) ∨ (58 ≤ (A[k].toNat : Int) ∧ (A[k].toNat : Int) < 97) ∨ (97 ≤ (A[k].toNat : Int) ∧ (A[k].toNat : Int) ≤ 122) ∨ 122 < (A[k].toNat : Int)) with h | h | h | h | h | h | h | h
      all_goals
        first
          | (have hg : okByte A[k] = true := by (rw [hok.out]; unfold badRune; generalize A[k].toNat = z at *; simp; omega)
             have HG := Lib.hid hg
             clear hg
             go_wp2
             all_goals first | (exfalso; omega) | skip
             refine ⟨⟨k + 1, by omega, by go_num, by rw [HT.out, List.all_append, HALL.out, List.all_cons, HG.out]; rfl, by trivial⟩, by simp [intOf]; omega⟩)
          | (have hg : okByte A[k] = false := by (rw [hok.out]; unfold badRune; generalize A[k].toNat = z at *; simp; omega)
             have HG := Lib.hid (HBAD.out hg)
             clear hg
             go_wp2
             all_goals first | (exfalso; omega) | (go_ret; exact ⟨ret_bool HG.out.symm, rfl⟩) | (exfalso; rename_i hh; revert hh; generalize (A[k].toNat : Int) = z at *; intro hh; simp at hh; omega))
    · have h1' : k = A.size := by omega
      have hlen : A.data.toList.length = A.size := by simp
      have hall' : A.data.toList.all okByte = true := by
        have := HALL.out
        rwa [List.take_of_length_le (by omega)] at this
      have HA' := Lib.hid hall'
      have HL := Lib.hid hlen
      clear hall' hlen
      by_cases h2 : A.size = 0
      · have h3 : Hid (nameB A.data.toList = false) := Lib.hid (by
          have : A.data.toList = [] := List.eq_nil_of_length_eq_zero (HL.out.trans h2)
          rw [this]; rfl)
        have g1 : decide (1 ≤ (A.size : Int)) = false := decide_eq_false (by omega)
        go_wp2
        go_ret
        exact ⟨ret_bool h3.out.symm, rfl⟩
      · by_cases h3 : A.size ≤ 32
        · have h4 : Hid (nameB A.data.toList = true) := Lib.hid (by
            unfold nameB
            rw [HA'.out, HL.out, decide_eq_true h3]
            rw [show A.data.toList.isEmpty = false from by rw [Bool.eq_false_iff]; intro e; exact h2 (by rw [← HL.out, List.isEmpty_iff.1 e]; rfl)]
            rfl)
          have g1 : decide (1 ≤ (A.size : Int)) = true := decide_eq_true (by omega)
          go_wp2
          go_ret
          exact ⟨ret_bool (by rw [h4.out, decide_eq_true (by omega)]), rfl⟩
        · have h4 : Hid (nameB A.data.toList = false) := Lib.hid (by
            unfold nameB
            rw [HL.out, decide_eq_false h3]
            simp)
          have g1 : decide (1 ≤ (A.size : Int)) = true := decide_eq_true (by omega)
          go_wp2
          go_ret
          exact ⟨ret_bool (by rw [h4.out, decide_eq_false (by omega)]), rfl⟩
theorem rname_any (s : Nm) (w : World) (hl : s.length ≤ 140737488355328) :
    Calls Try.prog 36 #[.string ⟨s.toArray⟩] w fun e w' => e = .returned (.bool (nameB s)) ∧ w = w' := by
  have h := rname_ba ⟨s.toArray⟩ w (by rw [ba_size]; exact hl)
  simpa using h
set_option maxRecDepth 100000 in
set_option maxHeartbeats 4000000 in
theorem find_any (S : Nat → Prop) (r : Nat) (v : Value) (fs : List Fl) (x : Nm) (w : World) (h0 : w.cell? ⟨r, 0, none⟩ = some v) (hv : FilesV w S v fs) :
    Calls Try.prog 37 #[.pointer (some ⟨r, 0, none⟩), .string ⟨x.toArray⟩] w fun e w' => e = .returned (.int .i64 (idxI x fs)) ∧ w = w' := by
  obtain ⟨A, c, rfl⟩ := hv.form
  obtain ⟨n, hn⟩ : ∃ n, fs.length = n := ⟨_, rfl⟩
  have hmax : n * 48 ≤ 140737488355328 := by obtain ⟨_, _, _, _, _, _, h3, _⟩ := hv; rw [← hn]; exact h3
  rw [hn] at hv h0
  have HN := Lib.hid hn
  have HV := Lib.hid hv
  clear hn hv
  go_enter Try.func37, Try.ntmps37
  go_wp2
  go_loopw [11] (fun t wr => ∃ k : Nat, k ≤ n ∧ t = .int .i64 k ∧ (∀ g ∈ fs.take k, g.name ≠ x) ∧ wr = w) (fun t _ => n - (intOf t).toNat)
  case atStart => exact ⟨0, Nat.zero_le _, rfl, by simp, rfl⟩
  case round =>
    obtain ⟨k, hk, rfl, hall, rfl⟩ := hrel
    have HALL := Lib.hid hall
    clear hall
    by_cases hkn : k < n
    · obtain ⟨f, hf⟩ : ∃ f, fs[k]? = some f := ⟨_, List.getElem?_eq_getElem (by rw [HN.out]; exact hkn)⟩
      obtain ⟨b, o, cs, rfl, _, _, ⟨vd, rfl, hvd, _⟩, hc⟩ := Rows.at_ flFine HV.out hf
      have c0 : wr.cell? ⟨b, o + k * 3, none⟩ = _ := hc 0 _ rfl
      have HF := Lib.hid hf
      clear hf hvd hc
      cases hb : f.name == x with
      | true =>
        have HB := Lib.hid hb
        go_wp2
        go_ret
        refine ⟨ret_int ?_, rfl⟩
        unfold idxI
        rw [idxP_at HF.out (by simpa using HB.out) HALL.out]
      | false =>
        have HB := Lib.hid hb
        go_wp2
        refine ⟨⟨k + 1, by omega, by go_num, fun g hg => ?_, by trivial⟩, by simp [intOf]; omega⟩
        rw [List.take_add_one, HF.out] at hg
        rcases List.mem_append.1 hg with hg | hg
        · exact HALL.out g hg
        · obtain rfl : g = f := by simpa using hg
          simpa using HB.out
    · obtain rfl : k = n := by omega
      go_wp2
      go_ret
      refine ⟨ret_int ?_, rfl⟩
      unfold idxI
      rw [idxP_none fun g hg => HALL.out g (by rw [List.take_of_length_le (by rw [HN.out]; exact Nat.le_refl _)]; exact hg)]
end Go.Proofs.Ytcmjoaepihbodaa
end
section
namespace Go.Proofs.Ytcmjoaepihbodaa
open Go.RowKit Go.BigFrame
attribute [local go_sem ↓] Go.wp_at_zero Go.wp_at_succ
theorem flR.below {w w' : World} {S : Nat → Prop} {f : Fl} {cs : List Value} (h : flR w S f cs) (hb : Below w.heap.size w w') : flR w' S f cs := flFine.keep h fun _ _ _ _ hr => hr.below hb
theorem flR.alloc {w : World} {S : Nat → Prop} {f : Fl} {cs : List Value} (h : flR w S f cs) (o : Obj) : flR (w.alloc o) S f cs := h.below ((Below.refl _ _).alloc (Nat.le_refl _) _)
theorem RowF.alloc {w : World} {base : Nat} {S : Nat → Prop} {v : Value} {fs : List Fl} (h : RowF w base S v fs) (o : Obj) : RowF (w.alloc o) base S v fs := h.below ((Below.refl _ _).alloc (Nat.le_refl _) _)
theorem push2_a {os : List Fl} {f : Fl} {i n : Nat} (h1 : os.length = i) (h2 : i < n) (h3 : (n + 1) * 48 ≤ 140737488355328) : ((os ++ [f]).length + 1) * 48 ≤ 140737488355328 := by
  rw [List.length_append, List.length_singleton, h1]
  exact Nat.le_trans (Nat.mul_le_mul_right 48 (by omega)) h3
theorem push1_b {os : List Fl} {g : Fl} {i : Nat} (h1 : os.length ≤ i + 1) : (os ++ [g]).length ≤ i + 1 + 1 := by rw [List.length_append, List.length_singleton]; omega
theorem push2_b {os : List Fl} {f g : Fl} {i : Nat} (h1 : os.length = i) : (os ++ [f] ++ [g]).length ≤ i + 1 + 1 := by rw [List.length_append, List.length_append, List.length_singleton, List.length_singleton, h1]; exact Nat.le_refl _
theorem le_alloc {b : Nat} {w : World} (h : b ≤ w.heap.size) (o : Obj) : b ≤ (w.alloc o).heap.size := by simp; omega
theorem wpList_push_fl {w : World} {ops : Array Oper} {rest : List Oper} {o : Oper} {a : Act} {Q : Exit → Act → World → Prop} (hgd : o.guard = none) (s x : Operand)
    (ho : o.op = .call { callee := .builtin .append, args := #[s, x], argTypes := #[22, 22] }) (base : Nat) (S : Nat → Prop) (v : Value) (os : List Fl) (hs : a.eval s = v) (hrow : RowF w base S v os)
    (g : Nat) (f : Fl) (A : Option Addr) (c : Nat) (hx : a.eval x = .slice (some ⟨g, 0, none⟩) 1 1) (hg : w.heap[g]? = some (.cells #[.string ⟨f.name.toArray⟩, .slice A f.data.length c, .int .i64 f.synced] 37 (0, 0)))
    (hf : flR w S f [.string ⟨f.name.toArray⟩, .slice A f.data.length c, .int .i64 f.synced]) (hS : ∀ i, S i → i < base) (hl : (os.length + 1) * 48 ≤ 140737488355328) (hbase : base ≤ w.heap.size)
    (hK : ∀ v' w', RowF w' base S v' (os ++ [f]) → w.grownBy w' v.ownBlock → wpList Try.prog ops Q rest (a.put o.dst v') w') : wpList Try.prog ops Q (o :: rest) a w := by
  obtain ⟨i0, hi, hz0, hz1, hz2⟩ := info_parts infoF
  obtain ⟨css, hown, hys⟩ := hrow
  refine wpList_append_own_at _ hgd s x 22 ho base 37 i0 _ 3 48 Try.underlying22 hi hz0 hz1 hz2 rfl (by decide) v _ _ hs hown ⟨g, 0, none⟩ 1 1 [.string ⟨f.name.toArray⟩, .slice A f.data.length c, .int .i64 f.synced] hx rfl
    (fun j u hu => by rw [Addr.add_lit, cell_of_row w g _ _ _ _ hg, Nat.zero_add]; simpa using hu) (by simp [Value.oneCell']) (by unfold maxLen; omega) hl hbase ?_
  intro v' w' h1 h2 _ _
  exact hK v' w' (RowF.push hown hys (Below.refl _ _) hf h2 hS h1) h2
theorem RowF.grow {w w' : World} {base : Nat} {S : Nat → Prop} {v : Value} {fs : List Fl} {W : World} (h : RowF w base S v fs) (hb : Below base W w) (hw : base ≤ w.heap.size) (hg : w.grownBy w' v.ownBlock) : Below base W w' :=
  hb.grown hg hw (fun _ e => (h.lt e).1)
theorem RowF.cell {w w2 : World} {base : Nat} {S : Nat → Prop} {v u : Value} {os : List Fl} {p : Addr} (h : RowF w base S v os) (hg : w.grownBy w2 v.ownBlock) (hp : p.block < base) (hc : w.cell? p = some u) : w2.cell? p = some u :=
  (World.cell?_of_block (hg.block p.block (World.block_lt_of_cell? w p hc) fun e => by have := (h.lt e.symm).1; omega)).trans hc
theorem flR.grow {w w2 : World} {base : Nat} {S E : Nat → Prop} {v : Value} {os : List Fl} {f : Fl} {cs : List Value} (hf : flR w E f cs) (hE : ∀ i, E i → i < base) (h : RowF w base S v os) (hg : w.grownBy w2 v.ownBlock) : flR w2 E f cs :=
  flFine.keep hf fun _ _ _ _ hr => hr.keep hg.size fun i hi hs => hg.block i hi fun e => by have := (h.lt e.symm).1; have := hE i hs; omega
set_option maxRecDepth 100000 in
set_option maxHeartbeats 4000000 in
theorem insert_any (S : Nat → Prop) (v : Value) (fs : List Fl) (f : Fl) (A : Option Addr) (c : Nat) (w : World) (hv : FilesV w S v fs) (hf : Byt w S (.slice A f.data.length c) f.data) (hfn : f.name.length ≤ 140737488355328) (hl : (fs.length + 1) * 48 ≤ 140737488355328) :
    Calls Try.prog 38 #[v, .agg #[.string ⟨f.name.toArray⟩, .slice A f.data.length c, .int .i64 f.synced]] w fun r w' => ∃ v', r = .returned v' ∧ RowF w' w.heap.size (fun i => S i ∧ i < w.heap.size) v' (insI f fs) ∧ Below w.heap.size w w' := by
  obtain ⟨Av, cv, rfl⟩ := hv.form
  obtain ⟨n, hn⟩ : ∃ n, fs.length = n := ⟨_, rfl⟩
  obtain ⟨E, hE⟩ : ∃ E : Nat → Prop, E = fun i => S i ∧ i < w.heap.size := ⟨_, rfl⟩
  have hvE : FilesV w E (.slice Av fs.length cv) fs := hv.keep flFine fun _ _ _ _ hr => hr.monoLt fun i hi hs => by rw [hE]; exact ⟨hs, hi⟩
  have hfE : flR w E f [.string ⟨f.name.toArray⟩, .slice A f.data.length c, .int .i64 f.synced] := ⟨_, rfl, hf.monoLt fun i hi hs => by rw [hE]; exact ⟨hs, hi⟩, hfn⟩
  have hEb : ∀ i, E i → i < w.heap.size + 1 := fun i hi => by rw [hE] at hi; have := hi.2; omega
  rw [hn] at hl hvE ⊢
  obtain ⟨W0, hW0⟩ : ∃ W0, W0 = w.alloc (.cells #[.string ⟨f.name.toArray⟩, .slice A f.data.length c, .int .i64 f.synced] 37) := ⟨_, rfl⟩
  have hb0 : Below w.heap.size w W0 := by rw [hW0]; exact (Below.refl _ _).alloc (Nat.le_refl _) _
  have hs0 : W0.heap.size = w.heap.size + 1 := by rw [hW0]; simp
  have hx0 : W0.heap[w.heap.size]? = some (.cells #[.string ⟨f.name.toArray⟩, .slice A f.data.length c, .int .i64 f.synced] 37 (0, 0)) := by rw [hW0]; exact heap_alloc_new w _
  have HN := Lib.hid hn
  have HE := Lib.hid hE
  have HEB := Lib.hid hEb
  have HV := Lib.hid (hvE.below flFine hb0)
  have HF := Lib.hid (hfE.below hb0)
  have HX := Lib.hid hx0
  have HB0 := Lib.hid hb0
  clear hn hE hv hf hvE hfE hx0 hb0 hEb
  go_enter Try.func38, Try.ntmps38
  go_wp2
  rw [← hW0]
  go_loopw [5, 6, 10] (fun v5 v6 t wr => ∃ (i : Nat) (b : Bool) (os : List Fl), i ≤ n ∧ t = .int .i64 i ∧ v6 = .bool b ∧ RowF wr (w.heap.size + 1) E v5 os ∧ Below (w.heap.size + 1) W0 wr ∧ os.length ≤ i + 1 ∧ ((b = false ∧ os = fs.take i ∧ insI f fs = os ++ insI f (fs.drop i)) ∨ (b = true ∧ insI f fs = os ++ fs.drop i))) (fun _ _ t _ => n - (intOf t).toNat)
  case atStart => exact ⟨0, false, [], Nat.zero_le _, rfl, rfl, RowF.nil _ _ _, Below.refl _ _, by simp, .inl ⟨rfl, rfl, rfl⟩⟩
  case round =>
    obtain ⟨i, b, os, hi, rfl, rfl, hrow, hbel, hol, hst⟩ := hrel
    have HR := Lib.hid hrow
    have HB := Lib.hid hbel
    have HST := Lib.hid hst
    have hx : wr.heap[w.heap.size]? = _ := (hbel.block _ (by omega)).trans HX.out
    have hwz := hbel.size
    have hz0 : w.heap.size + 1 ≤ wr.heap.size := by omega
    have hbw : Below W0.heap.size W0 wr := hbel.mono (by omega)
    have HBW := Lib.hid hbw
    have x0 : wr.cell? ⟨w.heap.size, 0, none⟩ = some (.string ⟨f.name.toArray⟩) := cell_of_row wr w.heap.size 0 _ _ _ hx
    have x1 : wr.cell? ⟨w.heap.size, 1, none⟩ = some (.slice A f.data.length c) := cell_of_row wr w.heap.size 1 _ _ _ hx
    have x2 : wr.cell? ⟨w.heap.size, 2, none⟩ = some (.int .i64 f.synced) := cell_of_row wr w.heap.size 2 _ _ _ hx
    have HXW := Lib.hid hx
    clear hrow hbel hst hx hbw
    by_cases hin : i < n
    · obtain ⟨g, hg⟩ : ∃ g, fs[i]? = some g := ⟨_, List.getElem?_eq_getElem (by rw [HN.out]; exact hin)⟩
      obtain ⟨b0, o0, cs, rfl, _, hEb0, ⟨vd, rfl, hvd, hgn⟩, hc⟩ := Rows.at_ flFine (HV.out.below flFine HBW.out) hg
      have hb0w := HEB.out _ hEb0
      obtain ⟨Ag, cg, rfl⟩ := slice_form hvd
      have c0 : wr.cell? ⟨b0, o0 + i * 3, none⟩ = _ := hc 0 _ rfl
      have c1 : wr.cell? ⟨b0, o0 + i * 3 + 1, none⟩ = _ := hc 1 _ rfl
      have c2 : wr.cell? ⟨b0, o0 + i * 3 + 2, none⟩ = _ := hc 2 _ rfl
      have HG := Lib.hid (show flR wr E g [.string ⟨g.name.toArray⟩, .slice Ag g.data.length cg, .int .i64 g.synced] from ⟨_, rfl, hvd, hgn⟩)
      have HD := Lib.hid (drop_cons hg)
      have HTK := Lib.hid (take_snoc hg)
      have X0 : ∀ q : Ext wr, q.w.cell? ⟨w.heap.size, 0, none⟩ = _ := fun q => q.h.cell x0
      have C0 : ∀ q : Ext wr, q.w.cell? ⟨b0, o0 + i * 3, none⟩ = _ := fun q => q.h.cell c0
      clear hg hvd hc
      have hbq : ∀ wq : World, fr wr wq → Below (w.heap.size + 1) W0 wq := fun wq hq => HB.out.trans (Below.mono hq (by have := HB.out.size; omega))
      have HBQ := Lib.hid hbq
      clear hbq
      cases b with
      | true =>
        go_upto_region 6 with (fail)
        (refine wp_region_quiet_ext (by kernel_rfl) (by kernel_rfl) ?_; (repeat (go_big_quiet_step (fail))); refine wpQuiet_nil ?_; intro wq hw'; obtain ⟨⟨_, hq⟩, hw''⟩ := hw'; subst hw'')
        have hz9 : w.heap.size + 1 ≤ wq.heap.size := by have := (HBQ.out _ hq).size; omega
        have c0q := fr.cell hq c0
        have c1q := fr.cell hq c1
        have c2q := fr.cell hq c2
        go_wp2_with (at_builtin; refine wpList_push_fl (by rfl) _ _ (by rfl) (w.heap.size + 1) E _ os (by rfl) ((HR.out.below hq).alloc _) wq.heap.size g Ag cg (by rfl) (heap_alloc_new wq _) ((HG.out.below hq).alloc _) HEB.out (by omega) (le_alloc hz9 _) ?_; intro v' w9 hrow9 hgrow9; have HR9 := Lib.hid hrow9; have HB9 := Lib.hid (RowF.grow ((HR.out.below hq).alloc _) ((HBQ.out _ hq).alloc hz9 _) (le_alloc hz9 _) hgrow9); clear hrow9 hgrow9)
        refine ⟨⟨i + 1, true, os ++ [g], by omega, by go_num, rfl, HR9.out, HB9.out, ?_, .inr ⟨rfl, ?_⟩⟩, by simp [intOf]; omega⟩
        · exact push1_b hol
        · rcases HST.out with ⟨h, _⟩ | ⟨_, h⟩
          · cases h
          · rw [h, HD.out]; simp
      | false =>
        have hst2 : os = fs.take i ∧ insI f fs = os ++ insI f (fs.drop i) := by
          rcases HST.out with ⟨_, h⟩ | ⟨h, _⟩
          · exact h
          · cases h
        have HST2 := Lib.hid hst2
        have hosl : os.length = i := by rw [hst2.1, List.length_take, HN.out]; omega
        clear hst2
        cases hlt : Op.bytesLess f.name g.name with
        | true =>
          have hlt' : f.name < g.name := by rw [bytesLess_eq] at hlt; simpa using hlt
          have HLT := Lib.hid hlt'
          clear hlt'
          go_upto_region 6 with (fail)
          (refine wp_region_quiet_ext (by kernel_rfl) (by kernel_rfl) ?_; (repeat (go_big_quiet_step (fail))); refine wpQuiet_nil ?_; intro wq hw'; obtain ⟨⟨_, hq⟩, hw''⟩ := hw'; subst hw'')
          have hz9 : w.heap.size + 1 ≤ wq.heap.size := by have := (HBQ.out _ hq).size; omega
          have c0q := fr.cell hq c0
          have c1q := fr.cell hq c1
          have c2q := fr.cell hq c2
          have x0q := fr.cell hq x0
          have x1q := fr.cell hq x1
          have x2q := fr.cell hq x2
          have hrq := HR.out.below hq
          have HRQ := Lib.hid hrq
          have hgq := HG.out.below hq
          have HGQ := Lib.hid hgq
          have HFQ := Lib.hid ((HF.out.below HBW.out).below hq)
          clear hrq hgq
          go_upto_region 8 with (at_builtin; refine wpList_push_fl (by rfl) _ _ (by rfl) (w.heap.size + 1) E _ os (by rfl) (HRQ.out.alloc _) wq.heap.size f A c (by rfl) (heap_alloc_new wq _) (HFQ.out.alloc _) HEB.out (by omega) (le_alloc hz9 _) ?_; intro v8 w8 hrow8 hgrow8; have HB8 := Lib.hid (RowF.grow (HRQ.out.alloc _) ((HBQ.out _ hq).alloc hz9 _) (le_alloc hz9 _) hgrow8))
          have c0r := RowF.cell (HRQ.out.alloc _) hgrow8 (by simp only; omega) (fr.cell (fr.refl.alloc _) c0q)
          have c1r := RowF.cell (HRQ.out.alloc _) hgrow8 (by simp only; omega) (fr.cell (fr.refl.alloc _) c1q)
          have c2r := RowF.cell (HRQ.out.alloc _) hgrow8 (by simp only; omega) (fr.cell (fr.refl.alloc _) c2q)
          have HG8 := Lib.hid (flR.grow (HGQ.out.alloc _) HEB.out (HRQ.out.alloc _) hgrow8)
          have HR8 := Lib.hid hrow8
          have hz8 : w.heap.size + 1 ≤ w8.heap.size := by have := HB8.out.size; omega
          clear hrow8 hgrow8 c0q c1q c2q x0q x1q x2q
          go_wp2_with (at_builtin; refine wpList_push_fl (by rfl) _ _ (by rfl) (w.heap.size + 1) E _ (os ++ [f]) (by rfl) (HR8.out.alloc _) w8.heap.size g Ag cg (by rfl) (heap_alloc_new w8 _) (HG8.out.alloc _) HEB.out (push2_a hosl hin hl) (le_alloc hz8 _) ?_; intro v' w9 hrow9 hgrow9; have HR9 := Lib.hid hrow9; have HB9 := Lib.hid (RowF.grow (HR8.out.alloc _) (HB8.out.alloc hz8 _) (le_alloc hz8 _) hgrow9); clear hrow9 hgrow9)
          refine ⟨⟨i + 1, true, os ++ [f] ++ [g], hin, by go_num, rfl, HR9.out, HB9.out, push2_b hosl, .inr ⟨rfl, ?_⟩⟩, by simp [intOf]; omega⟩
          rw [HST2.out.2, HD.out, insI, if_pos HLT.out]
          simp
        | false =>
          have hlt' : ¬ f.name < g.name := by rw [bytesLess_eq] at hlt; simpa using hlt
          have HLT := Lib.hid hlt'
          clear hlt'
          go_upto_region 6 with (fail)
          (refine wp_region_quiet_ext (by kernel_rfl) (by kernel_rfl) ?_; (repeat (go_big_quiet_step (fail))); refine wpQuiet_nil ?_; intro wq hw'; obtain ⟨⟨_, hq⟩, hw''⟩ := hw'; subst hw'')
          have hz9 : w.heap.size + 1 ≤ wq.heap.size := by have := (HBQ.out _ hq).size; omega
          have c0q := fr.cell hq c0
          have c1q := fr.cell hq c1
          have c2q := fr.cell hq c2
          go_wp2_with (at_builtin; refine wpList_push_fl (by rfl) _ _ (by rfl) (w.heap.size + 1) E _ os (by rfl) ((HR.out.below hq).alloc _) wq.heap.size g Ag cg (by rfl) (heap_alloc_new wq _) ((HG.out.below hq).alloc _) HEB.out (by omega) (le_alloc hz9 _) ?_; intro v' w9 hrow9 hgrow9; have HR9 := Lib.hid hrow9; have HB9 := Lib.hid (RowF.grow ((HR.out.below hq).alloc _) ((HBQ.out _ hq).alloc hz9 _) (le_alloc hz9 _) hgrow9); clear hrow9 hgrow9)
          refine ⟨⟨i + 1, false, os ++ [g], by omega, by go_num, rfl, HR9.out, HB9.out, push1_b hol, .inl ⟨rfl, by rw [HST2.out.1, HTK.out], ?_⟩⟩, by simp [intOf]; omega⟩
          rw [HST2.out.2, HD.out, insI, if_neg HLT.out]
          simp
    · obtain rfl : i = n := by omega
      have hd0 : fs.drop i = [] := List.drop_of_length_le (by rw [HN.out]; exact Nat.le_refl _)
      have HD0 := Lib.hid hd0
      clear hd0
      cases b with
      | true =>
        go_wp2
        refine bodyPost_ret (v := u5) (by simp [results, Try.results38, go_sem]) rfl ?_
        refine ⟨u5, rfl, ?_, HB0.out.trans (HB.out.mono (by omega))⟩
        rcases HST.out with ⟨h, _⟩ | ⟨_, h⟩
        · cases h
        · rw [h, HD0.out, List.append_nil, ← HE.out]
          exact HR.out.rebase fun g hg => by have := (HR.out.lt hg).1; omega
      | false =>
        have hst2 : os = fs.take i ∧ insI f fs = os ++ insI f (fs.drop i) := by
          rcases HST.out with ⟨_, h⟩ | ⟨h, _⟩
          · exact h
          · cases h
        have HST2 := Lib.hid hst2
        have hosl : os.length = i := by rw [hst2.1, List.length_take, HN.out]; omega
        clear hst2
        have HFW := Lib.hid (HF.out.below HBW.out)
        go_wp2_with (at_builtin; refine wpList_push_fl (by rfl) _ _ (by rfl) (w.heap.size + 1) E _ os (by rfl) (HR.out.alloc _) wr.heap.size f A c (by rfl) (heap_alloc_new wr _) (HFW.out.alloc _) HEB.out (by omega) (le_alloc hz0 _) ?_; intro v' w9 hrow9 hgrow9; have HR9 := Lib.hid hrow9; have HB9 := Lib.hid (RowF.grow (HR.out.alloc _) (HB.out.alloc hz0 _) (le_alloc hz0 _) hgrow9); clear hrow9 hgrow9)
        refine bodyPost_ret (v := v') (by simp [results, Try.results38, go_sem]) rfl ?_
        refine ⟨v', rfl, ?_, HB0.out.trans (HB9.out.mono (by omega))⟩
        rw [HST2.out.2, HD0.out, ← HE.out]
        exact HR9.out.rebase fun g hg => by have := (HR9.out.lt hg).1; omega
end Go.Proofs.Ytcmjoaepihbodaa
end
