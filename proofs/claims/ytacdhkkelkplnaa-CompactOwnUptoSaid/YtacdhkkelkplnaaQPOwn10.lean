/-
Pieces of one row of entries, in memory: their cells lie in blocks that hold no bytes, their bytes in blocks that may be written to.
-/
import Derived.Test.YtacdhkkelkplnaaQPOwn5
import Derived.Deep.Slices
import Derived.Lib.SmallJoins
import Derived.OpenShut
import Derived.SizedLaws
import Derived.Test.YtacdhkkelkplnaaRows
import Derived.Test.YtacdhkkelkplnaaQPOwn9
import Derived.Test.YtacdhkkelkplnaaQPOwn8
import Derived.Test.YtacdhkkelkplnaaQPOwn6
import Derived.Test.YtacdhkkelkplnaaQPOwn7
import Derived.Test.YtacdhkkelkplnaaQPOwn0
section
namespace Go.Proofs.Ytacdhkkelkplnaa
open Go.RowKit Go.ChangeShapes Go.WideShapes Go.Deep
theorem cells_u8 : Try.prog.cellsOf 5 = 1 := by kernel_rfl
theorem cells_bs : Try.prog.cellsOf 44 = 1 := by kernel_rfl
theorem cells_i : Try.prog.cellsOf 3 = 1 := by kernel_rfl
theorem cells_b : Try.prog.cellsOf 4 = 1 := by kernel_rfl
theorem cells_e : Try.prog.cellsOf 46 = 4 := by kernel_rfl
theorem cells_es : Try.prog.cellsOf 41 = 1 := by kernel_rfl
theorem bytes_u8 : Try.prog.bytesOf 5 = 1 := by kernel_rfl
theorem bytes_e : Try.prog.bytesOf 46 = 64 := by kernel_rfl
theorem bytes_es : Try.prog.bytesOf 41 = 24 := by kernel_rfl
theorem cell_spot {w : World} {a : Addr} {v : Value} (h : w.cell? a = some v) : a = ⟨a.block, a.off, none⟩ := by
  obtain ⟨b, o, s⟩ := a
  cases s with
  | none => rfl
  | some s =>
    unfold World.cell? at h
    split at h <;> simp at h
theorem add_block (a : Addr) (n : Nat) : (a.add n).block = a.block := by unfold Addr.add; split <;> rfl
theorem add_off (a : Addr) (n : Nat) : (a.add n).off = a.off + n := by
  unfold Addr.add
  split
  · rename_i h; rw [h]; rfl
  · rfl
theorem weightsAll_mem {H : Type} {P : Program} {e : TypeId} : ∀ {l : List (DataW H)} {d : DataW H}, d ∈ l → ∀ n ∈ d.weights P e, n ∈ DataW.weightsAll P e l
  | d' :: r, d, hd, n, hn => by
    simp only [DataW.weightsAll, List.mem_append]
    rcases List.mem_cons.1 hd with rfl | h
    · exact Or.inl hn
    · exact Or.inr (weightsAll_mem h n hn)
section
variable {H : Type} {enc : TypeId × Value → H} {w : World} {base : Nat} {held : Bool} {spare : Nat → Bool}
set_option maxRecDepth 10000 in
theorem open_byt {fuel : Nat} {v : Value} {x : DataW H × List MemPlace} (h : DataW.trod enc Try.prog w base spare held fuel 44 [v] = some x) (hw : ∀ n ∈ x.1.weights Try.prog 44, n ≤ reachBytes) :
    ∃ bs, Byt w (fun _ => True) v bs := by
  rcases open_ints Try.underlying44 Try.underlying5 cells_u8 h with ⟨hv, _⟩ | ⟨a, len, cap, zs, hv, _, hl, hm, hz, hx, hc, hwf⟩
  · obtain rfl : v = .slice none 0 0 := by simpa using hv
    exact ⟨[], Byt.nil _ _⟩
  · obtain rfl : v = .slice (some a) len cap := by simpa using hv
    have hlen : len ≤ zs.length := by rw [hz]; split <;> omega
    subst hx
    have hr := hw _ (by simp only [DataW.weights, Try.underlying44]; exact List.mem_cons_self)
    rw [bytes_u8] at hr
    simp only [lits, List.length_map, List.length_take, List.length_drop, reachBytes] at hr
    have e1 : ((zs.take len).map fun z => UInt8.ofNat z.toNat).length = len := by simp; omega
    unfold maxLen at hm
    refine ⟨(zs.take len).map fun z => UInt8.ofNat z.toNat, some a, cap, by rw [e1], by omega, by omega, by omega, ?_⟩
    rw [e1]
    refine ⟨by simp; omega, fun h0 => ?_⟩
    have hs := hc 0 (by omega)
    have hsp : a = ⟨a.block, a.off, none⟩ := cell_spot (a := a) (by simpa [Addr.add] using hs)
    refine ⟨a.block, a.off, by rw [← hsp], trivial, ?_, fun j u hu => ?_⟩
    · have := World.block_lt_of_cell? w _ hs
      simpa [Addr.add] using this
    · rw [List.getElem?_map, List.getElem?_map, List.getElem?_take] at hu
      split at hu
      · rename_i hj
        have hcj := hc j (by omega)
        rw [hsp, Addr.add_lit] at hcj
        rw [hcj]
        obtain ⟨z, hzj⟩ : ∃ z, zs[j]? = some z := ⟨_, List.getElem?_eq_getElem (by omega)⟩
        have hb := bounds_u8 (hwf z (List.mem_of_getElem? hzj))
        rw [hzj] at hu
        simp only [Option.map_some, Option.some.injEq] at hu
        rw [← hu, List.getD_eq_getElem?_getD, hzj]
        unfold bcell
        simp
        omega
      · simp at hu
set_option maxRecDepth 10000 in
theorem open_ent {fuel : Nat} {cs : List Value} {x : DataW H × List MemPlace} (h : DataW.trod enc Try.prog w base spare held fuel 46 cs = some x) (hw : ∀ n ∈ x.1.weights Try.prog 46, n ≤ reachBytes) :
    ∃ e : Ent, EntCells w (fun _ => True) cs [e] := by
  obtain ⟨y0, y1, y2, y3, n, rfl, hl, h0, h1, h2, h3⟩ := Joins.trod_struct4 Try.underlying46 h
  rw [cells_e] at hl
  match cs, hl with
  | [c0, c1, c2, c3], _ =>
    simp only [cells_bs, cells_i, cells_b, List.drop_zero, List.drop_succ_cons, List.take_succ_cons, List.take_zero] at h0 h1 h2 h3
    simp only [DataW.weights, Try.underlying46, List.map_cons, List.map_nil, DataW.weightsEach, List.append_nil, List.mem_append] at hw
    obtain ⟨k, hk⟩ := open_byt h0 (fun n hn => hw n (.inl hn))
    obtain ⟨u, hu⟩ := open_byt h3 (fun n hn => hw n (.inr (.inr (.inr hn))))
    obtain ⟨s, hs, _, _⟩ := DataW.trod_int Try.underlying3 h1
    obtain ⟨d, hd, _⟩ := DataW.trod_bool Try.underlying4 h2
    exact ⟨⟨k, s, d, u⟩, by simpa using hs, by simpa using hd, hk, hu, trivial⟩
def entsLen : DataW H → Nat
  | .slice elems _ => elems.length
  | _ => 0
def listsLen : DataW H → Nat
  | .slice elems _ => (elems.map entsLen).sum
  | _ => 0
set_option maxRecDepth 10000 in
theorem open_entries {fuel : Nat} {v : Value} {x : DataW H × List MemPlace} (h : DataW.trod enc Try.prog w base spare held fuel 41 [v] = some x) (hw : ∀ n ∈ x.1.weights Try.prog 41, n ≤ reachBytes) :
    ∃ es, Ents w (fun _ => True) v es ∧ es.length = entsLen x.1 := by
  rcases open_slice Try.underlying41 h with ⟨hv, hx⟩ | ⟨a, len, cap, m, n, D, Pl, hv, _, hl, hm, hmm, hx, hc⟩
  · obtain rfl : v = .slice none 0 0 := by simpa using hv
    exact ⟨[], Ents.nil _ _, by rw [hx]; rfl⟩
  · obtain rfl : v = .slice (some a) len cap := by simpa using hv
    have hlm : len ≤ m := by rw [hmm]; split <;> omega
    subst hx
    simp only [DataW.weights, Try.underlying41, List.mem_cons, List.mem_append] at hw
    have hr := hw _ (.inl rfl)
    rw [bytes_e] at hr
    simp only [List.length_map, List.length_range, reachBytes] at hr
    unfold maxLen at hm
    rw [cells_e] at hc
    have key : ∀ k, k ≤ len → ∃ (cs : List Value) (es : List Ent), es.length = k ∧ EntCells w (fun _ => True) cs es ∧ ∀ j u, cs[j]? = some u → w.cell? (a.add j) = some u := by
      intro k
      induction k with
      | zero => exact fun _ => ⟨[], [], rfl, trivial, fun j u hu => by simp at hu⟩
      | succ k ih =>
        intro hk
        obtain ⟨cs, es, hel, hce, hcc⟩ := ih (by omega)
        obtain ⟨cs', h1, h2⟩ := hc k (by omega)
        obtain ⟨e, he⟩ := open_ent h2 (fun n hn => hw n (.inr (.inl (weightsAll_mem (List.mem_map.2 ⟨k, List.mem_range.2 (by omega), rfl⟩) n hn))))
        obtain ⟨_, hl4, h4⟩ := World.cells?_some h1
        have hcl := hce.len
        refine ⟨cs ++ cs', es ++ [e], by simp [hel], hce.append he, fun j u hu => ?_⟩
        rw [List.getElem?_append] at hu
        split at hu
        · exact hcc j u hu
        · have hj : j - cs.length < 4 := by rw [← hl4]; exact (List.getElem?_eq_some_iff.1 hu).1
          have h5 := h4 _ hj
          rw [hu] at h5
          have h6 := h4 0 (by omega)
          have hsp : a.add (k * 4) = ⟨a.block, a.off + k * 4, none⟩ := by
            have h7 := cell_spot (w := w) (a := (a.add (k * 4))) (v := cs'[0]) (by
              rw [show (a.add (k * 4)).add 0 = a.add (k * 4) by simp [Addr.add]] at h6
              rw [h6, List.getElem?_eq_getElem (by omega)])
            rw [h7, add_block, add_off]
          rw [hsp, Addr.add_lit] at h5
          unfold Addr.add
          by_cases hj0 : j = 0
          · rw [if_pos hj0]
            subst hj0
            have hk0 : k = 0 := by omega
            subst hk0
            have : a = ⟨a.block, a.off, none⟩ := by simpa [Addr.add] using hsp
            rw [this]
            simpa using h5
          · rw [if_neg hj0, ← h5]
            congr 2
            omega
    obtain ⟨cs, es, hel, hce, hcc⟩ := key len (Nat.le_refl _)
    have hcl := hce.len
    refine ⟨es, ⟨some a, cap, cs, by rw [hel], by omega, by omega, by omega, ?_, hce⟩, by simp [entsLen, hel]⟩
    rw [hel]
    refine ⟨by omega, fun h0 => ?_⟩
    obtain ⟨u0, hu0⟩ : ∃ u, cs[0]? = some u := ⟨_, List.getElem?_eq_getElem (by omega)⟩
    have hs := hcc 0 u0 hu0
    have hsp : a = ⟨a.block, a.off, none⟩ := cell_spot (a := a) (by simpa [Addr.add] using hs)
    refine ⟨a.block, a.off, by rw [← hsp], trivial, ?_, fun j u hu => ?_⟩
    · have := World.block_lt_of_cell? w _ hs
      simpa [Addr.add] using this
    · have := hcc j u hu
      rwa [hsp, Addr.add_lit] at this
set_option maxRecDepth 10000 in
theorem open_lists {fuel : Nat} {v : Value} {x : DataW H × List MemPlace} (h : DataW.trod enc Try.prog w base spare held fuel 30 [v] = some x) (hw : ∀ n ∈ x.1.weights Try.prog 30, n ≤ reachBytes) :
    ∃ ls, Lists w (fun _ => True) v ls ∧ total ls = listsLen x.1 := by
  rcases open_slice1 Try.underlying30 cells_es h with ⟨hv, hx⟩ | ⟨a, len, cap, m, n, V, D, Pl, hv, _, hl, hm, hmm, hx, hc⟩
  · obtain rfl : v = .slice none 0 0 := by simpa using hv
    exact ⟨[], ⟨none, 0, [], rfl, by simp, by simp, by simp, Row.nil _ _ _ _, fun i l hl => by simp at hl⟩, by rw [hx]; rfl⟩
  · obtain rfl : v = .slice (some a) len cap := by simpa using hv
    have hlm : len ≤ m := by rw [hmm]; split <;> omega
    subst hx
    simp only [DataW.weights, Try.underlying30, List.mem_cons, List.mem_append] at hw
    have hr := hw _ (.inl rfl)
    rw [bytes_es] at hr
    simp only [List.length_map, List.length_range, reachBytes] at hr
    unfold maxLen at hm
    obtain ⟨L, hL⟩ := choose_lt (α := List Ent) (p := fun i l => Ents w (fun _ => True) (V i) l ∧ l.length = entsLen (D i)) (n := len) (fun i hi =>
      open_entries (hc i (by omega)).2 (fun n hn => hw n (.inr (.inl (weightsAll_mem (List.mem_map.2 ⟨i, List.mem_range.2 hi, rfl⟩) n hn)))))
    have e1 : ((List.range len).map L).length = len := by simp
    refine ⟨(List.range len).map L, ⟨some a, cap, (List.range len).map V, by rw [e1], by omega, by omega, by omega, ?_, fun i l hl => ?_⟩, ?_⟩
    · rw [e1]
      refine ⟨by simp, fun h0 => ?_⟩
      have hs := (hc 0 (by omega)).1
      have hsp : a = ⟨a.block, a.off, none⟩ := cell_spot (a := a) (by simpa [Addr.add] using hs)
      refine ⟨a.block, a.off, by rw [← hsp], trivial, ?_, fun j u hu => ?_⟩
      · have := World.block_lt_of_cell? w _ hs
        simpa [Addr.add] using this
      · have hj : j < len := by have := (List.getElem?_eq_some_iff.1 hu).1; simpa using this
        have := (hc j (by omega)).1
        rw [hsp, Addr.add_lit] at this
        rw [this, ← hu]
        simp [hj]
    · have hi : i < len := by have := (List.getElem?_eq_some_iff.1 hl).1; simpa using this
      refine ⟨V i, by simp [hi], ?_⟩
      have : l = L i := by simp [hi] at hl; exact hl.symm
      rw [this]
      exact (hL i hi).1
    · unfold total listsLen
      rw [List.length_flatten, List.map_map]
      show ((List.range len).map (List.length ∘ L)).sum = (((List.range len).map D).map entsLen).sum
      rw [List.map_map]
      refine congrArg List.sum (List.map_congr_left fun i hi => ?_)
      exact (hL i (List.mem_range.1 hi)).2
set_option maxRecDepth 10000 in
/-- an argument that is a slice: its reading at its own value. -/
theorem arg_slice {r : Reach} {b0 : Nat} {t e : TypeId} {v : Value} {d : DataW H} {ps : List MemPlace} (ht : Try.prog.underlying t = some (.slice e)) (hval : Value.okWide Try.prog w r b0 t v) (hd : DataW.Trod enc Try.prog w base spare held t v d ps) :
    ∃ fuel, DataW.trod enc Try.prog w base spare held fuel t [v] = some (d, ps) := by
  obtain ⟨a, l, c, rfl⟩ := okWide_slice ht hval
  obtain ⟨n, hn⟩ := hd
  exact ⟨n, hn⟩
set_option maxRecDepth 10000 in
theorem arg_entries {r : Reach} {b0 : Nat} {v : Value} {d : DataW H} {ps : List MemPlace} (hval : Value.okWide Try.prog w r b0 41 v) (hd : DataW.Trod enc Try.prog w base spare held 41 v d ps) (hw : ∀ n ∈ d.weights Try.prog 41, n ≤ reachBytes) :
    ∃ es, Ents w (fun _ => True) v es := by
  obtain ⟨n, hn⟩ := arg_slice Try.underlying41 hval hd
  obtain ⟨es, he, _⟩ := open_entries hn hw
  exact ⟨es, he⟩
set_option maxRecDepth 10000 in
theorem arg_lists {r : Reach} {b0 : Nat} {v : Value} {d : DataW H} {ps : List MemPlace} (hval : Value.okWide Try.prog w r b0 30 v) (hd : DataW.Trod enc Try.prog w base spare held 30 v d ps) (hw : ∀ n ∈ d.weights Try.prog 30, n ≤ reachBytes) :
    ∃ ls, Lists w (fun _ => True) v ls ∧ total ls = listsLen d := by
  obtain ⟨n, hn⟩ := arg_slice Try.underlying30 hval hd
  exact open_lists hn hw
set_option maxRecDepth 10000 in
theorem arg_bytes {r : Reach} {b0 : Nat} {v : Value} {d : DataW H} {ps : List MemPlace} (hval : Value.okWide Try.prog w r b0 44 v) (hd : DataW.Trod enc Try.prog w base spare held 44 v d ps) (hw : ∀ n ∈ d.weights Try.prog 44, n ≤ reachBytes) :
    ∃ bs, Byt w (fun _ => True) v bs := by
  obtain ⟨n, hn⟩ := arg_slice Try.underlying44 hval hd
  exact open_byt hn hw
end
end Go.Proofs.Ytacdhkkelkplnaa
end
section
namespace Go.Proofs.Ytacdhkkelkplnaa
open Go.RowKit Go.ChangeShapes Go.WideShapes Go.Deep
section
variable {H : Type} {enc : TypeId × Value → H} {w : World} {base : Nat} {held : Bool} {spare : Nat → Bool}
theorem bulk_one (d : DataW H) : 1 ≤ Rows.uptoBulk d := by
  cases d with
  | lit l => cases l <;> simp [Rows.uptoBulk]
  | nil => simp [Rows.uptoBulk]
  | ptr d => simp [Rows.uptoBulk]
  | slice elems spare => simp [Rows.uptoBulk]
  | agg parts => simp [Rows.uptoBulk]
  | iface t d => simp [Rows.uptoBulk]
  | map entries => simp [Rows.uptoBulk]
  | held h => simp [Rows.uptoBulk]
theorem bulk_len (l : List (DataW H)) : l.length ≤ Rows.uptoBulkAll l := by
  induction l with
  | nil => simp [Rows.uptoBulkAll]
  | cons x r ih => have := bulk_one x; simp only [Rows.uptoBulkAll, List.length_cons]; omega
theorem bulk_part {d : DataW H} {l : List (DataW H)} (h : d ∈ l) : Rows.uptoBulk d ≤ Rows.uptoBulkAll l := by
  induction l with
  | nil => cases h
  | cons x r ih =>
    simp only [Rows.uptoBulkAll]
    rcases List.mem_cons.1 h with e | e
    · subst e; omega
    · have := ih e; omega
theorem bulk_ents (d : DataW H) : entsLen d ≤ Rows.uptoBulk d := by
  cases d with
  | slice elems spare => have := bulk_len elems; simp only [entsLen, Rows.uptoBulk]; omega
  | _ => simp [entsLen]
theorem bulk_lists (d : DataW H) : listsLen d ≤ Rows.uptoBulk d := by
  cases d with
  | slice elems spare =>
    have h : (elems.map entsLen).sum ≤ Rows.uptoBulkAll elems := by
      induction elems with
      | nil => simp [Rows.uptoBulkAll]
      | cons x r ih => have := bulk_ents x; simp only [Rows.uptoBulkAll, List.map_cons, List.sum_cons]; omega
    simp only [listsLen, Rows.uptoBulk]; omega
  | _ => simp [listsLen]
set_option maxRecDepth 10000 in
theorem arg_lists_upto {r : Reach} {b0 : Nat} {v : Value} {d : DataW H} {ps : List MemPlace} (hval : Value.okWide Try.prog w r b0 30 v) (hd : DataW.Trod enc Try.prog w base spare held 30 v d ps) (hw : ∀ n ∈ d.weights Try.prog 30, n ≤ reachBytes)
    (hk : Rows.uptoBulk d ≤ 1048576) : ∃ ls, Lists w (fun _ => True) v ls ∧ total ls ≤ 1048576 := by
  obtain ⟨ls, h1, h2⟩ := arg_lists hval hd hw
  exact ⟨ls, h1, by have := bulk_lists d; omega⟩
set_option maxRecDepth 10000 in
theorem arg_entries_upto {r : Reach} {b0 : Nat} {v : Value} {d : DataW H} {ps : List MemPlace} (hval : Value.okWide Try.prog w r b0 41 v) (hd : DataW.Trod enc Try.prog w base spare held 41 v d ps) (hw : ∀ n ∈ d.weights Try.prog 41, n ≤ reachBytes)
    (hk : Rows.uptoBulk d ≤ 1048576) : ∃ es, Ents w (fun _ => True) v es ∧ es.length ≤ 1048576 := by
  obtain ⟨n, hn⟩ := arg_slice Try.underlying41 hval hd
  obtain ⟨es, h1, h2⟩ := open_entries hn hw
  have := bulk_ents d
  simp only at h2
  exact ⟨es, h1, by omega⟩
end
end Go.Proofs.Ytacdhkkelkplnaa
end
section
namespace Go.Proofs.Ytacdhkkelkplnaa
open Go.RowKit Go.BigFrame
attribute [local go_sem ↓] Go.wp_at_zero Go.wp_at_succ
theorem Lists.mono {w : World} {S S' : Nat → Prop} {v : Value} {ls : List (List Ent)} (h : Lists w S v ls) (hS : ∀ i, i < w.heap.size → S i → S' i) : Lists w S' v ls := by
  obtain ⟨A, c, vs, e, h1, h2, h3, h4, h5⟩ := h
  refine ⟨A, c, vs, e, h1, h2, h3, ⟨h4.1, fun hn => ?_⟩, fun i l hl => ?_⟩
  · obtain ⟨b, o, e, hb, hlt, hc⟩ := h4.2 hn
    exact ⟨b, o, e, hS b hlt hb, hlt, hc⟩
  · obtain ⟨x, hx, hy⟩ := h5 i l hl
    exact ⟨x, hx, hy.monoLt hS⟩
theorem Lists.lt {w : World} {S : Nat → Prop} {v : Value} {ls : List (List Ent)} (h : Lists w S v ls) : Lists w (fun i => i < w.heap.size) v ls := h.mono fun _ hi _ => hi
end Go.Proofs.Ytacdhkkelkplnaa
end
section
namespace Go.Proofs.Ytacdhkkelkplnaa
/-- lists that can be merged. -/
def CanMerge (ls : List (List Ent)) : Prop := ls.all orderedE = true ∧ NoTwice ls.flatten
theorem mergeC_ok {ls : List (List Ent)} (h : CanMerge ls) : ∃ r, mergeC ls = (r, 0) ∧ r.Perm ls.flatten ∧ r.Pairwise before := by
  rcases mergeC_spec ls h.1 with h1 | ⟨_, h2⟩
  · exact h1
  · exact absurd h.2 h2
theorem mergeC_cases (ls : List (List Ent)) : (CanMerge ls ∧ ∃ r, mergeC ls = (r, 0) ∧ r.Perm ls.flatten ∧ r.Pairwise before) ∨ ∃ n : Int, n ≠ 0 ∧ mergeC ls = ([], n) := by
  rcases ho : ls.all orderedE with _ | _
  · refine .inr ⟨30, by omega, ?_⟩
    unfold mergeC; rw [ho]; rfl
  · rcases mergeC_spec ls ho with ⟨r, e, hr1, hr2⟩ | ⟨e, hnt⟩
    · exact .inl ⟨⟨ho, (noTwice_perm hr1).1 (before_noTwice hr2)⟩, r, e, hr1, hr2⟩
    · exact .inr ⟨31, by omega, e⟩
theorem canMerge_perm {a b : List (List Ent)} (h : a.Perm b) (ha : CanMerge a) : CanMerge b := by
  refine ⟨?_, (noTwice_perm h.flatten).1 ha.2⟩
  rw [List.all_eq_true] at *
  exact fun x hx => List.all_eq_true.1 ha.1 x (h.symm.subset hx)
theorem sub_flatten {a b : List (List Ent)} (h : a.Sublist b) : a.flatten.Sublist b.flatten := by
  induction h with
  | slnil => exact List.Sublist.refl _
  | cons l _ ih => rw [List.flatten_cons]; exact ih.trans (List.sublist_append_right _ _)
  | cons_cons l _ ih => rw [List.flatten_cons, List.flatten_cons]; exact List.Sublist.append (List.Sublist.refl _) ih
theorem canMerge_sub {a b : List (List Ent)} (h : a.Sublist b) (hb : CanMerge b) : CanMerge a := by
  refine ⟨?_, hb.2.sublist (sub_flatten h)⟩
  rw [List.all_eq_true]
  exact fun x hx => List.all_eq_true.1 hb.1 x (h.subset hx)
theorem merge_same {a b : List (List Ent)} {r : List Ent} (h : a.flatten.Perm b.flatten) (hb : CanMerge b) (ha : mergeC a = (r, 0)) (hca : CanMerge a) : mergeC b = (r, 0) := by
  obtain ⟨r1, e1, p1, q1⟩ := mergeC_ok hca
  obtain ⟨r2, e2, p2, q2⟩ := mergeC_ok hb
  have : r1 = r2 := before_eq (p1.trans (h.trans p2.symm)) q1 q2
  rw [e1] at ha
  injection ha with ha _
  rw [e2, ← this, ha]
theorem merged_ordered {ls : List (List Ent)} {r : List Ent} (h : CanMerge ls) (hp : r.Perm ls.flatten) (hr : r.Pairwise before) : orderedE r = true := by
  rw [ordered_iff]
  refine ⟨fun e he => ?_, hr⟩
  obtain ⟨l, hl, hel⟩ := List.mem_flatten.1 (hp.subset he)
  exact ((ordered_iff l).1 (List.all_eq_true.1 h.1 l hl)).1 e hel
/-- all the answers that MergeParts asks for. -/
theorem parts_law {ls : List (List Ent)} {x : List Ent} (k : Nat) (h : mergeC ls = (x, 0)) : mergeC ls.reverse = (x, 0) ∧ ∃ a b, mergeC (ls.take k) = (a, 0) ∧ mergeC (ls.drop k) = (b, 0) ∧ mergeC [a, b] = (x, 0) ∧ a.length + b.length = total ls := by
  rcases mergeC_cases ls with ⟨hc, _⟩ | ⟨n, hn, e⟩
  · have hrev : CanMerge ls.reverse := canMerge_perm (List.reverse_perm ls).symm hc
    refine ⟨merge_same (List.reverse_perm ls).symm.flatten hrev h hc, ?_⟩
    have ht := canMerge_sub (List.take_sublist k ls) hc
    have hd := canMerge_sub (List.drop_sublist k ls) hc
    obtain ⟨a, ea, pa, qa⟩ := mergeC_ok ht
    obtain ⟨b, eb, pb, qb⟩ := mergeC_ok hd
    have hperm : ([a, b] : List (List Ent)).flatten.Perm ls.flatten := by
      have : ls.flatten = (ls.take k).flatten ++ (ls.drop k).flatten := by rw [← List.flatten_append, List.take_append_drop]
      rw [this]
      simpa using pa.append pb
    refine ⟨a, b, ea, eb, merge_same hperm.symm ⟨?_, (noTwice_perm hperm).2 hc.2⟩ h hc, ?_⟩
    · simp [merged_ordered ht pa qa, merged_ordered hd pb qb]
    · have := hperm.length_eq
      simpa [total] using this
  · rw [e] at h
    injection h with _ h
    exact absurd h hn
end Go.Proofs.Ytacdhkkelkplnaa
end
section
namespace Go.Proofs.Ytacdhkkelkplnaa
open Go.RowKit
theorem Spoil.cells {T : Nat → Prop} {w w' : World} (h : Spoil T w w') {cs : List Value} {es : List Ent} (hc : EntCells w T cs es) : ∃ es' : List Ent, es'.length = es.length ∧ EntCells w' T cs es' := by
  induction es generalizing cs with
  | nil => rw [hc.nil_inv]; exact ⟨[], rfl, trivial⟩
  | cons e es ih =>
    obtain ⟨k, u, cs1, rfl, h1, h2, h3⟩ := hc.cons_inv
    obtain ⟨es', hl, hc'⟩ := ih h3
    obtain ⟨b1, _, q1⟩ := h.byt k _ h1
    obtain ⟨b2, _, q2⟩ := h.byt u _ h2
    exact ⟨⟨b1, e.seq, e.dead, b2⟩ :: es', by simp [hl], rfl, rfl, q1, q2, hc'⟩
theorem Spoil.pairs {T : Nat → Prop} {w w' : World} (h : Spoil T w w') {cs : List Value} {es : List Pr} (hc : PrCells w T cs es) : ∃ es' : List Pr, es'.length = es.length ∧ PrCells w' T cs es' := by
  induction es generalizing cs with
  | nil => cases cs with
    | nil => exact ⟨[], rfl, trivial⟩
    | cons x l => simp [PrCells] at hc
  | cons e es ih =>
    match cs, hc with
    | k :: u :: cs1, hc =>
      obtain ⟨h1, h2, h3⟩ := hc
      obtain ⟨es', hl, hc'⟩ := ih h3
      obtain ⟨b1, _, q1⟩ := h.byt k _ h1
      obtain ⟨b2, _, q2⟩ := h.byt u _ h2
      exact ⟨⟨b1, b2⟩ :: es', by simp [hl], q1, q2, hc'⟩
theorem OwnE.ents {w : World} {B : Nat} {v : Value} {es : List Ent} (h : OwnE w B v es) (hl : es.length * 64 ≤ 140737488355328) : Ents w (fun i => B ≤ i ∧ i < w.heap.size) v es := by
  obtain ⟨ys, hrow, hf⟩ := h
  exact Ents.of_own hrow (EntCells.mono (S := freshL w B v) hf fun i hi => ⟨hi.1, hi.2.2.lt⟩) (fun i hi hz => ⟨hi, hz⟩) hl
theorem spoil_round {T : Nat → Prop} {w wr : World} {B n k : Nat} {v : Value} {ys : List Value} {es : List Ent} (hrow : w.ownsRow B 46 4 v n ys) (hc : EntCells w T ys es) (hn : es.length = n) (hT : ∀ g, v.ownBlock = some g → ¬ T g) (hs : Spoil T w wr) (hk : k < n) :
    ∃ g c A1 n1 c1 A2 n2 c2 b1 b2, v = .slice (some ⟨g, 0, none⟩) n c ∧ wr.cell? ⟨g, k * 4, none⟩ = some (.slice A1 n1 c1) ∧ wr.cell? ⟨g, k * 4 + 3, none⟩ = some (.slice A2 n2 c2) ∧ Byt wr T (.slice A1 n1 c1) b1 ∧ Byt wr T (.slice A2 n2 c2) b2 := by
  obtain ⟨es', hl, hc'⟩ := hs.cells hc
  have hrow' := own_only hrow hs.only hT
  obtain ⟨g, c, rfl, _⟩ := own_pos hrow' (by omega)
  obtain ⟨e, he⟩ : ∃ e, es'[k]? = some e := ⟨_, List.getElem?_eq_getElem (by omega)⟩
  obtain ⟨kk, uu, a1, _, _, a4, q1, q2⟩ := hc'.at_ he
  obtain ⟨A1, c1, rfl⟩ := slice_form q1
  obtain ⟨A2, c2, rfl⟩ := slice_form q2
  refine ⟨g, c, A1, _, c1, A2, _, c2, _, _, rfl, ?_, ?_, q1, q2⟩
  · rw [hrow'.cellAt _ (by omega), ← a1]; congr 1; omega
  · rw [hrow'.cellAt _ (by omega), ← a4]; congr 1; omega
theorem PrCells.at' {w : World} {S : Nat → Prop} {cs : List Value} {es : List Pr} (h : PrCells w S cs es) {i : Nat} {e : Pr} (hi : es[i]? = some e) :
    ∃ k u, cs[2 * i]? = some k ∧ cs[2 * i + 1]? = some u ∧ Byt w S k e.key ∧ Byt w S u e.val := by
  induction es generalizing cs i with
  | nil => simp at hi
  | cons e' es ih =>
    match cs, h with
    | k :: u :: cs1, h =>
      obtain ⟨h1, h2, h3⟩ := h
      cases i with
      | zero =>
        simp at hi
        subst hi
        exact ⟨k, u, rfl, rfl, h1, h2⟩
      | succ i =>
        obtain ⟨k', u', a1, a2, a3, a4⟩ := ih h3 (i := i) (by simpa using hi)
        refine ⟨k', u', ?_, ?_, a3, a4⟩
        · rw [show 2 * (i + 1) = 2 * i + 2 from by omega]; simpa using a1
        · rw [show 2 * (i + 1) + 1 = (2 * i + 1) + 2 from by omega]; simpa using a2
theorem spoil_roundP {T : Nat → Prop} {w wr : World} {B n k : Nat} {v : Value} {ys : List Value} {es : List Pr} (hrow : w.ownsRow B 75 2 v n ys) (hc : PrCells w T ys es) (hn : es.length = n) (hT : ∀ g, v.ownBlock = some g → ¬ T g) (hs : Spoil T w wr) (hk : k < n) :
    ∃ g c A1 n1 c1 A2 n2 c2 b1 b2, v = .slice (some ⟨g, 0, none⟩) n c ∧ wr.cell? ⟨g, k * 2, none⟩ = some (.slice A1 n1 c1) ∧ wr.cell? ⟨g, k * 2 + 1, none⟩ = some (.slice A2 n2 c2) ∧ Byt wr T (.slice A1 n1 c1) b1 ∧ Byt wr T (.slice A2 n2 c2) b2 := by
  obtain ⟨es', hl, hc'⟩ := hs.pairs hc
  have hrow' := own_only hrow hs.only hT
  obtain ⟨g, c, rfl, _⟩ := own_pos hrow' (by omega)
  obtain ⟨e, he⟩ : ∃ e, es'[k]? = some e := ⟨_, List.getElem?_eq_getElem (by omega)⟩
  obtain ⟨kk, uu, a1, a4, q1, q2⟩ := PrCells.at' hc' he
  obtain ⟨A1, c1, rfl⟩ := slice_form q1
  obtain ⟨A2, c2, rfl⟩ := slice_form q2
  refine ⟨g, c, A1, _, c1, A2, _, c2, _, _, rfl, ?_, ?_, q1, q2⟩
  · rw [hrow'.cellAt _ (by omega), ← a1]; congr 1; omega
  · rw [hrow'.cellAt _ (by omega), ← a4]; congr 1; omega
theorem Lists.only {w w' : World} {T S : Nat → Prop} {v : Value} {ls : List (List Ent)} (h : Lists w T v ls) (ho : Only S w w') (hd : ∀ i, i < w.heap.size → T i → ¬ S i) : Lists w' T v ls := by
  obtain ⟨A, c, vs, e, h1, h2, h3, h4, h5⟩ := h
  exact ⟨A, c, vs, e, h1, h2, h3, h4.only ho hd, fun i l hl => by obtain ⟨x, hx, hy⟩ := h5 i l hl; exact ⟨x, hx, hy.only ho hd⟩⟩
theorem merged_len (ls : List (List Ent)) : (mergeC ls).1.length ≤ total ls := by
  rcases mergeC_cases ls with ⟨_, r, e, hp, _⟩ | ⟨n, _, e⟩
  · rw [e]; exact Nat.le_of_eq hp.length_eq
  · rw [e]; exact Nat.zero_le _
end Go.Proofs.Ytacdhkkelkplnaa
end
section
namespace Go.Proofs.Ytacdhkkelkplnaa
def lastKey (p : List Ent) : List UInt8 := (p.getLast?.map Ent.key).getD []
def headKey (p : List Ent) : List UInt8 := (p.head?.map Ent.key).getD []
def cutNow (size : Int) (p : List Ent) (e : Ent) : Bool := decide ((p.length : Int) ≥ size) && !decide (lastKey p = e.key)
/-- p is the piece so far. -/
def cutE (size : Int) : List Ent → List Ent → List (List Ent)
  | p, [] => if p.length = 0 then [] else [p]
  | p, e :: es => if cutNow size p e then p :: cutE size [e] es else cutE size (p ++ [e]) es
theorem cutE_step {size : Int} {T : List Ent} {k : Nat} {e : Ent} (h : T[k]? = some e) (p : List Ent) :
    cutE size p (T.drop k) = if cutNow size p e then p :: cutE size [e] (T.drop (k + 1)) else cutE size (p ++ [e]) (T.drop (k + 1)) := by
  obtain ⟨hk, he⟩ := List.getElem?_eq_some_iff.1 h
  rw [List.drop_eq_getElem_cons hk, he, cutE]
theorem cutE_flat (size : Int) : ∀ (es p : List Ent), (cutE size p es).flatten = p ++ es
  | [], p => by
    unfold cutE
    split
    · rename_i h; rw [List.eq_nil_of_length_eq_zero h]; rfl
    · simp
  | e :: es, p => by
    unfold cutE
    split
    · rw [List.flatten_cons, cutE_flat size es]; simp
    · rw [cutE_flat size es]; simp
/-- what pieces are. -/
def Cutted (size : Int) : List (List Ent) → Prop
  | [] => True
  | [x] => x ≠ []
  | x :: y :: r => x ≠ [] ∧ (x.length : Int) ≥ size ∧ lastKey x ≠ headKey y ∧ Cutted size (y :: r)
theorem cutE_head (size : Int) : ∀ (es p : List Ent), p ≠ [] → ∃ t r, cutE size p es = (p ++ t) :: r
  | [], p, hp => ⟨[], [], by unfold cutE; rw [if_neg (fun h => hp (List.eq_nil_of_length_eq_zero h))]; simp⟩
  | e :: es, p, hp => by
    unfold cutE
    split
    · exact ⟨[], _, by rw [List.append_nil]⟩
    · obtain ⟨t, r, h⟩ := cutE_head size es (p ++ [e]) (by simp)
      exact ⟨e :: t, r, by rw [h]; simp⟩
theorem cutE_cutted (size : Int) : ∀ (es p : List Ent), p ≠ [] → Cutted size (cutE size p es)
  | [], p, hp => by unfold cutE; rw [if_neg (fun h => hp (List.eq_nil_of_length_eq_zero h))]; exact hp
  | e :: es, p, hp => by
    unfold cutE
    split
    · rename_i h
      obtain ⟨t, r, ht⟩ := cutE_head size es [e] (by simp)
      have hc := cutE_cutted size es [e] (by simp)
      rw [ht] at hc ⊢
      unfold cutNow at h
      simp only [Bool.and_eq_true, decide_eq_true_eq, Bool.not_eq_true', decide_eq_false_iff_not] at h
      exact ⟨hp, h.1, by simpa [headKey] using h.2, hc⟩
    · exact cutE_cutted size es (p ++ [e]) (by simp)
theorem cutE_all {size : Int} (hs : 1 ≤ size) (es : List Ent) : Cutted size (cutE size [] es) := by
  cases es with
  | nil => simp [cutE, Cutted]
  | cons e es =>
    unfold cutE
    rw [if_neg (by unfold cutNow; simp only [Bool.and_eq_true, decide_eq_true_eq]; intro h; have := h.1; simp at this; omega)]
    exact cutE_cutted size es [e] (by simp)
theorem Cutted.at_ {size : Int} : ∀ {P : List (List Ent)}, Cutted size P → ∀ {i : Nat} {x : List Ent}, P[i]? = some x → x ≠ [] ∧ ∀ y, P[i + 1]? = some y → (x.length : Int) ≥ size ∧ lastKey x ≠ headKey y
  | [], _, _, _, h => by simp at h
  | [a], hc, i, x, h => by
    match i, h with
    | 0, h => simp at h; subst h; exact ⟨hc, fun y hy => by simp at hy⟩
    | i + 1, h => simp at h
  | a :: b :: r, hc, i, x, h => by
    match i, h with
    | 0, h => simp at h; subst h; exact ⟨hc.1, fun y hy => by simp at hy; subst hy; exact ⟨hc.2.1, hc.2.2.1⟩⟩
    | i + 1, h =>
      have := Cutted.at_ (P := b :: r) hc.2.2.2 (i := i) (x := x) (by simpa using h)
      exact ⟨this.1, fun y hy => this.2 y (by simpa using hy)⟩
theorem lastKey_sub {T : List Ent} {f k : Nat} {e : Ent} (h : T[k]? = some e) (hf : f ≤ k) : lastKey ((T.drop f).take (k + 1 - f)) = e.key := by
  obtain ⟨hk, he⟩ := List.getElem?_eq_some_iff.1 h
  unfold lastKey
  rw [List.getLast?_eq_getElem?, List.length_take, List.length_drop, show min (k + 1 - f) (T.length - f) - 1 = k - f by omega, List.getElem?_take, if_pos (by omega), List.getElem?_drop, show f + (k - f) = k by omega, h]
  rfl
theorem sub_snoc {T : List Ent} {f k : Nat} {e : Ent} (h : T[k]? = some e) (hf : f ≤ k) : (T.drop f).take (k + 1 - f) = (T.drop f).take (k - f) ++ [e] := by
  rw [show k + 1 - f = k - f + 1 by omega, List.take_add_one, List.getElem?_drop, show f + (k - f) = k by omega, h]
  rfl
theorem sub_len {T : List Ent} {f k : Nat} (hf : f ≤ k) (hk : k ≤ T.length) : ((T.drop f).take (k - f)).length = k - f := by simp; omega
theorem take_flat_len (P : List (List Ent)) (i : Nat) : (P.take i).flatten.length ≤ P.flatten.length := by
  have := congrArg List.length (show P.flatten = (P.take i).flatten ++ (P.drop i).flatten by rw [← List.flatten_append, List.take_append_drop])
  rw [List.length_append] at this
  omega
theorem sub_piece {P : List (List Ent)} {T : List Ent} (h : ∃ t, T = P.flatten ++ t) {i : Nat} {p : List Ent} (hi : P[i]? = some p) : (T.drop (P.take i).flatten.length).take p.length = p ∧ (P.take i).flatten.length + p.length ≤ P.flatten.length := by
  obtain ⟨t, rfl⟩ := h
  obtain ⟨hl, he⟩ := List.getElem?_eq_some_iff.1 hi
  have e : P.flatten = (P.take i).flatten ++ (p ++ (P.drop (i + 1)).flatten) := by
    rw [← List.flatten_cons, ← he, ← List.drop_eq_getElem_cons, ← List.flatten_append, List.take_append_drop]
  constructor
  · rw [e, List.append_assoc, List.drop_left, List.append_assoc, List.take_left]
  · rw [e]; simp
theorem pieces_len (P : List (List Ent)) (h : ∀ p ∈ P, p ≠ []) : P.length ≤ P.flatten.length := by
  induction P with
  | nil => simp
  | cons p P ih =>
    have h1 := ih (fun q hq => h q (by simp [hq]))
    have h2 : 0 < p.length := List.length_pos_iff.2 (h p (by simp))
    simp only [List.length_cons, List.flatten_cons, List.length_append]
    omega
end Go.Proofs.Ytacdhkkelkplnaa
end
section
namespace Go.Proofs.Ytacdhkkelkplnaa
open Go.RowKit Go.BigFrame
attribute [local go_sem ↓] Go.wp_at_zero Go.wp_at_succ
theorem fr.hp {w w' : World} {i : Nat} {x : Obj} (h : fr w w') (hi : w.heap[i]? = some x) : w'.heap[i]? = some x := (Below.block h i (Array.getElem?_eq_some_iff.1 hi).1).trans hi
theorem heap_at_new {w : World} {i : Nat} (o : Obj) (_ : True) (h : i = w.heap.size) : (w.alloc o).heap[i]? = some o := by subst h; exact heap_alloc_new w o
def hardB (w : World) (lo i : Nat) : Prop := lo ≤ i ∧ i < w.heap.size ∧ ¬ Loose w i
def softB (w : World) (lo i : Nat) : Prop := lo ≤ i ∧ Loose w i
theorem hardB.below {w w' : World} {lo i : Nat} (h : hardB w lo i) (hb : Below w.heap.size w w') : hardB w' lo i :=
  ⟨h.1, Nat.lt_of_lt_of_le h.2.1 hb.size, fun hl => h.2.2 (hl.of_eq (hb.block i h.2.1).symm)⟩
theorem softB.below {w w' : World} {lo i : Nat} (h : softB w lo i) (hb : Below w.heap.size w w') : softB w' lo i := ⟨h.1, h.2.below hb⟩
theorem hardB.of_own {w : World} {lo base g n size : Nat} {v : Value} {e : TypeId} {xs : List Value} (h : w.ownsRow base e size v n xs) (he : e ≠ 5) (hg : v.ownBlock = some g) (hlo : lo ≤ base) : hardB w lo g := by
  obtain ⟨h1, h2⟩ := h.lt g hg
  refine ⟨Nat.le_trans hlo h1, h2, fun hl => ?_⟩
  obtain ⟨cs, hc⟩ := hl
  rcases h.2 with ⟨rfl, _⟩ | ⟨g', cap, cur, rfl, _, hh, _⟩
  · simp [Value.ownBlock] at hg
  · simp only [Value.ownBlock, Option.some.injEq] at hg
    subst hg
    rw [hh] at hc
    injection hc with hc
    injection hc with _ e1
    exact he e1
def Ents2 (w : World) (R T : Nat → Prop) (v : Value) (es : List Ent) : Prop :=
  ∃ A c cs, v = .slice A es.length c ∧ es.length ≤ c ∧ c ≤ 9223372036854775807 ∧ es.length * 64 ≤ 140737488355328 ∧ Row w R A es.length 4 cs ∧ EntCells w T cs es
theorem Ents2.imp {w w' : World} {R T R' T' : Nat → Prop} {v : Value} {es : List Ent} (h : Ents2 w R T v es) (hr : ∀ A n sz xs, Row w R A n sz xs → Row w' R' A n sz xs) (ht : ∀ x bs, Byt w T x bs → Byt w' T' x bs) : Ents2 w' R' T' v es := by
  obtain ⟨A, c, cs, e, h1, h2, h3, h4, h5⟩ := h
  exact ⟨A, c, cs, e, h1, h2, h3, hr _ _ _ _ h4, h5.imp ht⟩
theorem Ents2.below {w w' : World} {lo : Nat} {v : Value} {es : List Ent} (h : Ents2 w (hardB w lo) (softB w lo) v es) (hb : Below w.heap.size w w') : Ents2 w' (hardB w' lo) (softB w' lo) v es :=
  h.imp (fun _ _ _ _ hr => (hr.below hb).mono fun _ hi => hi.below hb) (fun _ _ hx => (hx.below hb).mono fun _ hi => hi.below hb)
theorem Ents2.ents {w : World} {R T S : Nat → Prop} {v : Value} {es : List Ent} (h : Ents2 w R T v es) (hR : ∀ i, R i → S i) (hT : ∀ i, T i → S i) : Ents w S v es := by
  obtain ⟨A, c, cs, e, h1, h2, h3, h4, h5⟩ := h
  exact ⟨A, c, cs, e, h1, h2, h3, h4.mono hR, h5.mono hT⟩
def Lists2 (w : World) (R T : Nat → Prop) (v : Value) (ls : List (List Ent)) : Prop :=
  ∃ (A : Option Addr) (c : Nat) (vs : List Value), v = .slice A ls.length c ∧ ls.length ≤ c ∧ c ≤ 9223372036854775807 ∧ ls.length * 24 ≤ 140737488355328 ∧ Row w R A ls.length 1 vs ∧ ∀ (i : Nat) (l : List Ent), ls[i]? = some l → ∃ x, vs[i]? = some x ∧ Ents2 w R T x l
theorem Lists2.nil (w : World) (R T : Nat → Prop) : Lists2 w R T (.slice none 0 0) [] := ⟨none, 0, [], rfl, by simp, by simp, by simp, Row.nil _ _ _ _, fun i l h => by simp at h⟩
theorem Lists2.below {w w' : World} {lo : Nat} {v : Value} {ls : List (List Ent)} (h : Lists2 w (hardB w lo) (softB w lo) v ls) (hb : Below w.heap.size w w') : Lists2 w' (hardB w' lo) (softB w' lo) v ls := by
  obtain ⟨A, c, vs, e, h1, h2, h3, h4, h5⟩ := h
  exact ⟨A, c, vs, e, h1, h2, h3, (h4.below hb).mono fun _ hi => hi.below hb, fun i l hl => by obtain ⟨x, hx, hy⟩ := h5 i l hl; exact ⟨x, hx, hy.below hb⟩⟩
theorem Lists2.lists {w : World} {R T S : Nat → Prop} {v : Value} {ls : List (List Ent)} (h : Lists2 w R T v ls) (hR : ∀ i, R i → S i) (hT : ∀ i, T i → S i) : Lists w S v ls := by
  obtain ⟨A, c, vs, e, h1, h2, h3, h4, h5⟩ := h
  exact ⟨A, c, vs, e, h1, h2, h3, h4.mono hR, fun i l hl => by obtain ⟨x, hx, hy⟩ := h5 i l hl; exact ⟨x, hx, hy.ents hR hT⟩⟩
theorem Lists2.form {w : World} {R T : Nat → Prop} {v : Value} {ls : List (List Ent)} (h : Lists2 w R T v ls) : ∃ A c, v = .slice A ls.length c := by
  obtain ⟨A, c, _, rfl, _⟩ := h; exact ⟨A, c, rfl⟩
theorem Row.sub {w : World} {R : Nat → Prop} {g n f m : Nat} {cs : List Value} (h : Row w R (some ⟨g, 0, none⟩) n 4 cs) (hn : f + m ≤ n) : Row w R (some ⟨g, f * 4, none⟩) m 4 ((cs.drop (f * 4)).take (m * 4)) := by
  refine ⟨by rw [List.length_take, List.length_drop, h.1]; omega, fun h0 => ?_⟩
  obtain ⟨b, o, e, h1, h2, h3⟩ := h.2 (by omega)
  injection e with e
  injection e with e1 e2
  subst e1 e2
  refine ⟨g, f * 4, rfl, h1, h2, fun j u hu => ?_⟩
  rw [List.getElem?_take] at hu
  split at hu
  · rw [List.getElem?_drop] at hu
    have := h3 _ _ hu
    rwa [Nat.zero_add] at this
  · cases hu
/-- a piece of a row of one's own. -/
theorem OwnE.piece {w : World} {base g n c : Nat} {T : List Ent} (h : OwnE w base (.slice (some ⟨g, 0, none⟩) n c) T) (hl : T.length * 64 ≤ 140737488355328) {f m : Nat} (hf : f + m ≤ T.length) :
    Ents2 w (hardB w base) (softB w base) (.slice (some ⟨g, f * 4, none⟩) m m) ((T.drop f).take m) := by
  obtain ⟨ys, hrow, hfr⟩ := h
  have hc : EntCells w (softB w base) ys T := EntCells.mono (S := freshL w base _) hfr fun i hi => ⟨hi.1, hi.2.2⟩
  have hm : ((T.drop f).take m).length = m := by simp; omega
  have hr : Row w (hardB w base) (some ⟨g, 0, none⟩) T.length 4 ys := by
    refine ⟨hrow.1, fun h0 => ?_⟩
    obtain ⟨g', c', hA, hbg, hgz, _, _⟩ := own_pos hrow h0
    injection hA with hA
    injection hA with hA
    injection hA with hA
    subst hA
    refine ⟨g, 0, rfl, hardB.of_own hrow (by decide) rfl (Nat.le_refl _), hgz, fun j u hu => ?_⟩
    have := hrow.cells (g := g) rfl j u hu
    rwa [Addr.add_lit] at this
  refine ⟨_, _, _, by rw [hm], by omega, by omega, by omega, ?_, (hc.drop f).take m⟩
  rw [hm]
  exact hr.sub hf
theorem OwnE.below {w w' : World} {base : Nat} {v : Value} {es : List Ent} (h : OwnE w base v es) (hb : Below w.heap.size w w') : OwnE w' base v es := by
  obtain ⟨ys, h1, h2⟩ := h
  exact ⟨ys, own_below h1 hb, h2.below hb⟩
theorem OwnE.form {w : World} {base : Nat} {v : Value} {es : List Ent} (h : OwnE w base v es) : ∃ A c, v = .slice A es.length c := by
  obtain ⟨ys, h1, _⟩ := h; exact own_form h1
theorem own_lim {w : World} {base n c : Nat} {A : Option Addr} {e : TypeId} {size : Nat} {xs : List Value} (h : w.ownsRow base e size (.slice A n c) n xs) : n ≤ c ∧ c ≤ 9223372036854775807 := by
  rcases h.2 with ⟨h, rfl⟩ | ⟨g, cap, cur, h, _, _, h2, h3, _⟩
  · injection h with _ _ h; subst h; omega
  · injection h with _ _ h; subst h; unfold maxLen at h3; omega
theorem OwnE.pos {w : World} {base : Nat} {v : Value} {es : List Ent} (h : OwnE w base v es) (h0 : 0 < es.length) : ∃ g c, v = .slice (some ⟨g, 0, none⟩) es.length c ∧ base ≤ g ∧ es.length ≤ c ∧ c ≤ 9223372036854775807 := by
  obtain ⟨ys, h1, _⟩ := h
  obtain ⟨g, c, rfl, hb, _⟩ := own_pos h1 h0
  have := own_lim h1
  exact ⟨g, c, rfl, hb, this.1, this.2⟩
theorem merge_ordered {ls : List (List Ent)} (h : (mergeC ls).2 = 0) : orderedE (mergeC ls).1 = true ∧ (mergeC ls).1.length ≤ total ls := by
  by_cases ho : ls.all orderedE = true
  · rcases mergeC_spec ls ho with ⟨r, e, hr1, hr2⟩ | ⟨e, _⟩
    · rw [e]
      refine ⟨(ordered_iff r).2 ⟨fun x hx => ?_, hr2⟩, by rw [← e]; exact merged_len ls⟩
      obtain ⟨l, hl, hxl⟩ := List.mem_flatten.1 (hr1.mem_iff.1 hx)
      exact ((ordered_iff l).1 (List.all_eq_true.1 ho l hl)).1 x hxl
    · rw [e] at h; cases h
  · unfold mergeC at h
    rw [if_neg ho] at h
    simp at h
end Go.Proofs.Ytacdhkkelkplnaa
end
