/-
ref07's disk in memory: a struct, a row of files in a block of its own, bytes that nobody writes to.
-/
import Derived.Test.YtcmjoaepihbodaaQPOwnU0
import Derived.Deep.Slices
import Derived.Lib.SmallJoins
import Derived.OpenShut
import Derived.SizedLaws
import Derived.Test.YtcmjoaepihbodaaRows
import Derived.Test.YtcmjoaepihbodaaQPOwnU6
import Derived.Deep.Strs
import Derived.Test.YtcmjoaepihbodaaQPOwnU8
section
namespace Go.Proofs.Ytcmjoaepihbodaa
open Go.RowKit Go.ChangeShapes Go.WideShapes Go.Deep
theorem cells_u8 : Try.prog.cellsOf 5 = 1 := by kernel_rfl
theorem cells_bs : Try.prog.cellsOf 35 = 1 := by kernel_rfl
theorem cells_i : Try.prog.cellsOf 3 = 1 := by kernel_rfl
theorem cells_s : Try.prog.cellsOf 9 = 1 := by kernel_rfl
theorem cells_is : Try.prog.cellsOf 23 = 1 := by kernel_rfl
theorem bytes_u8 : Try.prog.bytesOf 5 = 1 := by kernel_rfl
theorem bytes_i : Try.prog.bytesOf 3 = 8 := by kernel_rfl
theorem cell_spot {w : World} {a : Addr} {v : Value} (h : w.cell? a = some v) : a = ⟨a.block, a.off, none⟩ := by
  obtain ⟨b, o, s⟩ := a
  cases s with
  | none => rfl
  | some s =>
    unfold World.cell? at h
    split at h <;> simp at h
theorem add_block (a : Addr) (n : Nat) : (a.add n).block = a.block := by unfold Addr.add; split <;> rfl
theorem add_off (a : Addr) (n : Nat) : (a.add n).off = a.off + n := by
  unfold Addr.add
  split
  · rename_i h; rw [h]; rfl
  · rfl
theorem weightsAll_mem {H : Type} {P : Program} {e : TypeId} : ∀ {l : List (DataW H)} {d : DataW H}, d ∈ l → ∀ n ∈ d.weights P e, n ∈ DataW.weightsAll P e l
  | d' :: r, d, hd, n, hn => by
    simp only [DataW.weightsAll, List.mem_append]
    rcases List.mem_cons.1 hd with rfl | h
    · exact Or.inl hn
    · exact Or.inr (weightsAll_mem h n hn)
section
variable {H : Type} {enc : TypeId × Value → H} {w : World} {base : Nat} {held : Bool} {spare : Nat → Bool}
set_option maxRecDepth 100000 in
theorem open_byt {fuel : Nat} {v : Value} {x : DataW H × List MemPlace} (h : DataW.trod enc Try.prog w base spare held fuel 35 [v] = some x) (hw : ∀ n ∈ x.1.weights Try.prog 35, n ≤ reachBytes) :
    ∃ bs, Byt w (fun _ => True) v bs := by
  rcases open_ints Try.underlying35 Try.underlying5 cells_u8 h with ⟨hv, _⟩ | ⟨a, len, cap, zs, hv, _, hl, hm, hz, hx, hc, hwf⟩
  · obtain rfl : v = .slice none 0 0 := by simpa using hv
    exact ⟨[], Byt.nil _ _⟩
  · obtain rfl : v = .slice (some a) len cap := by simpa using hv
    have hlen : len ≤ zs.length := by rw [hz]; split <;> omega
    subst hx
    have hr := hw _ (by simp only [DataW.weights, Try.underlying35]; exact List.mem_cons_self)
    rw [bytes_u8] at hr
    simp only [lits, List.length_map, List.length_take, List.length_drop, reachBytes] at hr
    have e1 : ((zs.take len).map fun z => UInt8.ofNat z.toNat).length = len := by simp; omega
    unfold maxLen at hm
    refine ⟨(zs.take len).map fun z => UInt8.ofNat z.toNat, some a, cap, by rw [e1], by omega, by omega, by omega, ?_⟩
    rw [e1]
    refine ⟨by simp; omega, fun h0 => ?_⟩
    have hs := hc 0 (by omega)
    have hsp : a = ⟨a.block, a.off, none⟩ := cell_spot (a := a) (by simpa [Addr.add] using hs)
    refine ⟨a.block, a.off, by rw [← hsp], trivial, ?_, fun j u hu => ?_⟩
    · have := World.block_lt_of_cell? w _ hs
      simpa [Addr.add] using this
    · rw [List.getElem?_map, List.getElem?_map, List.getElem?_take] at hu
      split at hu
      · rename_i hj
        have hcj := hc j (by omega)
        rw [hsp, Addr.add_lit] at hcj
        rw [hcj]
        obtain ⟨z, hzj⟩ : ∃ z, zs[j]? = some z := ⟨_, List.getElem?_eq_getElem (by omega)⟩
        have hb := bounds_u8 (hwf z (List.mem_of_getElem? hzj))
        rw [hzj] at hu
        simp only [Option.map_some, Option.some.injEq] at hu
        rw [← hu, List.getD_eq_getElem?_getD, hzj]
        unfold bcell
        simp
        omega
      · simp at hu
set_option maxRecDepth 100000 in
theorem open_zs {fuel : Nat} {v : Value} {d : DataW H} {ps : List MemPlace} (h : DataW.trod enc Try.prog w base spare held fuel 23 [v] = some (d, ps)) (hw : ∀ n ∈ d.weights Try.prog 23, n ≤ reachBytes) :
    ∃ zs, IntsIn w (fun _ => True) v zs ∧ zs.length * 8 ≤ 140737488355328 ∧ ∀ z ∈ zs, (Lit.int .i64 z).wf = true := by
  rcases open_ints Try.underlying23 Try.underlying3 cells_i h with ⟨hv, _⟩ | ⟨a, len, cap, zs, hv, _, hl, hm, hz, hx, hc, hwf⟩
  · obtain rfl : v = .slice none 0 0 := by simpa using hv
    exact ⟨[], IntsIn.nil _ _, by simp, fun z hz => by cases hz⟩
  · obtain rfl : v = .slice (some a) len cap := by simpa using hv
    have hlen : len ≤ zs.length := by rw [hz]; split <;> omega
    simp only [Prod.mk.injEq] at hx
    obtain ⟨hx, _⟩ := hx
    subst hx
    have hr := hw _ (by simp only [DataW.weights, Try.underlying23]; exact List.mem_cons_self)
    rw [bytes_i] at hr
    simp only [lits, List.length_map, List.length_take, List.length_drop, reachBytes] at hr
    have e1 : (zs.take len).length = len := by simp; omega
    unfold maxLen at hm
    refine ⟨zs.take len, ⟨some a, cap, by rw [e1], by omega, by omega, ?_⟩, by omega, fun z hz => hwf z (List.mem_of_mem_take hz)⟩
    rw [e1]
    refine ⟨by simp; omega, fun h0 => ?_⟩
    have hs := hc 0 (by omega)
    have hsp : a = ⟨a.block, a.off, none⟩ := cell_spot (a := a) (by simpa [Addr.add] using hs)
    refine ⟨a.block, a.off, by rw [← hsp], trivial, ?_, fun j u hu => ?_⟩
    · have := World.block_lt_of_cell? w _ hs
      simpa [Addr.add] using this
    · rw [List.getElem?_map, List.getElem?_take] at hu
      split at hu
      · rename_i hj
        have hcj := hc j (by omega)
        rw [hsp, Addr.add_lit] at hcj
        rw [hcj]
        obtain ⟨z, hzj⟩ : ∃ z, zs[j]? = some z := ⟨_, List.getElem?_eq_getElem (by omega)⟩
        rw [hzj] at hu
        simp only [Option.map_some, Option.some.injEq] at hu
        rw [← hu, List.getD_eq_getElem?_getD, hzj]
        rfl
      · simp at hu
set_option maxRecDepth 100000 in
/-- an argument that is a slice: its reading at its own value. -/
theorem arg_slice {r : Reach} {b0 : Nat} {t e : TypeId} {v : Value} {d : DataW H} {ps : List MemPlace} (ht : Try.prog.underlying t = some (.slice e)) (hval : Value.okWide Try.prog w r b0 t v) (hd : DataW.Trod enc Try.prog w base spare held t v d ps) :
    ∃ fuel, DataW.trod enc Try.prog w base spare held fuel t [v] = some (d, ps) := by
  obtain ⟨a, l, c, rfl⟩ := okWide_slice ht hval
  obtain ⟨n, hn⟩ := hd
  exact ⟨n, hn⟩
set_option maxRecDepth 100000 in
theorem arg_bytes {r : Reach} {b0 : Nat} {v : Value} {d : DataW H} {ps : List MemPlace} (hval : Value.okWide Try.prog w r b0 35 v) (hd : DataW.Trod enc Try.prog w base spare held 35 v d ps) (hw : ∀ n ∈ d.weights Try.prog 35, n ≤ reachBytes) :
    ∃ bs, Byt w (fun _ => True) v bs := by
  obtain ⟨n, hn⟩ := arg_slice Try.underlying35 hval hd
  exact open_byt hn hw
set_option maxRecDepth 100000 in
theorem arg_ints {r : Reach} {b0 : Nat} {v : Value} {d : DataW H} {ps : List MemPlace} (hval : Value.okWide Try.prog w r b0 23 v) (hd : DataW.Trod enc Try.prog w base spare held 23 v d ps) (hw : ∀ n ∈ d.weights Try.prog 23, n ≤ reachBytes) :
    ∃ zs, IntsIn w (fun _ => True) v zs ∧ zs.length * 8 ≤ 140737488355328 := by
  obtain ⟨fuel, h⟩ := arg_slice Try.underlying23 hval hd
  obtain ⟨zs, h1, h2, _⟩ := open_zs h hw
  exact ⟨zs, h1, h2⟩
set_option maxRecDepth 100000 in
theorem open_str {fuel : Nat} {v : Value} {x : DataW H × List MemPlace} (h : DataW.trod enc Try.prog w base spare held fuel 9 [v] = some x) (hw : ∀ n ∈ x.1.weights Try.prog 9, n ≤ reachBytes) :
    ∃ s : List UInt8, v = .string ⟨s.toArray⟩ ∧ s.length ≤ 140737488355328 := by
  obtain ⟨s, hs, rfl, _⟩ := DataW.trod_string Try.underlying9 h
  obtain rfl : v = .string s := by simpa using hs
  have := hw s.data.toList.length (by simp [DataW.weights])
  exact ⟨s.data.toList, rfl, by unfold reachBytes at this; omega⟩
set_option maxRecDepth 100000 in
theorem arg_string {r : Reach} {b0 : Nat} {v : Value} {d : DataW H} {ps : List MemPlace} (hval : Value.okWide Try.prog w r b0 9 v) (hd : DataW.Trod enc Try.prog w base spare held 9 v d ps) (hw : ∀ n ∈ d.weights Try.prog 9, n ≤ reachBytes) :
    ∃ s : List UInt8, v = .string ⟨s.toArray⟩ ∧ s.length ≤ 140737488355328 := by
  obtain ⟨n, hn⟩ := hd
  have hv : ∃ s, v = .string s := by
    unfold Value.okWide at hval
    rw [Try.underlying9] at hval
    cases v <;> simp_all [Cell.okWide, Cell.ok, Try.underlying9]
  obtain ⟨s, rfl⟩ := hv
  exact open_str hn hw
end
end Go.Proofs.Ytcmjoaepihbodaa
end
section
namespace Go.Proofs.Ytcmjoaepihbodaa
open Go.RowKit Go.ChangeShapes Go.WideShapes Go.Deep
theorem bulk_one {H : Type} (d : DataW H) : 1 ≤ Rows.uptoBulk d := by
  cases d with
  | lit l => cases l <;> simp [Rows.uptoBulk]
  | nil => simp [Rows.uptoBulk]
  | ptr d => simp [Rows.uptoBulk]
  | slice elems spare => simp [Rows.uptoBulk]
  | agg parts => simp [Rows.uptoBulk]
  | iface t d => simp [Rows.uptoBulk]
  | map entries => simp [Rows.uptoBulk]
  | held h => simp [Rows.uptoBulk]
theorem bulk_all {H : Type} (l : List (DataW H)) : Rows.uptoBulkAll l = (l.map Rows.uptoBulk).sum := by
  induction l with
  | nil => rfl
  | cons x r ih => simp only [Rows.uptoBulkAll, List.map_cons, List.sum_cons, ih]
theorem bulk_len {H : Type} (l : List (DataW H)) : l.length ≤ Rows.uptoBulkAll l := by
  induction l with
  | nil => simp [Rows.uptoBulkAll]
  | cons x r ih => have := bulk_one x; simp only [Rows.uptoBulkAll, List.length_cons]; omega
section
variable {H : Type} {P : Program} {enc : TypeId × Value → H} {w : World} {base : Nat} {held : Bool} {spare : Nat → Bool}
theorem trod_struct5 {t : TypeId} {f0 f1 f2 f3 f4 : Field} {fuel : Nat} {cs : List Value} {x : DataW H × List MemPlace} (ht : P.underlying t = some (.struct #[f0, f1, f2, f3, f4])) (h : DataW.trod enc P w base spare held fuel t cs = some x) :
    ∃ y0 y1 y2 y3 y4 n, x = (.agg [y0.1, y1.1, y2.1, y3.1, y4.1], y0.2 ++ (y1.2 ++ (y2.2 ++ (y3.2 ++ y4.2)))) ∧ cs.length = P.cellsOf t ∧ DataW.trod enc P w base spare held n f0.type ((cs.drop f0.offset).take (P.cellsOf f0.type)) = some y0 ∧
      DataW.trod enc P w base spare held n f1.type ((cs.drop f1.offset).take (P.cellsOf f1.type)) = some y1 ∧ DataW.trod enc P w base spare held n f2.type ((cs.drop f2.offset).take (P.cellsOf f2.type)) = some y2 ∧
      DataW.trod enc P w base spare held n f3.type ((cs.drop f3.offset).take (P.cellsOf f3.type)) = some y3 ∧ DataW.trod enc P w base spare held n f4.type ((cs.drop f4.offset).take (P.cellsOf f4.type)) = some y4 := by
  obtain ⟨xs, n, _, rfl, hl, hlen, hf⟩ := DataW.trod_struct ht h
  match xs, hlen with
  | [y0, y1, y2, y3, y4], _ => exact ⟨y0, y1, y2, y3, y4, n, by simp, hl, by simpa using hf 0 f0 rfl, by simpa using hf 1 f1 rfl, by simpa using hf 2 f2 rfl, by simpa using hf 3 f3 rfl, by simpa using hf 4 f4 rfl⟩
end
section
variable {H : Type} {enc : TypeId × Value → H} {w : World} {base : Nat} {held : Bool} {spare : Nat → Bool}
theorem bulk_slice {t e : TypeId} (ht : Try.prog.underlying t = some (.slice e)) {fuel n c : Nat} {A : Option Addr} {x : DataW H × List MemPlace} (h : DataW.trod enc Try.prog w base spare held fuel t [.slice A n c] = some x) : n ≤ Rows.uptoBulk x.1 := by
  rcases open_slice ht h with ⟨hv, _⟩ | ⟨a, len, cap, m, n', D, Pl, hv, _, _, _, _, hx, _⟩
  · simp only [List.cons.injEq, Value.slice.injEq, and_true] at hv
    omega
  · simp only [List.cons.injEq, Value.slice.injEq, and_true] at hv
    obtain ⟨_, rfl, _⟩ := hv
    subst hx
    have := bulk_len ((List.range n).map D)
    simp only [List.length_map, List.length_range] at this
    simp only [Rows.uptoBulk]
    omega
set_option maxRecDepth 100000 in
theorem open_rows {α : Type} [Inhabited α] {R : Rd α} {k bytes : Nat} (hk0 : 0 < k) {t e : TypeId} (ht : Try.prog.underlying t = some (.slice e)) (hk : Try.prog.cellsOf e = k) (hby : Try.prog.bytesOf e = bytes) (m : α → Nat)
    (hel : ∀ (fuel : Nat) (cs : List Value) (x : DataW H × List MemPlace), DataW.trod enc Try.prog w base spare held fuel e cs = some x → (∀ n ∈ x.1.weights Try.prog e, n ≤ reachBytes) → ∃ a : α, R w (fun _ => True) a cs ∧ m a ≤ Rows.uptoBulk x.1)
    {fuel : Nat} {v : Value} {x : DataW H × List MemPlace} (h : DataW.trod enc Try.prog w base spare held fuel t [v] = some x) (hw : ∀ n ∈ x.1.weights Try.prog t, n ≤ reachBytes) :
    ∃ xs, Rows R k bytes w (fun _ => True) v xs ∧ (xs.map m).sum ≤ Rows.uptoBulk x.1 := by
  rcases open_slice ht h with ⟨hv, hx⟩ | ⟨a, len, cap, mm, n, D, Pl, hv, _, hl, hm, hmm, hx, hc⟩
  · obtain rfl : v = .slice none 0 0 := by simpa using hv
    exact ⟨[], ⟨none, 0, [], rfl, Nat.le_refl _, by omega, by simp, ⟨by simp, fun h => by simp at h⟩, .nil⟩, by simp⟩
  · obtain rfl : v = .slice (some a) len cap := by simpa using hv
    have hlm : len ≤ mm := by rw [hmm]; split <;> omega
    subst hx
    simp only [DataW.weights, ht, List.mem_cons, List.mem_append] at hw
    have hr := hw _ (.inl rfl)
    rw [hby] at hr
    simp only [List.length_map, List.length_range, reachBytes] at hr
    unfold maxLen at hm
    rw [hk] at hc
    have key : ∀ q, q ≤ len → ∃ (css : List (List Value)) (xs : List α), xs.length = q ∧ css.flatten.length = q * k ∧ All2 (R w fun _ => True) xs css ∧ (xs.map m).sum ≤ Rows.uptoBulkAll ((List.range q).map D) ∧ ∀ j u, css.flatten[j]? = some u → w.cell? (a.add j) = some u := by
      intro q
      induction q with
      | zero => exact fun _ => ⟨[], [], rfl, by simp, .nil, by simp, fun j u hu => by simp at hu⟩
      | succ q ih =>
        intro hq
        obtain ⟨css, xs, hxl, hfl, hall, hsum, hcc⟩ := ih (by omega)
        obtain ⟨cs', h1, h2⟩ := hc q (by omega)
        obtain ⟨y, hy, hym⟩ := hel _ _ _ h2 (fun n hn => hw n (.inr (.inl (weightsAll_mem (List.mem_map.2 ⟨q, List.mem_range.2 (by omega), rfl⟩) n hn))))
        obtain ⟨_, hl4, h4⟩ := World.cells?_some h1
        refine ⟨css ++ [cs'], xs ++ [y], by simp [hxl], by simp [hfl, hl4, Nat.succ_mul], hall.snoc hy, ?_, fun j u hu => ?_⟩
        · rw [bulk_all] at hsum ⊢
          rw [List.range_succ]
          simp only [List.map_append, List.sum_append, List.map_cons, List.map_nil, List.sum_cons, List.sum_nil]
          simp only [Nat.add_zero]
          exact Nat.add_le_add hsum hym
        · rw [List.flatten_append, List.getElem?_append] at hu
          split at hu
          · exact hcc j u hu
          · rename_i hj
            simp only [List.flatten_cons, List.flatten_nil, List.append_nil] at hu
            have hj : j - css.flatten.length < k := by rw [← hl4]; exact (List.getElem?_eq_some_iff.1 hu).1
            have h5 := h4 _ hj
            rw [hu] at h5
            have h6 := h4 0 (by omega)
            have hsp : a.add (q * k) = ⟨a.block, a.off + q * k, none⟩ := by
              have h7 := cell_spot (w := w) (a := (a.add (q * k))) (v := cs'[0]) (by
                rw [show (a.add (q * k)).add 0 = a.add (q * k) by simp [Addr.add]] at h6
                rw [h6, List.getElem?_eq_getElem (by omega)])
              rw [h7, add_block, add_off]
            rw [hsp, Addr.add_lit] at h5
            unfold Addr.add
            by_cases hj0 : j = 0
            · rw [if_pos hj0]
              subst hj0
              have hk0 : q * k = 0 := by omega
              have : a = ⟨a.block, a.off, none⟩ := by rw [hk0] at hsp; simpa [Addr.add] using hsp
              rw [this]
              rw [hk0] at h5
              simpa using h5
            · rw [if_neg hj0, ← h5]
              congr 2
              omega
    obtain ⟨css, xs, hxl, hfl, hall, hsum, hcc⟩ := key len (Nat.le_refl _)
    refine ⟨xs, ⟨some a, cap, css, by rw [hxl], by omega, by omega, ?_, ?_, hall⟩, ?_⟩
    · rw [hxl]
      have : len * bytes ≤ (len + (mm - len)) * bytes := Nat.mul_le_mul_right _ (by omega)
      omega
    · rw [hxl]
      refine ⟨hfl, fun h0 => ?_⟩
      have hpos : 0 < len * k := Nat.mul_pos h0 hk0
      obtain ⟨u0, hu0⟩ : ∃ u, css.flatten[0]? = some u := ⟨_, List.getElem?_eq_getElem (by omega)⟩
      have hs := hcc 0 u0 hu0
      have hsp : a = ⟨a.block, a.off, none⟩ := cell_spot (a := a) (by simpa [Addr.add] using hs)
      refine ⟨a.block, a.off, by rw [← hsp], trivial, ?_, fun j u hu => ?_⟩
      · have := World.block_lt_of_cell? w _ hs
        simpa [Addr.add] using this
      · have := hcc j u hu
        rwa [hsp, Addr.add_lit] at this
    · simp only [Rows.uptoBulk]
      omega
end
end Go.Proofs.Ytcmjoaepihbodaa
end
section
namespace Go.Proofs.Ytcmjoaepihbodaa
open Go.RowKit Go.ChangeShapes Go.WideShapes Go.Deep
/-- a call. -/
structure Ac where
  kind : Int
  name : Nm
  dest : Nm
  data : List UInt8
  ops : Int
  room : Int
  keep : List Int
instance : Inhabited Ac := ⟨⟨0, [], [], [], 0, 0, []⟩⟩
instance : Inhabited Fl := ⟨⟨[], [], 0⟩⟩
theorem IntsIn.keepR {w w' : World} {S S' : Nat → Prop} {v : Value} {zs : List Int} (h : IntsIn w S v zs) (hk : ∀ A n sz xs, Row w S A n sz xs → Row w' S' A n sz xs) : IntsIn w' S' v zs := by
  obtain ⟨A, c, e, h1, h2, h4⟩ := h
  exact ⟨A, c, e, h1, h2, hk _ _ _ _ h4⟩
def acR : Rd Ac := fun w S a cs => ∃ v kv, cs = [.int .i64 a.kind, .string ⟨a.name.toArray⟩, .string ⟨a.dest.toArray⟩, v, .int .i64 a.ops, .int .i64 a.room, kv] ∧ Byt w S v a.data ∧ IntsIn w S kv a.keep ∧ a.keep.length * 8 ≤ 140737488355328 ∧ a.name.length ≤ 140737488355328 ∧ a.dest.length ≤ 140737488355328 ∧ (Lit.int .i64 a.kind).wf = true ∧ (Lit.int .i64 a.ops).wf = true ∧ (Lit.int .i64 a.room).wf = true ∧ ∀ z ∈ a.keep, (Lit.int .i64 z).wf = true
theorem acFine : Fine acR 7 := ⟨fun h => by obtain ⟨v, kv, rfl, _⟩ := h; rfl, fun h hk => by obtain ⟨v, kv, rfl, h1, h2, h3⟩ := h; exact ⟨v, kv, rfl, h1.keepR hk, h2.keepR hk, h3⟩⟩
abbrev Acs (w : World) (S : Nat → Prop) (v : Value) (l : List Ac) : Prop := Rows acR 7 104 w S v l
theorem cells_fl : Try.prog.cellsOf 37 = 3 := by kernel_rfl
theorem cells_pl : Try.prog.cellsOf 25 = 3 := by kernel_rfl
theorem cells_ac : Try.prog.cellsOf 56 = 7 := by kernel_rfl
theorem bytes_fl : Try.prog.bytesOf 37 = 48 := by kernel_rfl
theorem bytes_ac : Try.prog.bytesOf 56 = 104 := by kernel_rfl
section
variable {H : Type} {enc : TypeId × Value → H} {w : World} {base : Nat} {held : Bool} {spare : Nat → Bool}
set_option maxRecDepth 100000 in
theorem open_fl (fuel : Nat) (cs : List Value) (x : DataW H × List MemPlace) (h : DataW.trod enc Try.prog w base spare held fuel 37 cs = some x) (hw : ∀ n ∈ x.1.weights Try.prog 37, n ≤ reachBytes) :
    ∃ f : Fl, flR w (fun _ => True) f cs ∧ f.data.length + 1 ≤ Rows.uptoBulk x.1 := by
  obtain ⟨y0, y1, y2, n, rfl, hl, h0, h1, h2⟩ := trod_struct3 Try.underlying37 h
  rw [cells_fl] at hl
  match cs, hl with
  | [c0, c1, c2], _ =>
    simp only [cells_s, cells_bs, cells_i, List.drop_zero, List.drop_succ_cons, List.take_succ_cons, List.take_zero] at h0 h1 h2
    simp only [DataW.weights, Try.underlying37, List.map_cons, List.map_nil, DataW.weightsEach, List.append_nil, List.mem_append] at hw
    obtain ⟨s, rfl, hs⟩ := open_str h0 (fun n hn => hw n (.inl hn))
    obtain ⟨bs, hb⟩ := open_byt h1 (fun n hn => hw n (.inr (.inl hn)))
    obtain ⟨z, hz, _, _⟩ := DataW.trod_int Try.underlying3 h2
    obtain rfl : c2 = .int .i64 z := by simpa using hz
    obtain ⟨A, c, rfl⟩ := slice_form hb
    have := bulk_slice Try.underlying35 h1
    have := bulk_one y0.1
    refine ⟨⟨s, bs, z⟩, ⟨_, rfl, hb, hs⟩, ?_⟩
    simp only [Rows.uptoBulk, Rows.uptoBulkAll]
    omega
set_option maxRecDepth 100000 in
theorem open_pl (fuel : Nat) (cs : List Value) (x : DataW H × List MemPlace) (h : DataW.trod enc Try.prog w base spare held fuel 25 cs = some x) (hw : ∀ n ∈ x.1.weights Try.prog 25, n ≤ reachBytes) :
    ∃ (ops room : Int) (zs : List Int) (kv : Value), cs = [.int .i64 ops, .int .i64 room, kv] ∧ IntsIn w (fun _ => True) kv zs ∧ zs.length * 8 ≤ 140737488355328 ∧ (Lit.int .i64 ops).wf = true ∧ (Lit.int .i64 room).wf = true ∧ ∀ z ∈ zs, (Lit.int .i64 z).wf = true := by
  obtain ⟨y0, y1, y2, n, rfl, hl, h0, h1, h2⟩ := trod_struct3 Try.underlying25 h
  rw [cells_pl] at hl
  match cs, hl with
  | [c0, c1, c2], _ =>
    simp only [cells_is, cells_i, List.drop_zero, List.drop_succ_cons, List.take_succ_cons, List.take_zero] at h0 h1 h2
    simp only [DataW.weights, Try.underlying25, List.map_cons, List.map_nil, DataW.weightsEach, List.append_nil, List.mem_append] at hw
    obtain ⟨a, ha, _, wa⟩ := DataW.trod_int Try.underlying3 h0
    obtain ⟨b, hb, _, wb⟩ := DataW.trod_int Try.underlying3 h1
    obtain ⟨zs, hz, hz8, wz⟩ := open_zs h2 (fun n hn => hw n (.inr (.inr hn)))
    obtain rfl : c0 = .int .i64 a := by simpa using ha
    obtain rfl : c1 = .int .i64 b := by simpa using hb
    exact ⟨a, b, zs, _, rfl, hz, hz8, wa, wb, wz⟩
set_option maxRecDepth 100000 in
theorem open_ac (fuel : Nat) (cs : List Value) (x : DataW H × List MemPlace) (h : DataW.trod enc Try.prog w base spare held fuel 56 cs = some x) (hw : ∀ n ∈ x.1.weights Try.prog 56, n ≤ reachBytes) :
    ∃ a : Ac, acR w (fun _ => True) a cs ∧ a.data.length + 1 ≤ Rows.uptoBulk x.1 := by
  obtain ⟨y0, y1, y2, y3, y4, n, rfl, hl, h0, h1, h2, h3, h4⟩ := trod_struct5 Try.underlying56 h
  rw [cells_ac] at hl
  match cs, hl with
  | [c0, c1, c2, c3, c4, c5, c6], _ =>
    simp only [cells_s, cells_bs, cells_i, cells_pl, List.drop_zero, List.drop_succ_cons, List.take_succ_cons, List.take_zero] at h0 h1 h2 h3 h4
    simp only [DataW.weights, Try.underlying56, List.map_cons, List.map_nil, DataW.weightsEach, List.append_nil, List.mem_append] at hw
    obtain ⟨z, hz, _, wz⟩ := DataW.trod_int Try.underlying3 h0
    obtain rfl : c0 = .int .i64 z := by simpa using hz
    obtain ⟨s, rfl, hs⟩ := open_str h1 (fun n hn => hw n (.inr (.inl hn)))
    obtain ⟨s', rfl, hs'⟩ := open_str h2 (fun n hn => hw n (.inr (.inr (.inl hn))))
    obtain ⟨bs, hb⟩ := open_byt h3 (fun n hn => hw n (.inr (.inr (.inr (.inl hn)))))
    obtain ⟨ops, room, zs, kv, he, hk, hk8, wo, wr, wk⟩ := open_pl _ _ _ h4 (fun n hn => hw n (.inr (.inr (.inr (.inr hn)))))
    simp only [List.cons.injEq, and_true] at he
    obtain ⟨rfl, rfl, rfl⟩ := he
    obtain ⟨A, c, rfl⟩ := slice_form hb
    have := bulk_slice Try.underlying35 h3
    have := bulk_one y0.1
    refine ⟨⟨z, s, s', bs, ops, room, zs⟩, ⟨_, _, rfl, hb, hk, hk8, hs, hs', wz, wo, wr, wk⟩, ?_⟩
    simp only [Rows.uptoBulk, Rows.uptoBulkAll]
    omega
set_option maxRecDepth 100000 in
theorem arg_files {r : Reach} {b0 : Nat} {v : Value} {d : DataW H} {ps : List MemPlace} (hval : Value.okWide Try.prog w r b0 22 v) (hd : DataW.Trod enc Try.prog w base spare held 22 v d ps) (hw : ∀ n ∈ d.weights Try.prog 22, n ≤ reachBytes) :
    ∃ fs, FilesV w (fun _ => True) v fs := by
  obtain ⟨n, hn⟩ := arg_slice Try.underlying22 hval hd
  obtain ⟨fs, h, _⟩ := open_rows (R := flR) (by decide) Try.underlying22 cells_fl bytes_fl (fun f => f.data.length + 1) open_fl hn hw
  exact ⟨fs, h⟩
set_option maxRecDepth 100000 in
theorem arg_files_upto {r : Reach} {b0 : Nat} {v : Value} {d : DataW H} {ps : List MemPlace} (hval : Value.okWide Try.prog w r b0 22 v) (hd : DataW.Trod enc Try.prog w base spare held 22 v d ps) (hw : ∀ n ∈ d.weights Try.prog 22, n ≤ reachBytes)
    (hk : Rows.uptoBulk d ≤ 1048576) : ∃ fs, FilesV w (fun _ => True) v fs ∧ (fs.map fun f => f.data.length + 1).sum ≤ 1048576 := by
  obtain ⟨n, hn⟩ := arg_slice Try.underlying22 hval hd
  obtain ⟨fs, h, hs⟩ := open_rows (R := flR) (by decide) Try.underlying22 cells_fl bytes_fl (fun f => f.data.length + 1) open_fl hn hw
  exact ⟨fs, h, Nat.le_trans hs hk⟩
set_option maxRecDepth 100000 in
theorem arg_acts_upto {r : Reach} {b0 : Nat} {v : Value} {d : DataW H} {ps : List MemPlace} (hval : Value.okWide Try.prog w r b0 52 v) (hd : DataW.Trod enc Try.prog w base spare held 52 v d ps) (hw : ∀ n ∈ d.weights Try.prog 52, n ≤ reachBytes)
    (hk : Rows.uptoBulk d ≤ 1048576) : ∃ l, Acs w (fun _ => True) v l ∧ (l.map fun a => a.data.length + 1).sum ≤ 1048576 := by
  obtain ⟨n, hn⟩ := arg_slice Try.underlying52 hval hd
  obtain ⟨l, h, hs⟩ := open_rows (R := acR) (by decide) Try.underlying52 cells_ac bytes_ac (fun a => a.data.length + 1) open_ac hn hw
  exact ⟨l, h, Nat.le_trans hs hk⟩
set_option maxRecDepth 100000 in
theorem arg_bytes_upto {r : Reach} {b0 : Nat} {v : Value} {d : DataW H} {ps : List MemPlace} (hval : Value.okWide Try.prog w r b0 35 v) (hd : DataW.Trod enc Try.prog w base spare held 35 v d ps) (hw : ∀ n ∈ d.weights Try.prog 35, n ≤ reachBytes)
    (hk : Rows.uptoBulk d ≤ 1048576) : ∃ bs, Byt w (fun _ => True) v bs ∧ bs.length ≤ 1048576 := by
  obtain ⟨n, hn⟩ := arg_slice Try.underlying35 hval hd
  obtain ⟨bs, hb⟩ := open_byt hn hw
  obtain ⟨A, c, rfl⟩ := slice_form hb
  exact ⟨bs, hb, Nat.le_trans (bulk_slice Try.underlying35 hn) hk⟩
/-- a plan as an argument. -/
def PlanV (w : World) (S : Nat → Prop) (v : Value) (a : Int × Int × List Int) : Prop := ∃ kv, v = .agg #[.int .i64 a.1, .int .i64 a.2.1, kv] ∧ IntsIn w S kv a.2.2 ∧ a.2.2.length * 8 ≤ 140737488355328 ∧ (Lit.int .i64 a.1).wf = true ∧ (Lit.int .i64 a.2.1).wf = true ∧ ∀ z ∈ a.2.2, (Lit.int .i64 z).wf = true
set_option maxRecDepth 100000 in
theorem arg_plan {r : Reach} {b0 : Nat} {v : Value} {d : DataW H} {ps : List MemPlace} (hval : Value.okWide Try.prog w r b0 25 v) (hd : DataW.Trod enc Try.prog w base spare held 25 v d ps) (hw : ∀ n ∈ d.weights Try.prog 25, n ≤ reachBytes) :
    ∃ a, PlanV w (fun _ => True) v a := by
  obtain ⟨n, hn⟩ := hd
  have hv : ∃ cs, v = .agg cs := by
    unfold Value.okWide at hval
    rw [Try.underlying25] at hval
    obtain ⟨cs, e, _⟩ := hval
    exact ⟨cs, e⟩
  obtain ⟨cs, rfl⟩ := hv
  obtain ⟨ops, room, zs, kv, he, hk, hk8, wo, wr, wk⟩ := open_pl _ _ _ hn hw
  have he' : cs.toList = [.int .i64 ops, .int .i64 room, kv] := he
  obtain rfl : cs = #[.int .i64 ops, .int .i64 room, kv] := by cases cs; simp_all
  exact ⟨(ops, room, zs), kv, rfl, hk, hk8, wo, wr, wk⟩
end
end Go.Proofs.Ytcmjoaepihbodaa
end
section
namespace Go.Proofs.Ytcmjoaepihbodaa
open Go.RowKit Go.BigFrame
/-- a row of files in a block that may be written to; what the files hold lies in blocks of S. -/
def RowF (w : World) (base : Nat) (S : Nat → Prop) (v : Value) (fs : List Fl) : Prop := ∃ css, w.ownsRow base 37 3 v fs.length css.flatten ∧ All2 (flR w S) fs css
section
variable {w w' : World} {base : Nat} {S S' : Nat → Prop} {v : Value} {fs : List Fl}
theorem RowF.nil (w : World) (base : Nat) (S : Nat → Prop) : RowF w base S (.slice none 0 0) [] := ⟨[], World.ownsRow_nil _ _ _ _, .nil⟩
theorem RowF.form (h : RowF w base S v fs) : ∃ A c, v = .slice A fs.length c := by
  obtain ⟨css, h1, _⟩ := h
  exact own_form h1
theorem own_kept {e : TypeId} {size n : Nat} {xs : List Value} (h : w.ownsRow base e size v n xs) (hv : ∀ g, v.ownBlock = some g → w'.heap[g]? = w.heap[g]?) : w'.ownsRow base e size v n xs := by
  rcases h.2 with ⟨rfl, h0⟩ | ⟨g, cap, cur, rfl, hbg, hh, r⟩
  · exact ⟨h.1, .inl ⟨rfl, h0⟩⟩
  · exact ⟨h.1, .inr ⟨g, cap, cur, rfl, hbg, (hv g rfl).trans hh, r⟩⟩
theorem RowF.kept (h : RowF w base S v fs) (hz : w.heap.size ≤ w'.heap.size) (hv : ∀ g, v.ownBlock = some g → w'.heap[g]? = w.heap[g]?) (hk : ∀ i, i < w.heap.size → S i → w'.heap[i]? = w.heap[i]?) : RowF w' base S v fs := by
  obtain ⟨css, h1, h2⟩ := h
  exact ⟨css, own_kept h1 hv, h2.imp fun _ _ hx => flFine.keep hx fun _ _ _ _ hr => hr.keep hz hk⟩
theorem RowF.lt (h : RowF w base S v fs) {g : Nat} (hg : v.ownBlock = some g) : base ≤ g ∧ g < w.heap.size := by
  obtain ⟨css, h1, _⟩ := h
  exact h1.lt g hg
theorem RowF.blk (h : RowF w base S v fs) {g : Nat} (hg : v.ownBlock = some g) : ∃ cs : Array Value, w.heap[g]? = some (.cells cs 37 (0, 0)) := by
  obtain ⟨css, h1, _⟩ := h
  exact own_blk h1 hg
theorem RowF.mono (h : RowF w base S v fs) (hS : ∀ i, i < w.heap.size → S i → S' i) : RowF w base S' v fs := by
  obtain ⟨css, h1, h2⟩ := h
  exact ⟨css, h1, h2.imp fun _ _ hx => flFine.keep hx fun _ _ _ _ hr => hr.monoLt hS⟩
theorem RowF.rebase {base' : Nat} (h : RowF w base S v fs) (hb : ∀ g, v.ownBlock = some g → base' ≤ g) : RowF w base' S v fs := by
  obtain ⟨css, h1, h2⟩ := h
  refine ⟨css, ?_, h2⟩
  rcases h1.2 with ⟨rfl, h0⟩ | ⟨g, cap, cur, rfl, hbg, r⟩
  · exact ⟨h1.1, .inl ⟨rfl, h0⟩⟩
  · exact ⟨h1.1, .inr ⟨g, cap, cur, rfl, hb g rfl, r⟩⟩
theorem RowF.below (h : RowF w base S v fs) (hb : Below w.heap.size w w') : RowF w' base S v fs :=
  h.kept hb.size (fun g hg => hb.block g (h.lt hg).2) fun i hi _ => hb.block i hi
theorem RowF.of_own (h : OwnFiles w base v fs) : RowF w base (fun i => base ≤ i ∧ v.ownBlock ≠ some i ∧ Loose w i) v fs := h
theorem RowF.files (h : RowF w base S v fs) (hl : fs.length * 48 ≤ 140737488355328) : FilesV w (fun i => S i ∨ v.ownBlock = some i) v fs := by
  obtain ⟨css, h1, h2⟩ := h
  have h3 : All2 (flR w (fun i => S i ∨ v.ownBlock = some i)) fs css := h2.imp fun _ _ hx => flFine.keep hx fun _ _ _ _ hr => hr.mono fun i hi => .inl hi
  rcases h1.2 with ⟨rfl, h0⟩ | ⟨g, cap, cur, rfl, hbg, hh, hcap, hcm, _⟩
  · have : fs = [] := List.eq_nil_of_length_eq_zero h0
    subst this
    exact ⟨none, 0, css, rfl, Nat.le_refl _, by omega, by simp, ⟨h1.1, fun h => absurd h (by simp)⟩, h3⟩
  · have hlt : g < w.heap.size := (Array.getElem?_eq_some_iff.1 hh).1
    refine ⟨_, _, css, rfl, hcap, by unfold maxLen at hcm; omega, hl, ⟨h1.1, fun _ => ⟨g, 0, rfl, .inr rfl, hlt, fun j u hu => ?_⟩⟩, h3⟩
    have := h1.cells (g := g) rfl j u hu
    rwa [Addr.add_lit] at this
/-- one more at the end. -/
theorem RowF.push {wr w1 w2 : World} {v' : Value} {css : List (List Value)} {x : Fl} {cs : List Value} (hown : wr.ownsRow base 37 3 v fs.length css.flatten) (hys : All2 (flR wr S) fs css) (hb : Below wr.heap.size wr w1) (hx : flR w1 S x cs)
    (hg : w1.grownBy w2 v.ownBlock) (hS : ∀ i, S i → i < base) (hown' : w2.ownsRow base 37 3 v' (fs.length + 1) (css.flatten ++ cs)) : RowF w2 base S v' (fs ++ [x]) := by
  refine ⟨css ++ [cs], by rw [List.length_append, List.flatten_append]; simpa using hown', (hys.imp fun _ _ hy => flFine.keep hy fun A n sz ys hr => ?_).snoc (flFine.keep hx fun A n sz ys hr => ?_)⟩
  · exact (hr.below hb).keep hg.size fun i hi hs => hg.block i hi fun e => by have := hS i hs; have := (hown.lt i e.symm).1; omega
  · exact hr.keep hg.size fun i hi hs => hg.block i hi fun e => by have := hS i hs; have := (hown.lt i e.symm).1; omega
theorem flatten_set {css : List (List Value)} (h : ∀ cs ∈ css, cs.length = 3) {j t : Nat} {cs : List Value} (hj : css[j]? = some cs) (ht : t < 3) (u : Value) : css.flatten.set (j * 3 + t) u = (css.set j (cs.set t u)).flatten := by
  induction css generalizing j with
  | nil => simp at hj
  | cons a l ih =>
    have ha := h a List.mem_cons_self
    cases j with
    | zero =>
      simp at hj
      subst hj
      rw [Nat.zero_mul, Nat.zero_add, List.set_cons_zero, List.flatten_cons, List.flatten_cons, List.set_append_left _ _ (by omega)]
    | succ j =>
      rw [List.set_cons_succ, List.flatten_cons, List.flatten_cons, List.set_append_right _ _ (by rw [ha]; omega), ha, show (j + 1) * 3 + t - 3 = j * 3 + t by omega]
      rw [ih (fun cs hc => h cs (List.mem_cons_of_mem _ hc)) (by simpa using hj)]
theorem All2.set {α β : Type} {P : α → β → Prop} {l : List α} {m : List β} (hl : All2 P l m) (j : Nat) {a : α} {b : β} (h : P a b) : All2 P (l.set j a) (m.set j b) := by
  induction hl generalizing j with
  | nil => exact .nil
  | cons h1 h2 ih =>
    cases j with
    | zero => exact .cons h h2
    | succ j => exact .cons h1 (ih j)
theorem All2.lens {w : World} {S : Nat → Prop} {fs : List Fl} {css : List (List Value)} (h : All2 (flR w S) fs css) : ∀ cs ∈ css, cs.length = 3 := by
  induction h with
  | nil => simp
  | cons h1 _ ih =>
    intro cs hc
    rcases List.mem_cons.1 hc with rfl | hc
    · exact flFine.len h1
    · exact ih cs hc
/-- a store into one of the files. -/
theorem RowF.set {g n c j t : Nat} {f f' : Fl} {u : Value} (h : RowF w base S (.slice (some ⟨g, 0, none⟩) n c) fs) (hS : ∀ i, S i → i ≠ g) (hf : fs[j]? = some f) (ht : t < 3)
    (hR : ∀ cs, flR w S f cs → flR w S f' (cs.set t u)) : RowF (w.setCell ⟨g, j * 3 + t, none⟩ u) base S (.slice (some ⟨g, 0, none⟩) n c) (fs.set j f') := by
  obtain ⟨css, h1, h2⟩ := h
  obtain ⟨cs, hcs, hx⟩ := h2.at_ hf
  have hn : n = fs.length := by
    obtain ⟨A, c', e⟩ := own_form h1
    injection e
  subst hn
  have h3 := (h1.stored (j * 3 + t) u).1
  rw [flatten_set h2.lens hcs ht] at h3
  refine ⟨css.set j (cs.set t u), by rw [List.length_set]; exact h3, ((h2.set j (hR cs hx))).imp fun _ _ hy => flFine.keep hy fun _ _ _ _ hr => hr.keep (by simp [World.setCell]) fun i _ hs => heap_setCell_other w ⟨g, j * 3 + t, none⟩ i u (hS i hs)⟩
end
/-- ref07's disk: what it reads lies in blocks of D. -/
structure RefV (w : World) (base : Nat) (D : Nat → Prop) (r : Nat) (v kv : Value) (k : Pk) : Prop where
  head : w.heap[r]? = some (.cells #[v, .int .i64 k.ops, .int .i64 k.room, kv, .int .i64 k.done, .bool k.down] 49 (0, 0))
  row : RowF w base (fun i => D i ∧ i ≠ r ∧ v.ownBlock ≠ some i) v k.fs
  keep : IntsIn w (fun i => D i ∧ i ≠ r ∧ v.ownBlock ≠ some i) kv k.keep
  lo : base ≤ r
  inD : D r
  rowD : ∀ g, v.ownBlock = some g → D g
def RefP (w : World) (base : Nat) (D : Nat → Prop) (r : Nat) (k : Pk) : Prop := ∃ v kv, RefV w base D r v kv k
section
variable {w w' : World} {base r : Nat} {D D' : Nat → Prop} {v kv : Value} {k : Pk}
theorem RefV.ltR (h : RefV w base D r v kv k) : r < w.heap.size := (Array.getElem?_eq_some_iff.1 h.head).1
theorem RefV.ne (h : RefV w base D r v kv k) {g : Nat} (hg : v.ownBlock = some g) : g ≠ r := by
  rintro rfl
  obtain ⟨cs, hc⟩ := h.row.blk hg
  rw [h.head] at hc
  cases hc
theorem RefV.kept (h : RefV w base D r v kv k) (hz : w.heap.size ≤ w'.heap.size) (hk : ∀ i, i < w.heap.size → D i → w'.heap[i]? = w.heap[i]?) : RefV w' base D r v kv k :=
  ⟨(hk r h.ltR h.inD).trans h.head, h.row.kept hz (fun g hg => hk g (h.row.lt hg).2 (h.rowD g hg)) fun i hi hs => hk i hi hs.1, h.keep.keepR fun _ _ _ _ hr => hr.keep hz fun i hi hs => hk i hi hs.1, h.lo, h.inD, h.rowD⟩
theorem RefV.below (h : RefV w base D r v kv k) (hb : Below w.heap.size w w') : RefV w' base D r v kv k := h.kept hb.size fun i hi _ => hb.block i hi
theorem RefV.mono (h : RefV w base D r v kv k) (hD : ∀ i, i < w.heap.size → D i → D' i) : RefV w base D' r v kv k :=
  ⟨h.head, h.row.mono fun i hi hs => ⟨hD i hi hs.1, hs.2⟩, h.keep.keepR fun _ _ _ _ hr => hr.monoLt fun i hi hs => ⟨hD i hi hs.1, hs.2⟩, h.lo, hD r h.ltR h.inD, fun g hg => hD g (h.row.lt hg).2 (h.rowD g hg)⟩
theorem RefP.below (h : RefP w base D r k) (hb : Below w.heap.size w w') : RefP w' base D r k := by
  obtain ⟨v, kv, h⟩ := h
  exact ⟨v, kv, h.below hb⟩
theorem RefP.only {S : Nat → Prop} (h : RefP w base D r k) (ho : Only S w w') (hS : ∀ i, S i → ¬ D i) : RefP w' base D r k := by
  obtain ⟨v, kv, h⟩ := h
  exact ⟨v, kv, h.kept ho.size fun i hi hd => ho.block i hi fun hs => hS i hs hd⟩
theorem RefP.mono (h : RefP w base D r k) (hD : ∀ i, i < w.heap.size → D i → D' i) : RefP w base D' r k := by
  obtain ⟨v, kv, h⟩ := h
  exact ⟨v, kv, h.mono hD⟩
theorem RefV.cell (h : RefV w base D r v kv k) : w.cell? ⟨r, 0, none⟩ = some v ∧ w.cell? ⟨r, 1, none⟩ = some (.int .i64 k.ops) ∧ w.cell? ⟨r, 2, none⟩ = some (.int .i64 k.room) ∧ w.cell? ⟨r, 3, none⟩ = some kv ∧ w.cell? ⟨r, 4, none⟩ = some (.int .i64 k.done) ∧ w.cell? ⟨r, 5, none⟩ = some (.bool k.down) := by
  refine ⟨?_, ?_, ?_, ?_, ?_, ?_⟩ <;> (rw [cell_of_row w r _ _ _ _ h.head]; rfl)
theorem RefV.frozen (h : RefV w base D r v kv k) (i : Nat) : w.frozen? ⟨r, i, none⟩ = false := frozen_of_row w r i _ _ h.head
theorem RefV.files (h : RefV w base D r v kv k) (hl : k.fs.length * 48 ≤ 140737488355328) : FilesV w (fun i => D i ∧ i ≠ r) v k.fs :=
  (h.row.files hl).mono flFine fun i hi => hi.elim (fun h => ⟨h.1, h.2.1⟩) fun e => ⟨h.rowD i e, h.ne e⟩
/-- a store into the head. -/
theorem RefV.store {v' kv' : Value} {k' : Pk} {D0 : Nat → Prop} (h : RefV w base D0 r v kv k) (hDr : D r) (i : Nat) (u : Value) (hrow : RowF w base (fun i => D i ∧ i ≠ r ∧ v'.ownBlock ≠ some i) v' k'.fs) (hkeep : IntsIn w (fun i => D i ∧ i ≠ r ∧ v'.ownBlock ≠ some i) kv' k'.keep) (hD : ∀ g, v'.ownBlock = some g → D g)
    (hc : #[v', .int .i64 k'.ops, .int .i64 k'.room, kv', .int .i64 k'.done, .bool k'.down] = (#[v, .int .i64 k.ops, .int .i64 k.room, kv, .int .i64 k.done, .bool k.down] : Array Value).setIfInBounds i u) : RefV (w.setCell ⟨r, i, none⟩ u) base D r v' kv' k' := by
  have hne : ∀ j, j ≠ r → (w.setCell ⟨r, i, none⟩ u).heap[j]? = w.heap[j]? := fun j hj => heap_setCell_other w ⟨r, i, none⟩ j u hj
  have hz : w.heap.size ≤ (w.setCell ⟨r, i, none⟩ u).heap.size := by simp [World.setCell]
  refine ⟨?_, hrow.kept hz (fun g hg => hne g ?_) fun j _ hs => hne j hs.2.1, hkeep.keepR fun _ _ _ _ hr => hr.keep hz fun j _ hs => hne j hs.2.1, h.lo, hDr, hD⟩
  · rw [hc]
    exact heap_setCell_same w r i _ _ u h.head
  · rintro rfl
    obtain ⟨cs, hc⟩ := hrow.blk hg
    rw [h.head] at hc
    cases hc
/-- a store into one of the files. -/
theorem RefV.put {g n c j t : Nat} {f f' : Fl} {u : Value} (h : RefV w base D r (.slice (some ⟨g, 0, none⟩) n c) kv k) (hf : k.fs[j]? = some f) (ht : t < 3)
    (hR : ∀ cs, flR w (fun i => D i ∧ i ≠ r ∧ g ≠ i) f cs → flR w (fun i => D i ∧ i ≠ r ∧ g ≠ i) f' (cs.set t u)) : RefV (w.setCell ⟨g, j * 3 + t, none⟩ u) base D r (.slice (some ⟨g, 0, none⟩) n c) kv { k with fs := k.fs.set j f' } := by
  have hne : ∀ i, i ≠ g → (w.setCell ⟨g, j * 3 + t, none⟩ u).heap[i]? = w.heap[i]? := fun i hi => heap_setCell_other w ⟨g, j * 3 + t, none⟩ i u hi
  have hz : w.heap.size ≤ (w.setCell ⟨g, j * 3 + t, none⟩ u).heap.size := by simp [World.setCell]
  have hE : ∀ i, (D i ∧ i ≠ r ∧ g ≠ i) → (D i ∧ i ≠ r ∧ Value.ownBlock (.slice (some ⟨g, 0, none⟩) n c) ≠ some i) := fun i hi => ⟨hi.1, hi.2.1, fun e => hi.2.2 (Option.some.inj e)⟩
  have hE' : ∀ i, (D i ∧ i ≠ r ∧ Value.ownBlock (.slice (some ⟨g, 0, none⟩) n c) ≠ some i) → (D i ∧ i ≠ r ∧ g ≠ i) := fun i hi => ⟨hi.1, hi.2.1, fun e => hi.2.2 (by rw [e]; rfl)⟩
  refine ⟨(hne r fun e => h.ne (g := g) rfl e.symm).trans h.head, ?_, h.keep.keepR fun _ _ _ _ hr => hr.keep hz fun i _ hs => hne i fun e => (hE' i hs).2.2 e.symm, h.lo, h.inD, h.rowD⟩
  exact ((h.row.mono fun i _ hi => hE' i hi).set (fun i hi e => hi.2.2 e.symm) hf ht hR).mono fun i _ hi => hE i hi
/-- what a file's cells hold. -/
theorem RefV.file {j : Nat} {f : Fl} (h : RefV w base D r v kv k) (hl : k.fs.length * 48 ≤ 140737488355328) (hf : k.fs[j]? = some f) :
    ∃ g c A d, v = .slice (some ⟨g, 0, none⟩) k.fs.length c ∧ g < w.heap.size ∧ base ≤ g ∧ D g ∧ g ≠ r ∧ Byt w (fun i => D i ∧ i ≠ r ∧ g ≠ i) (.slice A f.data.length d) f.data ∧ f.name.length ≤ 140737488355328 ∧
      w.cell? ⟨g, j * 3, none⟩ = some (.string ⟨f.name.toArray⟩) ∧ w.cell? ⟨g, j * 3 + 1, none⟩ = some (.slice A f.data.length d) ∧ w.cell? ⟨g, j * 3 + 2, none⟩ = some (.int .i64 f.synced) ∧ ∀ i, w.frozen? ⟨g, i, none⟩ = false := by
  obtain ⟨css, h1, h2⟩ := h.row
  have hlt := (List.getElem?_eq_some_iff.1 hf).1
  obtain ⟨g, c, rfl, hb, hg, _, _⟩ := own_pos h1 (by omega)
  obtain ⟨cs, hcs, ⟨vd, rfl, hvd, hnl⟩⟩ := h2.at_ hf
  obtain ⟨A, d, rfl⟩ := slice_form hvd
  have hc : ∀ t u, [Value.string ⟨f.name.toArray⟩, .slice A f.data.length d, .int .i64 f.synced][t]? = some u → w.cell? ⟨g, j * 3 + t, none⟩ = some u := fun t u hu => by
    have := h1.cells (g := g) rfl _ _ (flat_at h2.lens hcs hu)
    rwa [Addr.add_lit, Nat.zero_add] at this
  exact ⟨g, c, A, d, rfl, hg, hb, h.rowD g rfl, h.ne rfl, hvd.mono fun i hi => ⟨hi.1, hi.2.1, fun e => hi.2.2 (by rw [e]; rfl)⟩, hnl, hc 0 _ rfl, hc 1 _ rfl, hc 2 _ rfl, fun i => h1.frozenAt i⟩
end
end Go.Proofs.Ytcmjoaepihbodaa
end
