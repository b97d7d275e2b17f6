/-
The arguments opened: slices of structs, with what the bound of the second form gives.
-/
import Derived.Test.YtcmjoaepihbodaaRows
import Derived.Test.YtcmjoaepihbodaaDkF
import Derived.Test.YtcmjoaepihbodaaOpn
import Derived.Deep.Strs
namespace Go.Proofs.Ytcmjoaepihbodaa
open Go.RowKit Go.ChangeShapes Go.WideShapes Go.Deep

theorem bulk_one {H : Type} (d : DataW H) : 1 ≤ Rows.uptoBulk d := by
  cases d with
  | lit l => cases l <;> simp [Rows.uptoBulk]
  | nil => simp [Rows.uptoBulk]
  | ptr d => simp [Rows.uptoBulk]
  | slice elems spare => simp [Rows.uptoBulk]
  | agg parts => simp [Rows.uptoBulk]
  | iface t d => simp [Rows.uptoBulk]
  | map entries => simp [Rows.uptoBulk]
  | held h => simp [Rows.uptoBulk]
theorem bulk_all {H : Type} (l : List (DataW H)) : Rows.uptoBulkAll l = (l.map Rows.uptoBulk).sum := by
  induction l with
  | nil => rfl
  | cons x r ih => simp only [Rows.uptoBulkAll, List.map_cons, List.sum_cons, ih]
theorem bulk_len {H : Type} (l : List (DataW H)) : l.length ≤ Rows.uptoBulkAll l := by
  induction l with
  | nil => simp [Rows.uptoBulkAll]
  | cons x r ih => have := bulk_one x; simp only [Rows.uptoBulkAll, List.length_cons]; omega
section
variable {H : Type} {P : Program} {enc : TypeId × Value → H} {w : World} {base : Nat} {held : Bool} {spare : Nat → Bool}
theorem trod_struct5 {t : TypeId} {f0 f1 f2 f3 f4 : Field} {fuel : Nat} {cs : List Value} {x : DataW H × List MemPlace} (ht : P.underlying t = some (.struct #[f0, f1, f2, f3, f4])) (h : DataW.trod enc P w base spare held fuel t cs = some x) :
    ∃ y0 y1 y2 y3 y4 n, x = (.agg [y0.1, y1.1, y2.1, y3.1, y4.1], y0.2 ++ (y1.2 ++ (y2.2 ++ (y3.2 ++ y4.2)))) ∧ cs.length = P.cellsOf t ∧ DataW.trod enc P w base spare held n f0.type ((cs.drop f0.offset).take (P.cellsOf f0.type)) = some y0 ∧
      DataW.trod enc P w base spare held n f1.type ((cs.drop f1.offset).take (P.cellsOf f1.type)) = some y1 ∧ DataW.trod enc P w base spare held n f2.type ((cs.drop f2.offset).take (P.cellsOf f2.type)) = some y2 ∧
      DataW.trod enc P w base spare held n f3.type ((cs.drop f3.offset).take (P.cellsOf f3.type)) = some y3 ∧ DataW.trod enc P w base spare held n f4.type ((cs.drop f4.offset).take (P.cellsOf f4.type)) = some y4 := by
  obtain ⟨xs, n, _, rfl, hl, hlen, hf⟩ := DataW.trod_struct ht h
  match xs, hlen with
  | [y0, y1, y2, y3, y4], _ => exact ⟨y0, y1, y2, y3, y4, n, by simp, hl, by simpa using hf 0 f0 rfl, by simpa using hf 1 f1 rfl, by simpa using hf 2 f2 rfl, by simpa using hf 3 f3 rfl, by simpa using hf 4 f4 rfl⟩
end
section
variable {H : Type} {enc : TypeId × Value → H} {w : World} {base : Nat} {held : Bool} {spare : Nat → Bool}
theorem bulk_slice {t e : TypeId} (ht : Try.prog.underlying t = some (.slice e)) {fuel n c : Nat} {A : Option Addr} {x : DataW H × List MemPlace} (h : DataW.trod enc Try.prog w base spare held fuel t [.slice A n c] = some x) : n ≤ Rows.uptoBulk x.1 := by
  rcases open_slice ht h with ⟨hv, _⟩ | ⟨a, len, cap, m, n', D, Pl, hv, _, _, _, _, hx, _⟩
  · simp only [List.cons.injEq, Value.slice.injEq, and_true] at hv
    omega
  · simp only [List.cons.injEq, Value.slice.injEq, and_true] at hv
    obtain ⟨_, rfl, _⟩ := hv
    subst hx
    have := bulk_len ((List.range n).map D)
    simp only [List.length_map, List.length_range] at this
    simp only [Rows.uptoBulk]
    omega
set_option maxRecDepth 100000 in
theorem open_rows {α : Type} [Inhabited α] {R : Rd α} {k bytes : Nat} (hk0 : 0 < k) {t e : TypeId} (ht : Try.prog.underlying t = some (.slice e)) (hk : Try.prog.cellsOf e = k) (hby : Try.prog.bytesOf e = bytes) (m : α → Nat)
    (hel : ∀ (fuel : Nat) (cs : List Value) (x : DataW H × List MemPlace), DataW.trod enc Try.prog w base spare held fuel e cs = some x → (∀ n ∈ x.1.weights Try.prog e, n ≤ reachBytes) → ∃ a : α, R w (fun _ => True) a cs ∧ m a ≤ Rows.uptoBulk x.1)
    {fuel : Nat} {v : Value} {x : DataW H × List MemPlace} (h : DataW.trod enc Try.prog w base spare held fuel t [v] = some x) (hw : ∀ n ∈ x.1.weights Try.prog t, n ≤ reachBytes) :
    ∃ xs, Rows R k bytes w (fun _ => True) v xs ∧ (xs.map m).sum ≤ Rows.uptoBulk x.1 := by
  rcases open_slice ht h with ⟨hv, hx⟩ | ⟨a, len, cap, mm, n, D, Pl, hv, _, hl, hm, hmm, hx, hc⟩
  · obtain rfl : v = .slice none 0 0 := by simpa using hv
    exact ⟨[], ⟨none, 0, [], rfl, Nat.le_refl _, by omega, by simp, ⟨by simp, fun h => by simp at h⟩, .nil⟩, by simp⟩
  · obtain rfl : v = .slice (some a) len cap := by simpa using hv
    have hlm : len ≤ mm := by rw [hmm]; split <;> omega
    subst hx
    simp only [DataW.weights, ht, List.mem_cons, List.mem_append] at hw
    have hr := hw _ (.inl rfl)
    rw [hby] at hr
    simp only [List.length_map, List.length_range, reachBytes] at hr
    unfold maxLen at hm
    rw [hk] at hc
    have key : ∀ q, q ≤ len → ∃ (css : List (List Value)) (xs : List α), xs.length = q ∧ css.flatten.length = q * k ∧ All2 (R w fun _ => True) xs css ∧ (xs.map m).sum ≤ Rows.uptoBulkAll ((List.range q).map D) ∧ ∀ j u, css.flatten[j]? = some u → w.cell? (a.add j) = some u := by
      intro q
      induction q with
      | zero => exact fun _ => ⟨[], [], rfl, by simp, .nil, by simp, fun j u hu => by simp at hu⟩
      | succ q ih =>
        intro hq
        obtain ⟨css, xs, hxl, hfl, hall, hsum, hcc⟩ := ih (by omega)
        obtain ⟨cs', h1, h2⟩ := hc q (by omega)
        obtain ⟨y, hy, hym⟩ := hel _ _ _ h2 (fun n hn => hw n (.inr (.inl (weightsAll_mem (List.mem_map.2 ⟨q, List.mem_range.2 (by omega), rfl⟩) n hn))))
        obtain ⟨_, hl4, h4⟩ := World.cells?_some h1
        refine ⟨css ++ [cs'], xs ++ [y], by simp [hxl], by simp [hfl, hl4, Nat.succ_mul], hall.snoc hy, ?_, fun j u hu => ?_⟩
        · rw [bulk_all] at hsum ⊢
          rw [List.range_succ]
          simp only [List.map_append, List.sum_append, List.map_cons, List.map_nil, List.sum_cons, List.sum_nil]
          simp only [Nat.add_zero]
          exact Nat.add_le_add hsum hym
        · rw [List.flatten_append, List.getElem?_append] at hu
          split at hu
          · exact hcc j u hu
          · rename_i hj
            simp only [List.flatten_cons, List.flatten_nil, List.append_nil] at hu
            have hj : j - css.flatten.length < k := by rw [← hl4]; exact (List.getElem?_eq_some_iff.1 hu).1
            have h5 := h4 _ hj
            rw [hu] at h5
            have h6 := h4 0 (by omega)
            have hsp : a.add (q * k) = ⟨a.block, a.off + q * k, none⟩ := by
              have h7 := cell_spot (w := w) (a := (a.add (q * k))) (v := cs'[0]) (by
                rw [show (a.add (q * k)).add 0 = a.add (q * k) by simp [Addr.add]] at h6
                rw [h6, List.getElem?_eq_getElem (by omega)])
              rw [h7, add_block, add_off]
            rw [hsp, Addr.add_lit] at h5
            unfold Addr.add
            by_cases hj0 : j = 0
            · rw [if_pos hj0]
              subst hj0
              have hk0 : q * k = 0 := by omega
              have : a = ⟨a.block, a.off, none⟩ := by rw [hk0] at hsp; simpa [Addr.add] using hsp
              rw [this]
              rw [hk0] at h5
              simpa using h5
            · rw [if_neg hj0, ← h5]
              congr 2
              omega
    obtain ⟨css, xs, hxl, hfl, hall, hsum, hcc⟩ := key len (Nat.le_refl _)
    refine ⟨xs, ⟨some a, cap, css, by rw [hxl], by omega, by omega, ?_, ?_, hall⟩, ?_⟩
    · rw [hxl]
      have : len * bytes ≤ (len + (mm - len)) * bytes := Nat.mul_le_mul_right _ (by omega)
      omega
    · rw [hxl]
      refine ⟨hfl, fun h0 => ?_⟩
      have hpos : 0 < len * k := Nat.mul_pos h0 hk0
      obtain ⟨u0, hu0⟩ : ∃ u, css.flatten[0]? = some u := ⟨_, List.getElem?_eq_getElem (by omega)⟩
      have hs := hcc 0 u0 hu0
      have hsp : a = ⟨a.block, a.off, none⟩ := cell_spot (a := a) (by simpa [Addr.add] using hs)
      refine ⟨a.block, a.off, by rw [← hsp], trivial, ?_, fun j u hu => ?_⟩
      · have := World.block_lt_of_cell? w _ hs
        simpa [Addr.add] using this
      · have := hcc j u hu
        rwa [hsp, Addr.add_lit] at this
    · simp only [Rows.uptoBulk]
      omega
end
end Go.Proofs.Ytcmjoaepihbodaa
