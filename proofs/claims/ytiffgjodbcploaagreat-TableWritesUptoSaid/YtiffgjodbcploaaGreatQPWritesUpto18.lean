/-
law TableWrites.
-/
import Derived.Test.YtiffgjodbcploaaGreatQPWritesUpto5
import Derived.Deep.Slices
import Derived.Lib.SmallJoins
import Derived.OpenShut
import Derived.SizedLaws
import Derived.Test.YtiffgjodbcploaaGreatRows
import Derived.Test.YtiffgjodbcploaaGreatQPWritesUpto6
import Derived.Test.YtiffgjodbcploaaGreatQPWritesUpto11
import Derived.Test.YtiffgjodbcploaaGreatQPWritesUpto16
import Derived.Test.YtiffgjodbcploaaGreatQPWritesUpto17
section
namespace Go.Proofs.YtiffgjodbcploaaGreat
set_option maxRecDepth 100000
open Go.RowKit Go.ChangeShapes Go.WideShapes Go.Deep
theorem cells_u8 : Tryz.prog.cellsOf 5 = 1 := by kernel_rfl
theorem cells_bs : Tryz.prog.cellsOf 42 = 1 := by kernel_rfl
theorem cells_i : Tryz.prog.cellsOf 3 = 1 := by kernel_rfl
theorem cells_b : Tryz.prog.cellsOf 4 = 1 := by kernel_rfl
theorem cells_e : Tryz.prog.cellsOf 48 = 4 := by kernel_rfl
theorem cells_es : Tryz.prog.cellsOf 22 = 1 := by kernel_rfl
theorem bytes_u8 : Tryz.prog.bytesOf 5 = 1 := by kernel_rfl
theorem bytes_e : Tryz.prog.bytesOf 48 = 64 := by kernel_rfl
theorem bytes_es : Tryz.prog.bytesOf 22 = 24 := by kernel_rfl
theorem cell_spot {w : World} {a : Addr} {v : Value} (h : w.cell? a = some v) : a = ⟨a.block, a.off, none⟩ := by
  obtain ⟨b, o, s⟩ := a
  cases s with
  | none => rfl
  | some s =>
    unfold World.cell? at h
    split at h <;> simp at h
theorem add_block (a : Addr) (n : Nat) : (a.add n).block = a.block := by unfold Addr.add; split <;> rfl
theorem add_off (a : Addr) (n : Nat) : (a.add n).off = a.off + n := by
  unfold Addr.add
  split
  · rename_i h; rw [h]; rfl
  · rfl
theorem weightsAll_mem {H : Type} {P : Program} {e : TypeId} : ∀ {l : List (DataW H)} {d : DataW H}, d ∈ l → ∀ n ∈ d.weights P e, n ∈ DataW.weightsAll P e l
  | d' :: r, d, hd, n, hn => by
    simp only [DataW.weightsAll, List.mem_append]
    rcases List.mem_cons.1 hd with rfl | h
    · exact Or.inl hn
    · exact Or.inr (weightsAll_mem h n hn)
section
variable {H : Type} {enc : TypeId × Value → H} {w : World} {base : Nat} {held : Bool} {spare : Nat → Bool}
set_option maxRecDepth 10000 in
theorem open_byt {fuel : Nat} {v : Value} {x : DataW H × List MemPlace} (h : DataW.trod enc Tryz.prog w base spare held fuel 42 [v] = some x) (hw : ∀ n ∈ x.1.weights Tryz.prog 42, n ≤ reachBytes) :
    ∃ bs, Byt w (fun _ => True) v bs := by
  rcases open_ints Tryz.underlying42 Tryz.underlying5 cells_u8 h with ⟨hv, _⟩ | ⟨a, len, cap, zs, hv, _, hl, hm, hz, hx, hc, hwf⟩
  · obtain rfl : v = .slice none 0 0 := by simpa using hv
    exact ⟨[], Byt.nil _ _⟩
  · obtain rfl : v = .slice (some a) len cap := by simpa using hv
    have hlen : len ≤ zs.length := by rw [hz]; split <;> omega
    subst hx
    have hr := hw _ (by simp only [DataW.weights, Tryz.underlying42]; exact List.mem_cons_self)
    rw [bytes_u8] at hr
    simp only [lits, List.length_map, List.length_take, List.length_drop, reachBytes] at hr
    have e1 : ((zs.take len).map fun z => UInt8.ofNat z.toNat).length = len := by simp; omega
    unfold maxLen at hm
    refine ⟨(zs.take len).map fun z => UInt8.ofNat z.toNat, some a, cap, by rw [e1], by omega, by omega, by omega, ?_⟩
    rw [e1]
    refine ⟨by simp; omega, fun h0 => ?_⟩
    have hs := hc 0 (by omega)
    have hsp : a = ⟨a.block, a.off, none⟩ := cell_spot (a := a) (by simpa [Addr.add] using hs)
    refine ⟨a.block, a.off, by rw [← hsp], trivial, ?_, fun j u hu => ?_⟩
    · have := World.block_lt_of_cell? w _ hs
      simpa [Addr.add] using this
    · rw [List.getElem?_map, List.getElem?_map, List.getElem?_take] at hu
      split at hu
      · rename_i hj
        have hcj := hc j (by omega)
        rw [hsp, Addr.add_lit] at hcj
        rw [hcj]
        obtain ⟨z, hzj⟩ : ∃ z, zs[j]? = some z := ⟨_, List.getElem?_eq_getElem (by omega)⟩
        have hb := bounds_u8 (hwf z (List.mem_of_getElem? hzj))
        rw [hzj] at hu
        simp only [Option.map_some, Option.some.injEq] at hu
        rw [← hu, List.getD_eq_getElem?_getD, hzj]
        unfold bcell
        simp
        omega
      · simp at hu
set_option maxRecDepth 10000 in
theorem open_ent {fuel : Nat} {cs : List Value} {x : DataW H × List MemPlace} (h : DataW.trod enc Tryz.prog w base spare held fuel 48 cs = some x) (hw : ∀ n ∈ x.1.weights Tryz.prog 48, n ≤ reachBytes) :
    ∃ e : Ent, EntCells w (fun _ => True) cs [e] := by
  obtain ⟨y0, y1, y2, y3, n, rfl, hl, h0, h1, h2, h3⟩ := Joins.trod_struct4 Tryz.underlying48 h
  rw [cells_e] at hl
  match cs, hl with
  | [c0, c1, c2, c3], _ =>
    simp only [cells_bs, cells_i, cells_b, List.drop_zero, List.drop_succ_cons, List.take_succ_cons, List.take_zero] at h0 h1 h2 h3
    simp only [DataW.weights, Tryz.underlying48, List.map_cons, List.map_nil, DataW.weightsEach, List.append_nil, List.mem_append] at hw
    obtain ⟨k, hk⟩ := open_byt h0 (fun n hn => hw n (.inl hn))
    obtain ⟨u, hu⟩ := open_byt h3 (fun n hn => hw n (.inr (.inr (.inr hn))))
    obtain ⟨s, hs, _, _⟩ := DataW.trod_int Tryz.underlying3 h1
    obtain ⟨d, hd, _⟩ := DataW.trod_bool Tryz.underlying4 h2
    exact ⟨⟨k, s, d, u⟩, by simpa using hs, by simpa using hd, hk, hu, trivial⟩
def entsLen : DataW H → Nat
  | .slice elems _ => elems.length
  | _ => 0
def listsLen : DataW H → Nat
  | .slice elems _ => (elems.map entsLen).sum
  | _ => 0
set_option maxRecDepth 10000 in
theorem open_entries {fuel : Nat} {v : Value} {x : DataW H × List MemPlace} (h : DataW.trod enc Tryz.prog w base spare held fuel 22 [v] = some x) (hw : ∀ n ∈ x.1.weights Tryz.prog 22, n ≤ reachBytes) :
    ∃ es, Ents w (fun _ => True) v es ∧ es.length = entsLen x.1 := by
  rcases open_slice Tryz.underlying22 h with ⟨hv, hx⟩ | ⟨a, len, cap, m, n, D, Pl, hv, _, hl, hm, hmm, hx, hc⟩
  · obtain rfl : v = .slice none 0 0 := by simpa using hv
    exact ⟨[], Ents.nil _ _, by rw [hx]; rfl⟩
  · obtain rfl : v = .slice (some a) len cap := by simpa using hv
    have hlm : len ≤ m := by rw [hmm]; split <;> omega
    subst hx
    simp only [DataW.weights, Tryz.underlying22, List.mem_cons, List.mem_append] at hw
    have hr := hw _ (.inl rfl)
    rw [bytes_e] at hr
    simp only [List.length_map, List.length_range, reachBytes] at hr
    unfold maxLen at hm
    rw [cells_e] at hc
    have key : ∀ k, k ≤ len → ∃ (cs : List Value) (es : List Ent), es.length = k ∧ EntCells w (fun _ => True) cs es ∧ ∀ j u, cs[j]? = some u → w.cell? (a.add j) = some u := by
      intro k
      induction k with
      | zero => exact fun _ => ⟨[], [], rfl, trivial, fun j u hu => by simp at hu⟩
      | succ k ih =>
        intro hk
        obtain ⟨cs, es, hel, hce, hcc⟩ := ih (by omega)
        obtain ⟨cs', h1, h2⟩ := hc k (by omega)
        obtain ⟨e, he⟩ := open_ent h2 (fun n hn => hw n (.inr (.inl (weightsAll_mem (List.mem_map.2 ⟨k, List.mem_range.2 (by omega), rfl⟩) n hn))))
        obtain ⟨_, hl4, h4⟩ := World.cells?_some h1
        have hcl := hce.len
        refine ⟨cs ++ cs', es ++ [e], by simp [hel], hce.append he, fun j u hu => ?_⟩
        rw [List.getElem?_append] at hu
        split at hu
        · exact hcc j u hu
        · have hj : j - cs.length < 4 := by rw [← hl4]; exact (List.getElem?_eq_some_iff.1 hu).1
          have h5 := h4 _ hj
          rw [hu] at h5
          have h6 := h4 0 (by omega)
          have hsp : a.add (k * 4) = ⟨a.block, a.off + k * 4, none⟩ := by
            have h7 := cell_spot (w := w) (a := (a.add (k * 4))) (v := cs'[0]) (by
              rw [show (a.add (k * 4)).add 0 = a.add (k * 4) by simp [Addr.add]] at h6
              rw [h6, List.getElem?_eq_getElem (by omega)])
            rw [h7, add_block, add_off]
          rw [hsp, Addr.add_lit] at h5
          unfold Addr.add
          by_cases hj0 : j = 0
          · rw [if_pos hj0]
            subst hj0
            have hk0 : k = 0 := by omega
            subst hk0
            have : a = ⟨a.block, a.off, none⟩ := by simpa [Addr.add] using hsp
            rw [this]
            simpa using h5
          · rw [if_neg hj0, ← h5]
            congr 2
            omega
    obtain ⟨cs, es, hel, hce, hcc⟩ := key len (Nat.le_refl _)
    have hcl := hce.len
    refine ⟨es, ⟨some a, cap, cs, by rw [hel], by omega, by omega, by omega, ?_, hce⟩, by simp [entsLen, hel]⟩
    rw [hel]
    refine ⟨by omega, fun h0 => ?_⟩
    obtain ⟨u0, hu0⟩ : ∃ u, cs[0]? = some u := ⟨_, List.getElem?_eq_getElem (by omega)⟩
    have hs := hcc 0 u0 hu0
    have hsp : a = ⟨a.block, a.off, none⟩ := cell_spot (a := a) (by simpa [Addr.add] using hs)
    refine ⟨a.block, a.off, by rw [← hsp], trivial, ?_, fun j u hu => ?_⟩
    · have := World.block_lt_of_cell? w _ hs
      simpa [Addr.add] using this
    · have := hcc j u hu
      rwa [hsp, Addr.add_lit] at this
set_option maxRecDepth 10000 in
/-- an argument that is a slice: its reading at its own value. -/
theorem arg_slice {r : Reach} {b0 : Nat} {t e : TypeId} {v : Value} {d : DataW H} {ps : List MemPlace} (ht : Tryz.prog.underlying t = some (.slice e)) (hval : Value.okWide Tryz.prog w r b0 t v) (hd : DataW.Trod enc Tryz.prog w base spare held t v d ps) :
    ∃ fuel, DataW.trod enc Tryz.prog w base spare held fuel t [v] = some (d, ps) := by
  obtain ⟨a, l, c, rfl⟩ := okWide_slice ht hval
  obtain ⟨n, hn⟩ := hd
  exact ⟨n, hn⟩
set_option maxRecDepth 10000 in
theorem arg_entries {r : Reach} {b0 : Nat} {v : Value} {d : DataW H} {ps : List MemPlace} (hval : Value.okWide Tryz.prog w r b0 22 v) (hd : DataW.Trod enc Tryz.prog w base spare held 22 v d ps) (hw : ∀ n ∈ d.weights Tryz.prog 22, n ≤ reachBytes) :
    ∃ es, Ents w (fun _ => True) v es := by
  obtain ⟨n, hn⟩ := arg_slice Tryz.underlying22 hval hd
  obtain ⟨es, he, _⟩ := open_entries hn hw
  exact ⟨es, he⟩
set_option maxRecDepth 10000 in
theorem arg_bytes {r : Reach} {b0 : Nat} {v : Value} {d : DataW H} {ps : List MemPlace} (hval : Value.okWide Tryz.prog w r b0 42 v) (hd : DataW.Trod enc Tryz.prog w base spare held 42 v d ps) (hw : ∀ n ∈ d.weights Tryz.prog 42, n ≤ reachBytes) :
    ∃ bs, Byt w (fun _ => True) v bs := by
  obtain ⟨n, hn⟩ := arg_slice Tryz.underlying42 hval hd
  exact open_byt hn hw
end
end Go.Proofs.YtiffgjodbcploaaGreat
end
section
namespace Go.Proofs.YtiffgjodbcploaaGreat
set_option maxRecDepth 100000
open Go.RowKit Go.ChangeShapes Go.WideShapes Go.Deep
section
variable {H : Type} {enc : TypeId × Value → H} {w : World} {base : Nat} {held : Bool} {spare : Nat → Bool}
theorem bulk_one (d : DataW H) : 1 ≤ Rows.uptoBulk d := by
  cases d with
  | lit l => cases l <;> simp [Rows.uptoBulk]
  | nil => simp [Rows.uptoBulk]
  | ptr d => simp [Rows.uptoBulk]
  | slice elems spare => simp [Rows.uptoBulk]
  | agg parts => simp [Rows.uptoBulk]
  | iface t d => simp [Rows.uptoBulk]
  | map entries => simp [Rows.uptoBulk]
  | held h => simp [Rows.uptoBulk]
theorem bulk_len (l : List (DataW H)) : l.length ≤ Rows.uptoBulkAll l := by
  induction l with
  | nil => simp [Rows.uptoBulkAll]
  | cons x r ih => have := bulk_one x; simp only [Rows.uptoBulkAll, List.length_cons]; omega
theorem bulk_app (l m : List (DataW H)) : Rows.uptoBulkAll (l ++ m) = Rows.uptoBulkAll l + Rows.uptoBulkAll m := by
  induction l with
  | nil => simp [Rows.uptoBulkAll]
  | cons x r ih => simp only [List.cons_append, Rows.uptoBulkAll, ih]; omega
theorem bytesE_app (l m : List Ent) : bytesE (l ++ m) = bytesE l + bytesE m := by simp [bytesE]
set_option maxRecDepth 10000 in
theorem open_bytU {fuel : Nat} {v : Value} {x : DataW H × List MemPlace} (h : DataW.trod enc Tryz.prog w base spare held fuel 42 [v] = some x) (hw : ∀ n ∈ x.1.weights Tryz.prog 42, n ≤ reachBytes) :
    ∃ bs, Byt w (fun _ => True) v bs ∧ bs.length ≤ Rows.uptoBulk x.1 := by
  rcases open_ints Tryz.underlying42 Tryz.underlying5 cells_u8 h with ⟨hv, _⟩ | ⟨a, len, cap, zs, hv, _, hl, hm, hz, hx, hc, hwf⟩
  · obtain rfl : v = .slice none 0 0 := by simpa using hv
    exact ⟨[], Byt.nil _ _, by simp⟩
  · obtain rfl : v = .slice (some a) len cap := by simpa using hv
    have hlen : len ≤ zs.length := by rw [hz]; split <;> omega
    subst hx
    have hr := hw _ (by simp only [DataW.weights, Tryz.underlying42]; exact List.mem_cons_self)
    rw [bytes_u8] at hr
    simp only [lits, List.length_map, List.length_take, List.length_drop, reachBytes] at hr
    have e1 : ((zs.take len).map fun z => UInt8.ofNat z.toNat).length = len := by simp; omega
    unfold maxLen at hm
    have e2 : ((zs.take len).map fun z => UInt8.ofNat z.toNat).length ≤ Rows.uptoBulk (H := H) (.slice (lits .u8 (zs.take len)) (lits .u8 (zs.drop len))) := by
      have := bulk_len (H := H) (lits .u8 (zs.take len))
      simp only [Rows.uptoBulk]
      simp only [lits, List.length_map] at this ⊢
      omega
    refine ⟨(zs.take len).map fun z => UInt8.ofNat z.toNat, ⟨some a, cap, by rw [e1], by omega, by omega, by omega, ?_⟩, e2⟩
    rw [e1]
    refine ⟨by simp; omega, fun h0 => ?_⟩
    have hs := hc 0 (by omega)
    have hsp : a = ⟨a.block, a.off, none⟩ := cell_spot (a := a) (by simpa [Addr.add] using hs)
    refine ⟨a.block, a.off, by rw [← hsp], trivial, ?_, fun j u hu => ?_⟩
    · have := World.block_lt_of_cell? w _ hs
      simpa [Addr.add] using this
    · rw [List.getElem?_map, List.getElem?_map, List.getElem?_take] at hu
      split at hu
      · rename_i hj
        have hcj := hc j (by omega)
        rw [hsp, Addr.add_lit] at hcj
        rw [hcj]
        obtain ⟨z, hzj⟩ : ∃ z, zs[j]? = some z := ⟨_, List.getElem?_eq_getElem (by omega)⟩
        have hb := bounds_u8 (hwf z (List.mem_of_getElem? hzj))
        rw [hzj] at hu
        simp only [Option.map_some, Option.some.injEq] at hu
        rw [← hu, List.getD_eq_getElem?_getD, hzj]
        unfold bcell
        simp
        omega
      · simp at hu
set_option maxRecDepth 10000 in
theorem open_entU {fuel : Nat} {cs : List Value} {x : DataW H × List MemPlace} (h : DataW.trod enc Tryz.prog w base spare held fuel 48 cs = some x) (hw : ∀ n ∈ x.1.weights Tryz.prog 48, n ≤ reachBytes) :
    ∃ e : Ent, EntCells w (fun _ => True) cs [e] ∧ e.key.length + e.val.length ≤ Rows.uptoBulk x.1 := by
  obtain ⟨y0, y1, y2, y3, n, rfl, hl, h0, h1, h2, h3⟩ := Joins.trod_struct4 Tryz.underlying48 h
  rw [cells_e] at hl
  match cs, hl with
  | [c0, c1, c2, c3], _ =>
    simp only [cells_bs, cells_i, cells_b, List.drop_zero, List.drop_succ_cons, List.take_succ_cons, List.take_zero] at h0 h1 h2 h3
    simp only [DataW.weights, Tryz.underlying48, List.map_cons, List.map_nil, DataW.weightsEach, List.append_nil, List.mem_append] at hw
    obtain ⟨k, hk, hkl⟩ := open_bytU h0 (fun n hn => hw n (.inl hn))
    obtain ⟨u, hu, hul⟩ := open_bytU h3 (fun n hn => hw n (.inr (.inr (.inr hn))))
    obtain ⟨s, hs, _, _⟩ := DataW.trod_int Tryz.underlying3 h1
    obtain ⟨d, hd, _⟩ := DataW.trod_bool Tryz.underlying4 h2
    exact ⟨⟨k, s, d, u⟩, ⟨by simpa using hs, by simpa using hd, hk, hu, trivial⟩, by simp only [Rows.uptoBulk, Rows.uptoBulkAll]; omega⟩
set_option maxRecDepth 10000 in
theorem open_entriesU {fuel : Nat} {v : Value} {x : DataW H × List MemPlace} (h : DataW.trod enc Tryz.prog w base spare held fuel 22 [v] = some x) (hw : ∀ n ∈ x.1.weights Tryz.prog 22, n ≤ reachBytes) :
    ∃ es, Ents w (fun _ => True) v es ∧ es.length ≤ Rows.uptoBulk x.1 ∧ bytesE es ≤ Rows.uptoBulk x.1 := by
  rcases open_slice Tryz.underlying22 h with ⟨hv, hx⟩ | ⟨a, len, cap, m, n, D, Pl, hv, _, hl, hm, hmm, hx, hc⟩
  · obtain rfl : v = .slice none 0 0 := by simpa using hv
    exact ⟨[], Ents.nil _ _, by simp, by simp [bytesE]⟩
  · obtain rfl : v = .slice (some a) len cap := by simpa using hv
    have hlm : len ≤ m := by rw [hmm]; split <;> omega
    subst hx
    simp only [DataW.weights, Tryz.underlying22, List.mem_cons, List.mem_append] at hw
    have hr := hw _ (.inl rfl)
    rw [bytes_e] at hr
    simp only [List.length_map, List.length_range, reachBytes] at hr
    unfold maxLen at hm
    rw [cells_e] at hc
    have key : ∀ k, k ≤ len → ∃ (cs : List Value) (es : List Ent), es.length = k ∧ bytesE es ≤ Rows.uptoBulkAll ((List.range k).map D) ∧ EntCells w (fun _ => True) cs es ∧ ∀ j u, cs[j]? = some u → w.cell? (a.add j) = some u := by
      intro k
      induction k with
      | zero => exact fun _ => ⟨[], [], rfl, by simp [bytesE], trivial, fun j u hu => by simp at hu⟩
      | succ k ih =>
        intro hk
        obtain ⟨cs, es, hel, hbe, hce, hcc⟩ := ih (by omega)
        obtain ⟨cs', h1, h2⟩ := hc k (by omega)
        obtain ⟨e, he, heb⟩ := open_entU h2 (fun n hn => hw n (.inr (.inl (weightsAll_mem (List.mem_map.2 ⟨k, List.mem_range.2 (by omega), rfl⟩) n hn))))
        obtain ⟨_, hl4, h4⟩ := World.cells?_some h1
        have hcl := hce.len
        have hbs : bytesE (es ++ [e]) ≤ Rows.uptoBulkAll ((List.range (k + 1)).map D) := by
          rw [List.range_succ, List.map_append, bulk_app, bytesE_app]
          simp only [List.map_cons, List.map_nil, Rows.uptoBulkAll, bytesE, List.sum_cons, List.sum_nil]
          simp only at heb
          simp only [bytesE] at hbe
          omega
        refine ⟨cs ++ cs', es ++ [e], by simp [hel], hbs, hce.append he, fun j u hu => ?_⟩
        rw [List.getElem?_append] at hu
        split at hu
        · exact hcc j u hu
        · have hj : j - cs.length < 4 := by rw [← hl4]; exact (List.getElem?_eq_some_iff.1 hu).1
          have h5 := h4 _ hj
          rw [hu] at h5
          have h6 := h4 0 (by omega)
          have hsp : a.add (k * 4) = ⟨a.block, a.off + k * 4, none⟩ := by
            have h7 := cell_spot (w := w) (a := (a.add (k * 4))) (v := cs'[0]) (by
              rw [show (a.add (k * 4)).add 0 = a.add (k * 4) by simp [Addr.add]] at h6
              rw [h6, List.getElem?_eq_getElem (by omega)])
            rw [h7, add_block, add_off]
          rw [hsp, Addr.add_lit] at h5
          unfold Addr.add
          by_cases hj0 : j = 0
          · rw [if_pos hj0]
            subst hj0
            have hk0 : k = 0 := by omega
            subst hk0
            have : a = ⟨a.block, a.off, none⟩ := by simpa [Addr.add] using hsp
            rw [this]
            simpa using h5
          · rw [if_neg hj0, ← h5]
            congr 2
            omega
    obtain ⟨cs, es, hel, hbe, hce, hcc⟩ := key len (Nat.le_refl _)
    have hcl := hce.len
    have hlb := bulk_len ((List.range len).map D)
    rw [List.length_map, List.length_range] at hlb
    refine ⟨es, ⟨some a, cap, cs, by rw [hel], by omega, by omega, by omega, ?_, hce⟩, by simp only [Rows.uptoBulk]; omega, by simp only [Rows.uptoBulk]; omega⟩
    rw [hel]
    refine ⟨by omega, fun h0 => ?_⟩
    obtain ⟨u0, hu0⟩ : ∃ u, cs[0]? = some u := ⟨_, List.getElem?_eq_getElem (by omega)⟩
    have hs := hcc 0 u0 hu0
    have hsp : a = ⟨a.block, a.off, none⟩ := cell_spot (a := a) (by simpa [Addr.add] using hs)
    refine ⟨a.block, a.off, by rw [← hsp], trivial, ?_, fun j u hu => ?_⟩
    · have := World.block_lt_of_cell? w _ hs
      simpa [Addr.add] using this
    · have := hcc j u hu
      rwa [hsp, Addr.add_lit] at this
set_option maxRecDepth 10000 in
theorem arg_entriesU {r : Reach} {b0 : Nat} {v : Value} {d : DataW H} {ps : List MemPlace} (hval : Value.okWide Tryz.prog w r b0 22 v) (hd : DataW.Trod enc Tryz.prog w base spare held 22 v d ps) (hw : ∀ n ∈ d.weights Tryz.prog 22, n ≤ reachBytes)
    (hk : Rows.uptoBulk d ≤ 1048576) : ∃ es, Ents w (fun _ => True) v es ∧ (es.length ≤ 1048576 ∧ bytesE es ≤ 1048576) := by
  obtain ⟨n, hn⟩ := arg_slice Tryz.underlying22 hval hd
  obtain ⟨es, h1, h2, h3⟩ := open_entriesU hn hw
  simp only at h2 h3
  exact ⟨es, h1, by omega, by omega⟩
/-- a Look: a key, a range, a number. -/
def LookV (w : World) (S : Nat → Prop) (v : Value) (a : List UInt8 × List UInt8 × List UInt8 × Int) : Prop := ∃ kv lv hv, v = .agg #[kv, lv, hv, .int .i64 a.2.2.2] ∧ Byt w S kv a.1 ∧ Byt w S lv a.2.1 ∧ Byt w S hv a.2.2.1
end
end Go.Proofs.YtiffgjodbcploaaGreat
end
section
namespace Go.Proofs.YtiffgjodbcploaaGreat
set_option maxRecDepth 100000
open Go.RowKit Go.ChangeShapes Go.WideShapes Go.Deep
theorem cells_is : Tryz.prog.cellsOf 26 = 1 := by kernel_rfl
theorem cells_pl : Tryz.prog.cellsOf 28 = 3 := by kernel_rfl
theorem cells_two : Tryz.prog.cellsOf 50 = 2 := by kernel_rfl
theorem bytes_i : Tryz.prog.bytesOf 3 = 8 := by kernel_rfl
/-- a pair of numbers. -/
def TwoV (v : Value) (a : Int × Int) : Prop := v = .agg #[.int .i64 a.1, .int .i64 a.2]
section
variable {H : Type} {enc : TypeId × Value → H} {w : World} {base : Nat} {held : Bool} {spare : Nat → Bool}
set_option maxRecDepth 100000 in
theorem open_str {fuel : Nat} {v : Value} {x : DataW H × List MemPlace} (h : DataW.trod enc Tryz.prog w base spare held fuel 9 [v] = some x) (hw : ∀ n ∈ x.1.weights Tryz.prog 9, n ≤ reachBytes) :
    ∃ s : List UInt8, v = .string ⟨s.toArray⟩ ∧ s.length ≤ 140737488355328 := by
  obtain ⟨s, hs, rfl, _⟩ := DataW.trod_string Tryz.underlying9 h
  obtain rfl : v = .string s := by simpa using hs
  have := hw s.data.toList.length (by simp [DataW.weights])
  exact ⟨s.data.toList, rfl, by unfold reachBytes at this; omega⟩
set_option maxRecDepth 100000 in
theorem arg_string {r : Reach} {b0 : Nat} {v : Value} {d : DataW H} {ps : List MemPlace} (hval : Value.okWide Tryz.prog w r b0 9 v) (hd : DataW.Trod enc Tryz.prog w base spare held 9 v d ps) (hw : ∀ n ∈ d.weights Tryz.prog 9, n ≤ reachBytes) :
    ∃ s : List UInt8, v = .string ⟨s.toArray⟩ ∧ s.length ≤ 140737488355328 := by
  obtain ⟨n, hn⟩ := hd
  have hv : ∃ s, v = .string s := by
    unfold Value.okWide at hval
    rw [Tryz.underlying9] at hval
    cases v <;> simp_all [Cell.okWide, Cell.ok, Tryz.underlying9]
  obtain ⟨s, rfl⟩ := hv
  exact open_str hn hw
set_option maxRecDepth 100000 in
theorem open_zs {fuel : Nat} {v : Value} {d : DataW H} {ps : List MemPlace} (h : DataW.trod enc Tryz.prog w base spare held fuel 26 [v] = some (d, ps)) (hw : ∀ n ∈ d.weights Tryz.prog 26, n ≤ reachBytes) :
    ∃ zs, IntsIn w (fun _ => True) v zs ∧ zs.length * 8 ≤ 140737488355328 ∧ ∀ z ∈ zs, (Lit.int .i64 z).wf = true := by
  rcases open_ints Tryz.underlying26 Tryz.underlying3 cells_i h with ⟨hv, _⟩ | ⟨a, len, cap, zs, hv, _, hl, hm, hz, hx, hc, hwf⟩
  · obtain rfl : v = .slice none 0 0 := by simpa using hv
    exact ⟨[], IntsIn.nil _ _, by simp, fun z hz => by cases hz⟩
  · obtain rfl : v = .slice (some a) len cap := by simpa using hv
    have hlen : len ≤ zs.length := by rw [hz]; split <;> omega
    simp only [Prod.mk.injEq] at hx
    obtain ⟨hx, _⟩ := hx
    subst hx
    have hr := hw _ (by simp only [DataW.weights, Tryz.underlying26]; exact List.mem_cons_self)
    rw [bytes_i] at hr
    simp only [lits, List.length_map, List.length_take, List.length_drop, reachBytes] at hr
    have e1 : (zs.take len).length = len := by simp; omega
    unfold maxLen at hm
    refine ⟨zs.take len, ⟨some a, cap, by rw [e1], by omega, by omega, ?_⟩, by omega, fun z hz => hwf z (List.mem_of_mem_take hz)⟩
    rw [e1]
    refine ⟨by simp; omega, fun h0 => ?_⟩
    have hs := hc 0 (by omega)
    have hsp : a = ⟨a.block, a.off, none⟩ := cell_spot (a := a) (by simpa [Addr.add] using hs)
    refine ⟨a.block, a.off, by rw [← hsp], trivial, ?_, fun j u hu => ?_⟩
    · have := World.block_lt_of_cell? w _ hs
      simpa [Addr.add] using this
    · rw [List.getElem?_map, List.getElem?_take] at hu
      split at hu
      · rename_i hj
        have hcj := hc j (by omega)
        rw [hsp, Addr.add_lit] at hcj
        rw [hcj]
        obtain ⟨z, hzj⟩ : ∃ z, zs[j]? = some z := ⟨_, List.getElem?_eq_getElem (by omega)⟩
        rw [hzj] at hu
        simp only [Option.map_some, Option.some.injEq] at hu
        rw [← hu, List.getD_eq_getElem?_getD, hzj]
        rfl
      · simp at hu
set_option maxRecDepth 100000 in
theorem open_pl (fuel : Nat) (cs : List Value) (x : DataW H × List MemPlace) (h : DataW.trod enc Tryz.prog w base spare held fuel 28 cs = some x) (hw : ∀ n ∈ x.1.weights Tryz.prog 28, n ≤ reachBytes) :
    ∃ (ops room : Int) (zs : List Int) (kv : Value), cs = [.int .i64 ops, .int .i64 room, kv] ∧ IntsIn w (fun _ => True) kv zs ∧ zs.length * 8 ≤ 140737488355328 ∧ (Lit.int .i64 ops).wf = true ∧ (Lit.int .i64 room).wf = true ∧ ∀ z ∈ zs, (Lit.int .i64 z).wf = true := by
  obtain ⟨y0, y1, y2, n, rfl, hl, h0, h1, h2⟩ := trod_struct3 Tryz.underlying28 h
  rw [cells_pl] at hl
  match cs, hl with
  | [c0, c1, c2], _ =>
    simp only [cells_is, cells_i, List.drop_zero, List.drop_succ_cons, List.take_succ_cons, List.take_zero] at h0 h1 h2
    simp only [DataW.weights, Tryz.underlying28, List.map_cons, List.map_nil, DataW.weightsEach, List.append_nil, List.mem_append] at hw
    obtain ⟨a, ha, _, wa⟩ := DataW.trod_int Tryz.underlying3 h0
    obtain ⟨b, hb, _, wb⟩ := DataW.trod_int Tryz.underlying3 h1
    obtain ⟨zs, hz, hz8, wz⟩ := open_zs h2 (fun n hn => hw n (.inr (.inr hn)))
    obtain rfl : c0 = .int .i64 a := by simpa using ha
    obtain rfl : c1 = .int .i64 b := by simpa using hb
    exact ⟨a, b, zs, _, rfl, hz, hz8, wa, wb, wz⟩
/-- a plan as an argument. -/
def PlanV (w : World) (S : Nat → Prop) (v : Value) (a : Int × Int × List Int) : Prop := ∃ kv, v = .agg #[.int .i64 a.1, .int .i64 a.2.1, kv] ∧ IntsIn w S kv a.2.2 ∧ a.2.2.length * 8 ≤ 140737488355328 ∧ (Lit.int .i64 a.1).wf = true ∧ (Lit.int .i64 a.2.1).wf = true ∧ ∀ z ∈ a.2.2, (Lit.int .i64 z).wf = true
set_option maxRecDepth 100000 in
theorem arg_plan {r : Reach} {b0 : Nat} {v : Value} {d : DataW H} {ps : List MemPlace} (hval : Value.okWide Tryz.prog w r b0 28 v) (hd : DataW.Trod enc Tryz.prog w base spare held 28 v d ps) (hw : ∀ n ∈ d.weights Tryz.prog 28, n ≤ reachBytes) :
    ∃ a, PlanV w (fun _ => True) v a := by
  obtain ⟨n, hn⟩ := hd
  have hv : ∃ cs, v = .agg cs := by
    unfold Value.okWide at hval
    rw [Tryz.underlying28] at hval
    obtain ⟨cs, e, _⟩ := hval
    exact ⟨cs, e⟩
  obtain ⟨cs, rfl⟩ := hv
  obtain ⟨ops, room, zs, kv, he, hk, hk8, wo, wr, wk⟩ := open_pl _ _ _ hn hw
  have he' : cs.toList = [.int .i64 ops, .int .i64 room, kv] := he
  obtain rfl : cs = #[.int .i64 ops, .int .i64 room, kv] := by cases cs; simp_all
  exact ⟨(ops, room, zs), kv, rfl, hk, hk8, wo, wr, wk⟩
theorem arg_two {b0 : Nat} {v : Value} {d : DataW H} {ps : List MemPlace} (hval : Value.okWide Tryz.prog w .any b0 50 v) (hd : DataW.Trod enc Tryz.prog w base spare held 50 v d ps) : ∃ a, TwoV v a := by
  unfold Value.okWide at hval
  rw [Tryz.underlying50] at hval
  obtain ⟨cs, rfl, hsz, _⟩ := hval
  obtain ⟨c0, c1, rfl⟩ : ∃ c0 c1, cs = #[c0, c1] := by
    have h2 := hsz.trans cells_two
    obtain ⟨l⟩ := cs
    match l, h2 with
    | [a, b], _ => exact ⟨a, b, rfl⟩
  obtain ⟨fuel, hf⟩ := hd
  obtain ⟨xs, m, _, _, _, hl, hx⟩ := DataW.trod_array Tryz.underlying50 hf
  have g0 := hx 0 (by omega)
  have g1 := hx 1 (by omega)
  rw [cells_i] at g0 g1
  rw [List.getElem?_eq_getElem (by omega)] at g0 g1
  obtain ⟨k0, e0, _, _⟩ := DataW.trod_int Tryz.underlying3 g0
  obtain ⟨k1, e1, _, _⟩ := DataW.trod_int Tryz.underlying3 g1
  simp [Value.cells] at e0 e1
  subst e0 e1
  exact ⟨(k0, k1), rfl⟩
end
end Go.Proofs.YtiffgjodbcploaaGreat
end
section
namespace Go.Proofs.YtiffgjodbcploaaGreat
set_option maxRecDepth 100000
open Go.RowKit Go.BigFrame Go.Shelf
attribute [local go_sem ↓] Go.wp_at_zero Go.wp_at_succ
/-- an entry of a slice. -/
theorem ents_at {w : World} {S : Nat → Prop} {A : Option Addr} {n c : Nat} {es : List Ent} (h : Ents w S (.slice A n c) es) {k : Nat} {e : Ent} (hk : es[k]? = some e) :
    ∃ b o kk uu, A = some ⟨b, o, none⟩ ∧ w.cell? ⟨b, o + k * 4, none⟩ = some kk ∧ w.cell? ⟨b, o + k * 4 + 1, none⟩ = some (.int .i64 e.seq) ∧ w.cell? ⟨b, o + k * 4 + 2, none⟩ = some (.bool e.dead) ∧ w.cell? ⟨b, o + k * 4 + 3, none⟩ = some uu ∧ EntV w S (.agg #[kk, .int .i64 e.seq, .bool e.dead, uu]) e := by
  obtain ⟨A', c', cs, hE, hc, hcm, hl, hr, he⟩ := h
  injection hE with e1 e2 e3
  subst e1
  obtain ⟨b, o, kk, uu, e4, c0, c1, c2, c3, b1, b2, _, _⟩ := hr.ent he rfl hk
  exact ⟨b, o, kk, uu, e4, c0, c1, c2, c3, _, _, rfl, b1, b2⟩
theorem range_nil {es : List Ent} : rangeE [] [] es = es := by
  unfold rangeE fromE
  rw [List.filter_filter]
  refine List.filter_eq_self.2 fun e _ => ?_
  unfold below fromQ
  cases e.key <;> simp [cmpB]
/-- an empty disk tells no files. -/
theorem dump_none (F : Nat → Prop) (p : Nat) (w : World) (h : DiskP w F p calm0) : Calls Tryz.prog 13 #[.pointer (some ⟨p, 0, none⟩)] w fun r w' => ∃ A c, r = .returned (.slice A 0 c) ∧ fr w w' := by
  refine (dump_any F p calm0 w h (by decide)).mono ?_
  rintro r w' ⟨v, rfl, hv, hb⟩
  obtain ⟨A, c, rfl⟩ : ∃ A c, v = .slice A 0 c := by obtain ⟨css, h1, _⟩ := hv; exact own_form h1
  exact ⟨A, c, rfl, hb⟩
set_option maxRecDepth 100000 in
set_option maxHeartbeats 1000000 in
theorem tabWritesLaw (v : Value) (es : List Ent) (blk : Int) (nv : Value) (x : List UInt8) (w : World) (hv : Ents w (fun _ => True) v es) (hN : es.length ≤ 1048576 ∧ bytesE es ≤ 1048576) (_ : (Lit.int .i64 blk).wf = true) (hx : nv = .string ⟨x.toArray⟩ ∧ x.length ≤ 140737488355328) :
    Calls Tryz.prog 3 #[v, .int .i64 blk, nv] w fun r w' => r = .returned (.bool true) ∧ Below w.heap.size w w' := by
  obtain ⟨rfl, hxl⟩ := hx
  obtain ⟨A, c, rfl⟩ := hv.form
  obtain ⟨N, hNN⟩ : ∃ q, es.length = q := ⟨_, rfl⟩
  rw [hNN]
  rw [hNN] at hv hN
  obtain ⟨hN1, hN2⟩ := hN
  have HV := Lib.hid hv
  have HNN := Lib.hid hNN
  clear hv hNN
  obtain ⟨X, hX⟩ : ∃ X : ByteArray, X = ⟨x.toArray⟩ := ⟨_, rfl⟩
  rw [← hX]
  have HX := Lib.hid hX
  clear hX
  go_enter Tryz.func3, Tryz.ntmps3
  go_wp2_with (fail)
  refine (twakes_any _).mono ?_
  rintro r w1 ⟨rfl, hb1⟩
  have HF1 := Lib.hid (show fr w w1 from hb1)
  clear hb1
  go_wp2_with (fail)
  refine (calm_any _).mono ?_
  rintro r w2 ⟨rfl, f2⟩
  have HF2 := Lib.hid (fr.stepR HF1.out f2)
  clear f2
  go_wp2_with (fail)
  refine (new_dk (fun _ => True) (-1) (-1) _ [] w2 (IntsIn.nil _ _) (by simp) w.heap.size HF2.out.size).mono ?_
  rintro r w3 ⟨p, rfl, h3, hb3⟩
  obtain ⟨F, h3, hF⟩ := h3
  have HFF := Lib.hid hF
  have HF3 := Lib.hid (fr.step HF2.out hb3)
  have H3 := Lib.hid (h3 : DiskP w3 F p calm0)
  clear h3 hb3 hF HF1 HF2
  go_wp2_with (fail)
  refine (copy_any _ _ es w3 (HV.out.below HF3.out)).mono ?_
  rintro r w4 ⟨v4, rfl, hv4, hb4⟩
  obtain ⟨A4, c4, rfl⟩ := hv4.form
  rw [HNN.out] at hv4 ⊢
  have HV4 := Lib.hid (hv4.monoLt (S' := fun i => w3.heap.size ≤ i ∧ i < w4.heap.size) fun i hi h => ⟨h, hi⟩)
  have HF4 := Lib.hid (fr.step HF3.out hb4)
  have H4 := Lib.hid (H3.out.below hb4)
  clear hv4 hb4 HF3 H3
  go_wp2_with (fail)
  have HDN : Hid (∀ wx, fr w4 wx → Calls Tryz.prog 13 #[.pointer (some ⟨p, 0, none⟩)] wx fun r w' => ∃ A c, r = .returned (.slice A 0 c) ∧ fr wx w') := Lib.hid fun wx hx => dump_none F p wx (H4.out.below hx)
  by_cases hr : blk < 1 ∨ 1024 < blk
  · refine (write_range _ p N c4 A4 blk w4 hr).mono ?_
    rintro r w5 ⟨rfl, f5⟩
    by_cases hr1 : blk < 1
    · go_wp2_with (go_at_call 13; refine (HDN.out _ f5).mono ?_; rintro r w6 ⟨A6, c6, rfl, f6⟩)
      refine bodyPost_ret (v := .bool true) (by simp [results, Tryz.results3, go_sem]) rfl ?_
      exact ⟨rfl, fr.stepR (fr.stepR HF4.out f5) f6⟩
    · have hd1 : decide (blk < 1) = false := decide_eq_false hr1
      have hd2 : decide (1024 < blk) = true := decide_eq_true (by omega)
      clear hr hr1
      go_wp2_with (go_at_call 13; refine (HDN.out _ f5).mono ?_; rintro r w6 ⟨A6, c6, rfl, f6⟩)
      refine bodyPost_ret (v := .bool true) (by simp [results, Tryz.results3, go_sem]) rfl ?_
      exact ⟨rfl, fr.stepR (fr.stepR HF4.out f5) f6⟩
  obtain ⟨sz, rfl⟩ : ∃ k : Nat, blk = k := ⟨blk.toNat, by omega⟩
  have hsz : 1 ≤ sz ∧ sz ≤ 1024 := by omega
  have hd1 : decide ((sz : Int) < 1) = false := decide_eq_false (by omega)
  have hd2 : decide ((1024 : Int) < (sz : Int)) = false := decide_eq_false (by omega)
  clear hr
  by_cases hN0 : N = 0
  · refine (write_key _ _ p N c4 sz A4 es w4 HV4.out HNN.out hsz (.inl hN0)).mono ?_
    rintro r w5 ⟨rfl, f5⟩
    subst hN0
    go_wp2_with (go_at_call 13; refine (HDN.out _ f5).mono ?_; rintro r w6 ⟨A6, c6, rfl, f6⟩)
    refine bodyPost_ret (v := .bool true) (by simp [results, Tryz.results3, go_sem]) rfl ?_
    exact ⟨rfl, fr.stepR (fr.stepR HF4.out f5) f6⟩
  have hN0' : ((N : Int) == 0) = false := by simpa using hN0
  have HOR := Lib.hid (fun wx (hx : fr w4 wx) => rordered_any _ _ es wx (HV.out.below (fr.stepR HF4.out hx)))
  rcases hord : orderedE es with _ | _
  · refine (write_key _ _ p N c4 sz A4 es w4 HV4.out HNN.out hsz (.inr hord)).mono ?_
    rintro r w5 ⟨rfl, f5⟩
    rw [hord] at HOR
    clear hord
    go_wp2_with (first
      | (go_at_call 11; refine (HOR.out _ f5).mono ?_; rintro r w5' ⟨rfl, hb⟩; have f5' : fr w4 w5' := fr.step f5 hb)
      | (go_at_call 13; refine (HDN.out _ f5').mono ?_; rintro r w6 ⟨A6, c6, rfl, f6⟩))
    refine bodyPost_ret (v := .bool true) (by simp [results, Tryz.results3, go_sem]) rfl ?_
    exact ⟨rfl, fr.stepR (fr.stepR HF4.out f5') f6⟩
  rw [hord] at HOR
  have HORD := Lib.hid hord
  clear hord
  have HNM := Lib.hid (fun wx => rname_any x wx hxl)
  rw [← HX.out] at HNM
  rcases hnm : nameB x with _ | _
  · rw [hnm] at HNM
    have hr := write_err F p calm0 x _ A4 N c4 sz es w4 H4.out HV4.out hxl hsz HORD.out (by omega) (by rw [calmN_ready, hnm]; decide) (by rw [calmN_ready, hnm]; decide)
    rw [calmN_ready, hnm, ← HX.out] at hr
    refine hr.mono ?_
    rintro r w5 ⟨rfl, f5⟩
    clear hr hnm
    go_wp2_with (first
      | (go_at_call 11; refine (HOR.out _ f5).mono ?_; rintro r w5' ⟨rfl, hb⟩; have f5' : fr w4 w5' := fr.step f5 hb)
      | (go_at_call 12; refine (HNM.out _).mono ?_; rintro r w5'' ⟨rfl, hw⟩; subst hw)
      | (go_at_call 13; refine (HDN.out _ f5').mono ?_; rintro r w6 ⟨A6, c6, rfl, f6⟩))
    refine bodyPost_ret (v := .bool true) (by simp [results, Tryz.results3, go_sem]) rfl ?_
    exact ⟨rfl, fr.stepR (fr.stepR HF4.out f5') f6⟩
  rw [hnm] at HNM
  have HNMX := Lib.hid hnm
  clear hnm
  obtain ⟨g4, o4, c4', hv4⟩ := HV4.out.some_form (by rw [HNN.out]; omega)
  rw [HNN.out] at hv4
  simp only [Value.slice.injEq] at hv4
  obtain ⟨rfl, _, rfl⟩ := hv4
  have hw := write_calmN F p x _ g4 o4 N c4 sz es w4 HNMX.out hxl H4.out HV4.out HNN.out (fun i h => h.2) hsz HORD.out (by omega) (by omega) (by omega)
  rw [← HX.out] at hw
  refine hw.mono ?_
  rintro r w5 ⟨ps, hps, rfl, h5, o5⟩
  have HPS := Lib.hid hps
  have H5 := Lib.hid h5
  have hz5 := o5.size
  have HF5 := Lib.hid (show fr w w5 from HF4.out.trans (o5.below HF4.out.size fun i hi => (HFF.out i hi).1))
  clear hw hps h5 o5 HV4 H4 HDN HF4
  have HOR5 := Lib.hid (rordered_any _ _ es w5 (HV.out.below HF5.out))
  rw [HORD.out] at HOR5
  go_upto_region 14 with (first
    | (go_at_call 11; refine HOR5.out.mono ?_; rintro r w6 ⟨rfl, hb6⟩; have f6 : fr w5 w6 := hb6; have HF6 := Lib.hid (fr.stepR HF5.out f6); have H6 := Lib.hid (H5.out.below f6); clear hb6 f6)
    | (go_at_call 12; refine (HNM.out _).mono ?_; rintro r w6'' ⟨rfl, hw⟩; subst hw))
  clear HOR HOR5 HNM H5 HF5
  have hop := open_ok _ p _ x N es ps w6 H6.out hxl (calmN_readyD HNMX.out _) (calmN_read x _) HPS.out HNN.out (by omega) (by omega) (by omega) HORD.out
  rw [← HX.out] at hop
  go_wp2_with (fail)
  refine hop.mono ?_
  rintro r w7 ⟨Tb, rfl, hT, f7⟩
  have hps0 : 0 < ps.length := by
    rcases Nat.eq_zero_or_pos ps.length with h | h
    · have h1 := HPS.out.all
      rw [List.eq_nil_of_length_eq_zero h] at h1
      have h2 := congrArg List.length h1
      rw [HNN.out] at h2
      simp only [List.flatten_nil, List.length_nil] at h2
      omega
    · exact h
  have HT := Lib.hid (hT.set hps0)
  have HF7 := Lib.hid (fr.stepR HF6.out f7)
  clear hT f7 hop hps0 H6 HF6
  have HAL := Lib.hid (tall_any Tb N 0 0 0 0 none none (fun i => w6.heap.size ≤ i ∧ i < w7.heap.size) (fun _ => True) (fun _ => True) [] [] es ps w7 (Byt.nil _ _) (Byt.nil _ _) HT.out HPS.out HNN.out (by omega) (by omega) (by omega) HORD.out (fun i h => h.2))
  rw [range_nil, HNN.out] at HAL
  go_wp2_with (fail)
  refine HAL.out.mono ?_
  rintro r w8 ⟨v8, ys, T, rfl, hown, hec, _, f8⟩
  obtain ⟨Ay, cy, rfl⟩ := own_form hown
  have HY := Lib.hid (show Ents w8 (fun _ => True) (.slice Ay N cy) es from Ents.of_own (by rw [HNN.out]; exact hown) (hec.mono fun _ _ => trivial) (fun _ _ _ => trivial) (by rw [HNN.out]; omega))
  have HF8 := Lib.hid (fr.stepR HF7.out f8)
  have HT8 := Lib.hid (HT.out.fr f8)
  clear hown hec f8 HAL HT HF7
  obtain ⟨ea, hea⟩ : ∃ e, es[0]? = some e := ⟨_, List.getElem?_eq_getElem (by rw [HNN.out]; omega)⟩
  obtain ⟨eb, heb⟩ : ∃ e, es[N - 1]? = some e := ⟨_, List.getElem?_eq_getElem (by rw [HNN.out]; omega)⟩
  have HBD := Lib.hid (bounds_any _ Tb N es ps ea eb w8 HT8.out HPS.out hea heb)
  have HEA := Lib.hid hea
  have HEB := Lib.hid heb
  clear hea heb
  go_wp2_with (fail)
  refine HBD.out.mono ?_
  rintro r w9 ⟨va, vb, rfl, ha9, hb9, f9⟩
  obtain ⟨Aa, ca, rfl⟩ := slice_form ha9
  obtain ⟨Ab, cb, rfl⟩ := slice_form hb9
  have HF9 := Lib.hid (fr.stepR HF8.out f9)
  have HT9 := Lib.hid (HT8.out.fr f9)
  have HL9 := Lib.hid (HV.out.below HF9.out)
  have HY9 := Lib.hid (HY.out.below f9)
  have HAA := Lib.hid (ha9.byt.mono (S' := fun _ => True) fun _ _ => trivial)
  have HBB := Lib.hid (hb9.byt.mono (S' := fun _ => True) fun _ _ => trivial)
  clear HBD ha9 hb9 f9 HT8 HF8 HY
  obtain ⟨b, o, ka, ua, hA1, x0, _, _, _, qa⟩ := ents_at HL9.out HEA.out
  obtain ⟨b', o', kb, ub, hA2, y0, _, _, _, qb⟩ := ents_at HL9.out HEB.out
  obtain rfl := hA1
  simp only [Option.some.injEq, Addr.mk.injEq, and_true] at hA2
  obtain ⟨rfl, rfl⟩ := hA2
  obtain ⟨_, _, hka, qa1, _⟩ := qa
  obtain ⟨_, _, hkb, qb1, _⟩ := qb
  simp only [Value.agg.injEq, Array.mk.injEq, List.cons.injEq, and_true] at hka hkb
  obtain ⟨rfl, _, _, rfl⟩ := hka
  obtain ⟨rfl, _, _, rfl⟩ := hkb
  obtain ⟨Ak, ck, rfl⟩ := slice_form qa1
  obtain ⟨Al, cl, rfl⟩ := slice_form qb1
  have CS : ∀ q : Ext w9, Calls Tryz.prog 17 #[.slice Ay N cy, .slice (some ⟨b, o, none⟩) N c] q.w fun r w'' => r = .returned (.bool true) ∧ ∃ q' : Ext w9, w'' = q'.w := fun q => Ext.calls ((sameE_any _ _ _ _ es es q.w (HY9.out.below q.h) (HL9.out.below q.h)).mono fun r w' h => ⟨by rw [h.1, decide_eq_true rfl], h.2⟩)
  have CC : ∀ q : Ext w9, Calls Tryz.prog 18 #[.pointer (some ⟨Tb, 0, none⟩)] q.w fun r w'' => r = .returned (.int .i64 N) ∧ ∃ q' : Ext w9, w'' = q'.w := fun q => Ext.calls ((count_any _ Tb N es ps q.w (HT9.out.fr q.h)).mono fun r w' h => ⟨h.1, h.2⟩)
  obtain ⟨XA, hXA⟩ : ∃ X : ByteArray, X = ⟨ea.key.toArray⟩ := ⟨_, rfl⟩
  obtain ⟨XB, hXB⟩ : ∃ X : ByteArray, X = ⟨eb.key.toArray⟩ := ⟨_, rfl⟩
  have kA : ∀ q : Ext w9, (convert 42 9 (.slice Ak ea.key.length ck)).run Tryz.prog q.w = .ok (.string XA) q.w := fun q => by rw [hXA]; exact (qa1.below q.h).convert
  have kB : ∀ q : Ext w9, (convert 42 9 (.slice Al eb.key.length cl)).run Tryz.prog q.w = .ok (.string XB) q.w := fun q => by rw [hXB]; exact (qb1.below q.h).convert
  have kC : ∀ q : Ext w9, (convert 42 9 (.slice Aa ea.key.length ca)).run Tryz.prog q.w = .ok (.string XA) q.w := fun q => by rw [hXA]; exact (HAA.out.below q.h).convert
  have kD : ∀ q : Ext w9, (convert 42 9 (.slice Ab eb.key.length cb)).run Tryz.prog q.w = .ok (.string XB) q.w := fun q => by rw [hXB]; exact (HBB.out.below q.h).convert
  have xq : ∀ q : Ext w9, q.w.cell? ⟨b, o, none⟩ = some (.slice Ak ea.key.length ck) := Ext.cell (by simpa using x0)
  have yq : ∀ q : Ext w9, q.w.cell? ⟨b, o + (N - 1) * 4, none⟩ = some (.slice Al eb.key.length cl) := Ext.cell y0
  have hm1 : IntKind.i64.wrap ((N : Int) - 1) = ((N - 1 : Nat) : Int) := by rw [IntWalk.i64_in _ (by omega)]; omega
  have hm2 : N - 1 < N := by omega
  have hm3 : 0 < N := by omega
  clear x0 y0 qa1 qb1 hXA hXB hd1 hd2
  go_wp2
  (refine wp_region_quiet_ext (by kernel_rfl) (by kernel_rfl) ?_; (repeat (go_big_quiet_step ((first | (go_at_call 17; exact CS _) | (go_at_call 18; exact CC _))))); refine wpQuiet_nil ?_; intro wq hw'; obtain ⟨⟨_, hq⟩, hw''⟩ := hw'; subst hw'')
  go_wp2
  refine bodyPost_ret (v := .bool true) (by simp [results, Tryz.results3, go_sem]) rfl ?_
  exact ⟨rfl, fr.stepR HF9.out hq⟩
end Go.Proofs.YtiffgjodbcploaaGreat
end
