/-
vdisk's begin, New, names, Read, List.
-/
import Derived.Test.YtcmjoaepihbodaaQPOwnU2
import Derived.Shelf.SlGeneric
import Derived.Shelf.SlIter.Nil
import Derived.Shelf.SortM.Plain
import Derived.Shelf.SortM.SortNone
import Derived.Ground.GgzProg
import Derived.Ground.SlgmProg
import Derived.Test.YtcmjoaepihbodaaProg
section
namespace Go.Proofs.Ytcmjoaepihbodaa
open Go.RowKit Go.BigFrame Go.Sort Go.Shelf Go.Lib Go.Maps
def setF (data' : List UInt8) (synced' : Int) (sl' : Value) (a : Fd) : Fd := ⟨a.name, data', synced', a.blk, sl'⟩
theorem pair_mem {R : Fd → Fd → Prop} (hs : ∀ {a b}, R a b → R b a) {l : List Fd} (h : l.Pairwise R) {a b : Fd} (ha : a ∈ l) (hb : b ∈ l) (hne : a ≠ b) : R a b := by
  induction l with
  | nil => cases ha
  | cons c l ih =>
    have hc := (List.pairwise_cons.1 h).1
    rcases List.mem_cons.1 ha with e1 | h1 <;> rcases List.mem_cons.1 hb with e2 | h2
    · exact absurd (e1.trans e2.symm) hne
    · rw [e1]; exact hc b h2
    · rw [e2]; exact hs (hc a h1)
    · exact ih (List.pairwise_cons.1 h).2 h1 h2
theorem upd_same {x : Nm} {g : Fd → Fd} {ns : List Fd} (h : findF x ns = none) : updF x g ns = ns := by
  have := find_none.1 h
  unfold updF
  rw [show ns = ns.map id from by simp]
  rw [List.map_map]
  refine List.map_congr_left fun f hf => ?_
  simp [this f hf]
theorem mem_upd {x : Nm} {g : Fd → Fd} {ns : List Fd} {a : Fd} (h : a ∈ updF x g ns) : (a ∈ ns ∧ a.name ≠ x) ∨ ∃ f ∈ ns, f.name = x ∧ a = g f := by
  unfold updF at h
  obtain ⟨f, hf, rfl⟩ := List.mem_map.1 h
  by_cases hx : f.name = x
  · rw [if_pos hx]; exact .inr ⟨f, hf, hx, rfl⟩
  · rw [if_neg hx]; exact .inl ⟨hf, hx⟩
theorem sorted_name {ns : List Fd} (h : sortedF ns) {f g : Fd} (hf : f ∈ ns) (hg : g ∈ ns) (he : f.name = g.name) : f = g := by
  induction ns with
  | nil => cases hf
  | cons a l ih =>
    have ha := (List.pairwise_cons.1 h).1
    rcases List.mem_cons.1 hf with e1 | h1 <;> rcases List.mem_cons.1 hg with e2 | h2
    · rw [e1, e2]
    · exact absurd (ha g h2) (by rw [← e1, he]; exact List.lt_irrefl _)
    · exact absurd (ha f h1) (by rw [← e2, he]; exact List.lt_irrefl _)
    · exact ih (List.pairwise_cons.1 h).2 h1 h2
theorem find_mem {ns : List Fd} (h : sortedF ns) {f : Fd} (hf : f ∈ ns) : findF f.name ns = some f := by
  cases hx : findF f.name ns with
  | none => exact absurd rfl (find_none.1 hx f hf)
  | some g =>
    obtain ⟨h1, h2⟩ := find_name hx
    rw [sorted_name h h2 hf h1]
theorem pair_ins {R : Fd → Fd → Prop} (hs : ∀ {a b}, R a b → R b a) {f : Fd} {ns : List Fd} (hp : ns.Pairwise R) (hf : ∀ g ∈ ns, g.name ≠ f.name → R f g) (ho : sortedF ns) : (insF f ns).Pairwise R := by
  induction ns with
  | nil => exact List.pairwise_singleton _ _
  | cons a l ih =>
    have ha := (List.pairwise_cons.1 hp).1
    have hla := (List.pairwise_cons.1 ho).1
    have hne : ∀ g ∈ l, g.name ≠ a.name := fun g hg e => absurd (hla g hg) (by rw [e]; exact List.lt_irrefl _)
    unfold insF
    split
    · rename_i h1
      refine List.pairwise_cons.2 ⟨fun g hg => hf g hg fun e => ?_, hp⟩
      rcases List.mem_cons.1 hg with rfl | hg
      · rw [e] at h1; exact absurd h1 (List.lt_irrefl _)
      · have := List.lt_trans h1 (hla g hg); rw [e] at this; exact absurd this (List.lt_irrefl _)
    · split
      · rename_i h1 h2
        exact List.pairwise_cons.2 ⟨fun g hg => hf g (List.mem_cons_of_mem _ hg) (by rw [h2]; exact hne g hg), (List.pairwise_cons.1 hp).2⟩
      · rename_i h1 h2
        refine List.pairwise_cons.2 ⟨fun g hg => ?_, ih (List.pairwise_cons.1 hp).2 (fun g hg => hf g (List.mem_cons_of_mem _ hg)) (List.pairwise_cons.1 ho).2⟩
        rcases mem_ins hg with rfl | hg
        · exact hs (hf a List.mem_cons_self fun e => h2 e.symm)
        · exact ha g hg
theorem len_ins {f : Fd} {ns : List Fd} (ho : sortedF ns) : (insF f ns).length = if (findF f.name ns).isSome then ns.length else ns.length + 1 := by
  induction ns with
  | nil => rfl
  | cons a l ih =>
    have hla := (List.pairwise_cons.1 ho).1
    unfold insF
    split
    · rename_i h1
      have : findF f.name (a :: l) = none := find_none.2 fun g hg e => by
        rcases List.mem_cons.1 hg with rfl | hg
        · rw [e] at h1; exact absurd h1 (List.lt_irrefl _)
        · have := List.lt_trans h1 (hla g hg); rw [e] at this; exact absurd this (List.lt_irrefl _)
      rw [this]; rfl
    · split
      · rename_i h1 h2
        have : findF f.name (a :: l) = some a := by unfold findF; rw [if_pos h2.symm]
        rw [this]; rfl
      · rename_i h1 h2
        have : findF f.name (a :: l) = findF f.name l := by rw [findF, if_neg fun e => h2 e.symm]
        rw [this, List.length_cons, ih (List.pairwise_cons.1 ho).2]
        split <;> simp
theorem len_del {x : Nm} {ns : List Fd} (ho : sortedF ns) : (delF x ns).length + (if (findF x ns).isSome then 1 else 0) = ns.length := by
  induction ns with
  | nil => rfl
  | cons a l ih =>
    have hla := (List.pairwise_cons.1 ho).1
    have h2 := ih (List.pairwise_cons.1 ho).2
    unfold delF findF
    split
    · rename_i h
      have : findF x l = none := find_none.2 fun g hg e => absurd (hla g hg) (by rw [e, h]; exact List.lt_irrefl _)
      rw [this] at h2
      simp at h2 ⊢
      exact h2
    · rw [List.length_cons, List.length_cons]
      omega
theorem MapIs.put {D : DataW Unit} {ns : List Fd} (h : MapIs D ns) (hT : Tidy D) (ho : sortedF ns) (f : Fd) : MapIs (D.put (.string f.name) (.lit (.int .i64 f.blk))) (insF f ns) := by
  refine ⟨fun x => ?_, fun x => ?_, ?_⟩
  · rw [find_ins]
    by_cases hx : f.name = x
    · rw [if_pos hx, ← hx, atKey_put_same (k := .string f.name) hT.isMap trivial]; rfl
    · rw [if_neg hx, atKey_put_other (fun e => hx (by injection e with e; exact e.symm)), h.at_]
  · rw [find_ins]
    by_cases hx : f.name = x
    · rw [if_pos hx, ← hx, has_put_same (k := .string f.name) hT.isMap trivial]; rfl
    · rw [if_neg hx, has_put_other (fun e => hx (by injection e with e; exact e.symm)), h.has]
  · rw [size_put hT, len_ins ho, h.has, h.size]
theorem MapIs.del {D : DataW Unit} {ns : List Fd} (h : MapIs D ns) (hT : Tidy D) (ho : sortedF ns) (y : Nm) : MapIs (D.del (.string y)) (delF y ns) := by
  refine ⟨fun x => ?_, fun x => ?_, ?_⟩
  · rw [find_del]
    by_cases hx : x = y
    · rw [if_pos hx, hx, atKey_del_same]; rfl
    · rw [if_neg hx, atKey_del_other (fun e => hx (by injection e)), h.at_]
  · rw [find_del]
    by_cases hx : x = y
    · rw [if_pos hx, hx, has_del_same]; rfl
    · rw [if_neg hx, has_del_other (fun e => hx (by injection e)), h.has]
  · have h1 := size_del (k := .string y) hT
    have h2 := len_del (x := y) ho
    rw [h.has, h.size] at h1
    omega
theorem MapIs.upd {D : DataW Unit} {ns : List Fd} (h : MapIs D ns) (x : Nm) (g : Fd → Fd) (hn : ∀ f, (g f).name = f.name) (hb : ∀ f, (g f).blk = f.blk) : MapIs D (updF x g ns) := by
  have hd : ∀ y, datF (findF y (updF x g ns)) = datF (findF y ns) ∧ (findF y (updF x g ns)).isSome = (findF y ns).isSome := fun y => by
    rw [find_upd _ _ _ hn]
    split
    · cases findF y ns with
      | none => exact ⟨rfl, rfl⟩
      | some f => exact ⟨by show DataW.lit (.int .i64 (g f).blk) = _; rw [hb]; rfl, rfl⟩
    · exact ⟨rfl, rfl⟩
  exact ⟨fun y => by rw [(hd y).1]; exact h.at_ y, fun y => by rw [(hd y).2]; exact h.has y, by unfold updF; rw [List.length_map]; exact h.size⟩
section
variable {w w' : World} {F F' : Nat → Prop} {p mb : Nat} {kv : Value} {d : Dk}
/-- blocks of other kinds than a file's struct or its bytes stand. -/
theorem cells_ne {i j : Nat} {cs cs' : Array Value} {t t' : TypeId} (h : w.heap[i]? = some (.cells cs t (0, 0))) (h' : w.heap[j]? = some (.cells cs' t' (0, 0))) (ht : t ≠ t') : i ≠ j := by
  rintro rfl
  rw [h] at h'
  injection h' with h'
  injection h' with _ h'
  exact ht h'
theorem map_ne {i mb : Nat} {cs : Array Value} {t : TypeId} {D : DataW Unit} {n : Nat} (h : w.heap[i]? = some (.cells cs t (0, 0))) (hm : w.ownsMap Try.prog 9 ptrR mb n D) : i ≠ mb := by
  rintro rfl
  obtain ⟨es, clock, hb, _⟩ := hm
  rw [h] at hb
  cases hb
/-- a file is written. -/
theorem DiskV.upd (h : DiskV w F p mb kv d) (hF : ∀ i, F i → F' i) {f : Fd} (hf : f ∈ d.ns) {data' : List UInt8} {synced' : Int} {sl' : Value} (ho : Only (fun i => i = f.blk ∨ blkB f.sl = some i) w w')
    (hc : w'.heap[f.blk]? = some (.cells #[sl', .int .i64 synced'] 75 (0, 0))) (hown : OwnB w' F' sl' data') (hb : ∀ g, blkB sl' = some g → blkB f.sl = some g ∨ w.heap.size ≤ g) :
    DiskV w' F' p mb kv { d with ns := updF f.name (setF data' synced' sl') d.ns } := by
  obtain ⟨D, hm, hD⟩ := h.map
  have hfv := h.files f hf
  have hL : ∀ g, blkB f.sl = some g → ∃ cs : Array Value, w.heap[g]? = some (.cells cs 5 (0, 0)) := fun g hg => (hfv.own.blk hg).2.1
  have keep : ∀ (i : Nat) (cs : Array Value) (t : TypeId), w.heap[i]? = some (.cells cs t (0, 0)) → t ≠ 75 → t ≠ 5 → w'.heap[i]? = w.heap[i]? := fun i cs t hi h1 h2 => ho.block i (Array.getElem?_eq_some_iff.1 hi).1 fun hS => by
    rcases hS with e | e
    · exact cells_ne hi hfv.cells h1 e
    · obtain ⟨cs', hg⟩ := hL i e
      exact cells_ne hi hg h2 rfl
  have hkm : w'.heap[mb]? = w.heap[mb]? := ho.block mb hm.lt fun hS => by
    rcases hS with e | e
    · exact map_ne hfv.cells hm e.symm
    · obtain ⟨cs', hg⟩ := hL mb e
      exact map_ne hg hm rfl
  have hoth : ∀ a ∈ d.ns, a.name ≠ f.name → FileV w' F' a := fun a ha hne => by
    have hav := h.files a ha
    have hab : a.blk ≠ f.blk ∧ ∀ g, blkB a.sl = some g → blkB f.sl ≠ some g := by
      exact pair_mem (R := fun a b : Fd => a.blk ≠ b.blk ∧ ∀ g, blkB a.sl = some g → blkB b.sl ≠ some g) (fun e => ⟨e.1.symm, fun g h1 h2 => e.2 g h2 h1⟩) (h.blks.and h.sls) ha hf (fun e => hne (by rw [e]))
    refine ⟨(ho.block _ (Array.getElem?_eq_some_iff.1 hav.cells).1 fun hS => ?_).trans hav.cells, (hav.own.only ho fun g hg hS => ?_).mono hF, hF _ hav.lo⟩
    · rcases hS with e | e
      · exact hab.1 e
      · obtain ⟨cs', hg⟩ := hL _ e
        exact cells_ne hav.cells hg (by decide) rfl
    · rcases hS with e | e
      · obtain ⟨_, ⟨cs, hLo⟩, _⟩ := hav.own.blk hg
        exact cells_ne hLo hfv.cells (by decide) e
      · exact hab.2 g hg e
  refine ⟨(keep p _ _ h.head (by decide) (by decide)).trans h.head, ⟨D, by rw [show (updF f.name _ d.ns).length = d.ns.length from by unfold updF; simp]; exact ownsMap_block hm hkm, hD.upd _ _ (fun _ => rfl) (fun _ => rfl)⟩, fun a ha => ?_, (h.keep.kept fun g cs _ hg => keep g cs _ hg (by decide) (by decide)).mono fun i hi _ => hF i hi, fun a ha => ?_, sorted_upd (g := setF data' synced' sl') (fun _ => rfl) h.sorted, ?_, ?_, hF p h.loP, hF mb h.loM⟩
  · rcases mem_upd ha with ⟨h1, h2⟩ | ⟨g, hg, h1, rfl⟩
    · exact hoth a h1 h2
    · have : g = f := sorted_name h.sorted hg hf h1
      subst this
      exact ⟨hc, hown, hF _ hfv.lo⟩
  · rcases mem_upd ha with ⟨h1, h2⟩ | ⟨g, hg, h1, rfl⟩
    · exact h.names a h1
    · exact h.names g hg
  · show (updF f.name _ d.ns).Pairwise _
    unfold updF
    rw [List.pairwise_map]
    refine h.blks.imp fun {a b} hab => ?_
    split <;> split <;> exact hab
  · show (updF f.name _ d.ns).Pairwise _
    unfold updF
    rw [List.pairwise_map]
    have h2 : d.ns.Pairwise fun a b => a.name ≠ b.name := h.sorted.imp fun {a b} hab e => by rw [e] at hab; exact List.lt_irrefl _ hab
    refine ((List.pairwise_iff_forall_sublist.2 fun {a b} hs => ?_))
    have ha := hs.subset (List.mem_cons_self)
    have hb' := hs.subset (List.mem_cons_of_mem _ List.mem_cons_self)
    have hab := List.pairwise_iff_forall_sublist.1 h.sls hs
    have hne := List.pairwise_iff_forall_sublist.1 h2 hs
    have new : ∀ a ∈ d.ns, a.name ≠ f.name → (∀ g, blkB a.sl = some g → blkB f.sl ≠ some g) → ∀ g, blkB sl' = some g → blkB a.sl ≠ some g := fun a ha _ hd g hg e => by
      rcases hb g hg with h1 | h1
      · exact hd g e h1
      · have := ((h.files a ha).own.blk e).2.2; omega
    by_cases ea : a.name = f.name
    · have e1 : a = f := sorted_name h.sorted ha hf ea
      subst e1
      have eb : ¬ b.name = a.name := fun e => hne e.symm
      rw [if_pos rfl, if_neg eb]
      exact fun g hg e => new b hb' eb (fun g h1 h2 => hab g h2 h1) g hg e
    · by_cases eb : b.name = f.name
      · have e1 : b = f := sorted_name h.sorted hb' hf eb
        subst e1
        rw [if_neg ea, if_pos rfl]
        exact fun g hg e => new a ha ea hab g e hg
      · rw [if_neg ea, if_neg eb]
        exact hab
/-- a map's size bound is the map's size. -/
theorem owns_tight {D : DataW Unit} {n : Nat} (h : w.ownsMap Try.prog 9 ptrR mb n D) : w.ownsMap Try.prog 9 ptrR mb (Maps.size D) D := by
  obtain ⟨es, clock, hb, F, hs, rfl⟩ := h
  exact ⟨es, clock, hb, F, Nat.le_of_eq (by simp [Maps.size, length_sorted]), rfl⟩
/-- what a change of the map's entries leaves. -/
theorem DiskV.mapped (h : DiskV w F p mb kv d) (hF : ∀ i, F i → F' i) (hg : w.grownBy w' (some mb)) {D : DataW Unit} {n : Nat} (hm : w'.ownsMap Try.prog 9 ptrR mb n D) {ns : List Fd} (hD : MapIs D ns) (hf : ∀ f ∈ ns, FileV w F' f) (hn : ∀ f ∈ ns, nameB f.name = true) (hs : sortedF ns)
    (hb : ns.Pairwise fun a b => a.blk ≠ b.blk) (hsl : ns.Pairwise fun a b => ∀ g, blkB a.sl = some g → blkB b.sl ≠ some g) : DiskV w' F' p mb kv { d with ns := ns } := by
  obtain ⟨D0, hm0, _⟩ := h.map
  have keep : ∀ (i : Nat) (cs : Array Value) (t : TypeId), w.heap[i]? = some (.cells cs t (0, 0)) → w'.heap[i]? = w.heap[i]? := fun i cs t hi => hg.block i (Array.getElem?_eq_some_iff.1 hi).1 fun e => by
    injection e with e
    exact map_ne hi hm0 e
  refine ⟨(keep p _ _ h.head).trans h.head, ⟨D, by rw [← hD.size]; exact owns_tight hm, hD⟩, fun f hx => ?_, (h.keep.kept fun g cs _ hc => keep g cs _ hc).mono fun i hi _ => hF i hi, hn, hs, hb, hsl, hF p h.loP, hF mb h.loM⟩
  have hv := hf f hx
  exact ⟨(keep _ _ _ hv.cells).trans hv.cells, hv.own.kept fun g hg => by obtain ⟨_, ⟨cs, hc⟩, _⟩ := hv.own.blk hg; exact keep g cs _ hc, hv.lo⟩
theorem DiskV.tidy (h : DiskV w F p mb kv d) : ∃ D, w.ownsMap Try.prog 9 ptrR mb d.ns.length D ∧ MapIs D d.ns ∧ Tidy D := by
  obtain ⟨D, hm, hD⟩ := h.map
  exact ⟨D, hm, hD, hm.tidy law_str⟩
/-- a file is laid into the map. -/
theorem DiskV.ins (h : DiskV w F p mb kv d) (hF : ∀ i, F i → F' i) {D : DataW Unit} {n : Nat} {f : Fd} (hD : MapIs D d.ns) (hT : Tidy D) (hg : w.grownBy w' (some mb)) (hm : w'.ownsMap Try.prog 9 ptrR mb n (D.put (.string f.name) (.lit (.int .i64 f.blk)))) (hf : FileV w F' f) (hn : nameB f.name = true)
    (hb : ∀ g ∈ d.ns, g.name ≠ f.name → f.blk ≠ g.blk) (hsl : ∀ g ∈ d.ns, g.name ≠ f.name → ∀ i, blkB f.sl = some i → blkB g.sl ≠ some i) : DiskV w' F' p mb kv { d with ns := insF f d.ns } :=
  h.mapped hF hg hm (hD.put hT h.sorted f) (fun a ha => (mem_ins ha).elim (fun e => e ▸ hf) (fun ha => (h.files a ha).mono fun i hi _ => hF i hi)) (fun a ha => (mem_ins ha).elim (fun e => e ▸ hn) (h.names a)) (sorted_ins h.sorted)
    (pair_ins (R := fun a b => a.blk ≠ b.blk) (fun e => Ne.symm e) h.blks hb h.sorted) (pair_ins (R := fun a b => ∀ g, blkB a.sl = some g → blkB b.sl ≠ some g) (fun e g h1 h2 => e g h2 h1) h.sls hsl h.sorted)
/-- a name is taken out. -/
theorem DiskV.del (h : DiskV w F p mb kv d) {D : DataW Unit} {n : Nat} {y : Nm} (hD : MapIs D d.ns) (hT : Tidy D) (hg : w.grownBy w' (some mb)) (hm : w'.ownsMap Try.prog 9 ptrR mb n (D.del (.string y))) : DiskV w' F p mb kv { d with ns := delF y d.ns } :=
  h.mapped (fun _ hi => hi) hg hm (hD.del hT h.sorted y) (fun a ha => h.files a (mem_del.1 ha).1) (fun a ha => h.names a (mem_del.1 ha).1) (sorted_del h.sorted) (h.blks.sublist (sub_del y d.ns)) (h.sls.sublist (sub_del y d.ns))
end
end Go.Proofs.Ytcmjoaepihbodaa
end
section
namespace Go.Proofs
open Go.Shelf
def Try.keys50_ren : Go.Shelf.Ren := ⟨fun | 7 => 50 | 10 => 59 | n => n, fun | 23 => 70 | 26 => 9 | 3 => 69 | 28 => 94 | 0 => 0 | 27 => 93 | 33 => 67 | 4 => 4 | n => n, fun | n => n⟩
theorem Try.keys50 : Go.Proofs.SlLaysZ.n7 Try.prog Try.keys50_ren := {
  mixed := by kernel_rfl
  f7 := ⟨Try.f50.name, by decide, Try.func50.trans (congrArg some (by kernel_rfl))⟩
  f10 := ⟨Try.f59.name, by decide, Try.func59.trans (congrArg some (by kernel_rfl))⟩
  t0 := Try.underlying0
  a0 := Try.isAgg0
  z0 := Try.sizeOf0
  v0 := Try.zeroValue0
  t4 := Try.underlying4
  a4 := Try.isAgg4
  z4 := Try.sizeOf4
  v4 := Try.zeroValue4
  t23 := Try.underlying70
  a23 := Try.isAgg70
  z23 := Try.sizeOf70
  v23 := Try.zeroValue70
  t26 := Try.underlying9
  a26 := Try.isAgg9
  z26 := Try.sizeOf9
  v26 := Try.zeroValue9
  t27 := Try.underlying93
  a27 := Try.isAgg93
  z27 := Try.sizeOf93
  v27 := Try.zeroValue93
  t28 := Try.underlying94
  a28 := Try.isAgg94
  z28 := Try.sizeOf94
  v28 := Try.zeroValue94
  t33 := Try.underlying67
  a33 := Try.isAgg67
  z33 := Try.sizeOf67
  v33 := Try.zeroValue67 }
def Try.sorted49_ren : Go.Shelf.Ren := ⟨fun | 6 => 49 | 8 => 57 | 9 => 58 | 11 => 62 | 13 => 64 | 12 => 63 | 23 => 74 | 24 => 75 | 14 => 65 | 15 => 66 | 16 => 67 | 17 => 68 | 18 => 69 | 19 => 70 | 20 => 71 | 21 => 72 | 22 => 73 | 25 => 76 | 26 => 77 | 27 => 78 | 28 => 79 | 29 => 80 | 30 => 81 | 31 => 82 | n => n, fun | 26 => 9 | 28 => 94 | 24 => 59 | 0 => 0 | 3 => 3 | 37 => 53 | 48 => 116 | 50 => 118 | 4 => 4 | 40 => 108 | 39 => 107 | 45 => 113 | 5 => 5 | 9 => 9 | 51 => 119 | 55 => 123 | 57 => 125 | 58 => 126 | 33 => 67 | n => n, fun | n => n⟩
theorem Try.sorted49 : Go.Proofs.SlLaysZ.n6 Try.prog Try.sorted49_ren := {
  mixed := by kernel_rfl
  f6 := ⟨Try.f49.name, by decide, Try.func49.trans (congrArg some (by kernel_rfl))⟩
  f8 := ⟨Try.f57.name, by decide, Try.func57.trans (congrArg some (by kernel_rfl))⟩
  f11 := ⟨Try.f62.name, by decide, Try.func62.trans (congrArg some (by kernel_rfl))⟩
  t0 := Try.underlying0
  a0 := Try.isAgg0
  z0 := Try.sizeOf0
  v0 := Try.zeroValue0
  t24 := Try.underlying59
  a24 := Try.isAgg59
  z24 := Try.sizeOf59
  v24 := Try.zeroValue59
  t26 := Try.underlying9
  a26 := Try.isAgg9
  z26 := Try.sizeOf9
  v26 := Try.zeroValue9
  t28 := Try.underlying94
  a28 := Try.isAgg94
  z28 := Try.sizeOf94
  v28 := Try.zeroValue94
  i26 := by kernel_rfl }
def Try.sort58_ren : Go.Shelf.Ren := ⟨fun | 6 => 58 | 8 => 64 | 9 => 63 | 19 => 74 | 20 => 75 | 21 => 65 | 22 => 66 | 23 => 67 | 24 => 68 | 25 => 69 | 26 => 70 | 27 => 71 | 28 => 72 | 29 => 73 | 36 => 76 | 31 => 77 | 32 => 78 | 37 => 79 | 38 => 80 | 39 => 81 | 41 => 82 | n => n, fun | 27 => 59 | 29 => 9 | 3 => 3 | 32 => 53 | 26 => 59 | 0 => 0 | 44 => 116 | 46 => 118 | 4 => 4 | 36 => 108 | 35 => 107 | 41 => 113 | 5 => 5 | 9 => 9 | 53 => 119 | 57 => 123 | 63 => 125 | 64 => 126 | n => n, fun | n => n⟩
theorem Try.sort58 : Go.Proofs.SlLaysM.n6 Try.prog Try.sort58_ren := {
  mixed := by kernel_rfl
  f6 := ⟨Try.f58.name, by decide, Try.func58.trans (congrArg some (by kernel_rfl))⟩
  f8 := Try.func64.trans (congrArg some (by kernel_rfl))
  f9 := ⟨Try.f63.name, by decide, Try.func63.trans (congrArg some (by kernel_rfl))⟩
  f19 := Try.func74.trans (congrArg some (by kernel_rfl))
  f20 := Try.func75.trans (congrArg some (by kernel_rfl))
  f21 := ⟨Try.f65.name, by decide, Try.func65.trans (congrArg some (by kernel_rfl))⟩
  f22 := ⟨Try.f66.name, by decide, Try.func66.trans (congrArg some (by kernel_rfl))⟩
  f23 := ⟨Try.f67.name, by decide, Try.func67.trans (congrArg some (by kernel_rfl))⟩
  f24 := ⟨Try.f68.name, by decide, Try.func68.trans (congrArg some (by kernel_rfl))⟩
  f25 := ⟨Try.f69.name, by decide, Try.func69.trans (congrArg some (by kernel_rfl))⟩
  f26 := ⟨Try.f70.name, by decide, Try.func70.trans (congrArg some (by kernel_rfl))⟩
  f27 := ⟨Try.f71.name, by decide, Try.func71.trans (congrArg some (by kernel_rfl))⟩
  f28 := ⟨Try.f72.name, by decide, Try.func72.trans (congrArg some (by kernel_rfl))⟩
  f29 := ⟨Try.f73.name, by decide, Try.func73.trans (congrArg some (by kernel_rfl))⟩
  f31 := Try.func77.trans (congrArg some (by kernel_rfl))
  f32 := Try.func78.trans (congrArg some (by kernel_rfl))
  f36 := ⟨Try.f76.name, by decide, Try.func76.trans (congrArg some (by kernel_rfl))⟩
  f37 := ⟨Try.f79.name, by decide, Try.func79.trans (congrArg some (by kernel_rfl))⟩
  f38 := ⟨Try.f80.name, by decide, Try.func80.trans (congrArg some (by kernel_rfl))⟩
  f39 := ⟨Try.f81.name, by decide, Try.func81.trans (congrArg some (by kernel_rfl))⟩
  f41 := ⟨Try.f82.name, by decide, Try.func82.trans (congrArg some (by kernel_rfl))⟩
  t0 := Try.underlying0
  a0 := Try.isAgg0
  z0 := Try.sizeOf0
  v0 := Try.zeroValue0
  t3 := Try.underlying3
  a3 := Try.isAgg3
  z3 := Try.sizeOf3
  v3 := Try.zeroValue3
  t4 := Try.underlying4
  a4 := Try.isAgg4
  z4 := Try.sizeOf4
  v4 := Try.zeroValue4
  t5 := Try.underlying5
  a5 := Try.isAgg5
  z5 := Try.sizeOf5
  v5 := Try.zeroValue5
  t9 := Try.underlying9
  a9 := Try.isAgg9
  z9 := Try.sizeOf9
  v9 := Try.zeroValue9
  t26 := Try.underlying59
  a26 := Try.isAgg59
  z26 := Try.sizeOf59
  v26 := Try.zeroValue59
  t27 := Try.underlying59
  a27 := Try.isAgg59
  z27 := Try.sizeOf59
  v27 := Try.zeroValue59
  t29 := Try.underlying9
  a29 := Try.isAgg9
  z29 := Try.sizeOf9
  v29 := Try.zeroValue9
  t32 := Try.underlying53
  a32 := Try.isAgg53
  z32 := Try.sizeOf53
  v32 := Try.zeroValue53
  t35 := Try.underlying107
  a35 := Try.isAgg107
  z35 := Try.sizeOf107
  v35 := Try.zeroValue107
  t36 := Try.underlying108
  a36 := Try.isAgg108
  z36 := Try.sizeOf108
  v36 := Try.zeroValue108
  t41 := Try.underlying113
  a41 := Try.isAgg113
  z41 := Try.sizeOf113
  v41 := Try.zeroValue113
  t44 := Try.underlying116
  a44 := Try.isAgg116
  z44 := Try.sizeOf116
  v44 := Try.zeroValue116
  t46 := Try.underlying118
  a46 := Try.isAgg118
  z46 := Try.sizeOf118
  v46 := Try.zeroValue118
  t53 := Try.underlying119
  a53 := Try.isAgg119
  z53 := Try.sizeOf119
  v53 := Try.zeroValue119
  t57 := Try.underlying123
  a57 := Try.isAgg123
  z57 := Try.sizeOf123
  v57 := Try.zeroValue123
  t63 := Try.underlying125
  a63 := Try.isAgg125
  z63 := Try.sizeOf125
  v63 := Try.zeroValue125
  t64 := Try.underlying126
  a64 := Try.isAgg126
  z64 := Try.sizeOf126
  v64 := Try.zeroValue126 }
end Go.Proofs
namespace Go.Proofs
open Go.RowKit Go.Maps Go.Sort Go.Shelf
theorem Try.sorts49 (m : Nat) : AnyZ.SortsIn Try.prog Try.sorted49_ren Fence.wide m :=
  ⟨fun blk off cap ss W hH hblk hsz => callsIn_wide.2 (AnyM.slices_Sort_string Try.sort58 blk off cap ss W hH hblk hsz),
   fun p cap W => callsIn_wide.2 (AnyM.slices_Sort_string_none Try.sort58 p cap W)⟩
theorem Try.maps_Keys_50 (mb : Option Nat) (W : World) : CallsIn Fence.wide 5 Try.prog 50 #[.map mb] W fun e w' => e = .returned (.func (.func 59) #[] #[.pointer (some ⟨W.heap.size, 0, none⟩)]) ∧ w' = W.alloc (.cells #[.map mb] 70) :=
  AnyZ.keys_in Try.keys50 Fence.wide 5 trivial rfl mb W
set_option maxHeartbeats 1000000 in
theorem Try.slices_Sorted_keys_49_50 {H : Type} (b nn : Nat) (D0 : DataW H) (R : Value → Option (DataW H × List MemPlace)) (w : World) (hown : w.ownsMap Try.prog 9 R b nn D0) (hmax : Maps.size D0 ≤ maxLen) (hbytes : Maps.size D0 * 16 ≤ 140737488355328) :
    CallsIn Fence.wide 5 Try.prog 49 #[.func (.func 59) #[] #[.pointer (some ⟨w.heap.size, 0, none⟩)]] (w.alloc (.cells #[.map (some b)] 70)) fun e w' => ∃ (v : Value) (ss : List (List UInt8)), e = .returned v ∧ ss.Perm (strKeys D0) ∧
      w'.ownsRow (w.alloc (.cells #[.map (some b)] 70)).heap.size 9 1 v ss.length ((ss.mergeSort (fun x y => decide (x ≤ y))).map encStr) ∧ (v = .slice none 0 0 ↔ ss = []) ∧ Below (w.alloc (.cells #[.map (some b)] 70)).heap.size (w.alloc (.cells #[.map (some b)] 70)) w' := by
  have hbl := hown.lt
  have hseq : SeqGives Fence.wide 2 Try.prog 59 #[.pointer (some ⟨w.heap.size, 0, none⟩)] encStr (fun ss => ss.Perm (strKeys D0)) (Maps.size D0) (w.alloc (.cells #[.map (some b)] 70)) :=
    AnyZ.keys_gives (ρ := Try.keys50_ren) { Try.keys50 with } Fence.wide _ trivial rfl (by omega) w.heap.size b nn D0 _ (by simp) (by simp) (by
      obtain ⟨es, clock, hb, Ft, hs, hD⟩ := hown
      exact ⟨es, clock, (Below.heap_alloc _ _ b hbl).trans hb, Ft, hs, hD⟩)
  exact AnyZ.sorted_in Try.sorted49 Fence.wide 5 trivial trivial trivial trivial rfl (by omega) (Try.sorts49 _) (enters_of Try.func58 (by kernel_rfl) rfl) 59 #[.pointer (some ⟨w.heap.size, 0, none⟩)] trivial (enters_of Try.func59 (by kernel_rfl) rfl) _ _ hmax hbytes _ hseq
set_option maxHeartbeats 1000000 in
theorem Try.slices_Sorted_keys_nil_49_50 (w : World) :
    CallsIn Fence.wide 5 Try.prog 49 #[.func (.func 59) #[] #[.pointer (some ⟨w.heap.size, 0, none⟩)]] (w.alloc (.cells #[.map none] 70)) fun e w' => ∃ (v : Value) (ss : List (List UInt8)), e = .returned v ∧ ss = [] ∧
      w'.ownsRow (w.alloc (.cells #[.map none] 70)).heap.size 9 1 v ss.length ((ss.mergeSort (fun x y => decide (x ≤ y))).map encStr) ∧ (v = .slice none 0 0 ↔ ss = []) ∧ Below (w.alloc (.cells #[.map none] 70)).heap.size (w.alloc (.cells #[.map none] 70)) w' := by
  have hseq : SeqGives Fence.wide 2 Try.prog 59 #[.pointer (some ⟨w.heap.size, 0, none⟩)] encStr (fun ss : List (List UInt8) => ss = []) 0 (w.alloc (.cells #[.map none] 70)) :=
    AnyZ.keys_gives_nil (ρ := Try.keys50_ren) { Try.keys50 with } Fence.wide _ trivial rfl w.heap.size _ (by simp) (by simp)
  exact AnyZ.sorted_in Try.sorted49 Fence.wide 5 trivial trivial trivial trivial rfl (by omega) (Try.sorts49 _) (enters_of Try.func58 (by kernel_rfl) rfl) 59 #[.pointer (some ⟨w.heap.size, 0, none⟩)] trivial (enters_of Try.func59 (by kernel_rfl) rfl) _ 0 (Nat.zero_le _) (by omega) _ hseq
end Go.Proofs
end
section
namespace Go.Proofs.Ytcmjoaepihbodaa
open Go.RowKit Go.BigFrame Go.Sort Go.Shelf Go.Lib Go.Maps
attribute [local go_sem ↓] Go.wp_at_zero Go.wp_at_succ
theorem box_at {w w1 : World} {cs : Array Value} {t : TypeId} (hb : Below (w.alloc (.cells cs t)).heap.size (w.alloc (.cells cs t)) w1) : w1.heap[w.heap.size]? = some (.cells cs t (0, 0)) :=
  (hb.block w.heap.size (by simp)).trans (heap_alloc_new w _)
theorem box3 {w w1 : World} {a b c : Value} {t : TypeId} (hb : Below (w.alloc (.cells #[a, b, c] t)).heap.size (w.alloc (.cells #[a, b, c] t)) w1) : w1.cell? ⟨w.heap.size, 0, none⟩ = some a ∧ w1.cell? ⟨w.heap.size, 1, none⟩ = some b ∧ w1.cell? ⟨w.heap.size, 2, none⟩ = some c ∧ ∀ i, w1.frozen? ⟨w.heap.size, i, none⟩ = false := by
  have h := box_at hb
  refine ⟨?_, ?_, ?_, fun i => frozen_of_row w1 _ i _ _ h⟩ <;> (rw [cell_of_row w1 _ _ _ _ _ h]; rfl)
theorem KeepV.nil (w : World) (F : Nat → Prop) : KeepV w F (.slice none 0 0) [] := ⟨none, 0, rfl, Nat.le_refl _, by simp, fun h => absurd h (by simp)⟩
theorem KeepV.of_own {w : World} {base : Nat} {F : Nat → Prop} {v : Value} {zs : List Int} (h : w.ownsRow base 3 1 v zs.length (zs.map (Value.int .i64))) (hl : zs.length ≤ 140737488355328) (hF : ∀ i, base ≤ i → F i) : KeepV w F v zs := by
  rcases h.2 with ⟨rfl, h0⟩ | ⟨g, cap, cur, rfl, hbg, hh, hcap, hcm, hcs, ht⟩
  · have : zs = [] := List.eq_nil_of_length_eq_zero h0
    subst this
    exact KeepV.nil _ _
  · refine ⟨_, _, rfl, hcap, hl, fun _ => ⟨g, 0, cur, rfl, hF g hbg, hh, fun j z hj => ?_⟩⟩
    have h2 : (zs.map (Value.int .i64))[j]? = some (.int .i64 z) := by rw [List.getElem?_map, hj]; rfl
    rw [← ht, List.getElem?_take] at h2
    split at h2
    · rw [Nat.zero_add]; simpa using h2
    · cases h2
theorem KeepV.setHead {w : World} {F : Nat → Prop} {p : Nat} {kv : Value} {keep : List Int} {cs : Array Value} (h : KeepV w F kv keep) (hp : w.heap[p]? = some (.cells cs 72 (0, 0))) (i : Nat) (v : Value) : KeepV (w.setCell ⟨p, i, none⟩ v) F kv keep :=
  h.kept fun g cs' _ hg => heap_setCell_other w ⟨p, i, none⟩ g v (cells_ne hg hp (by decide))
theorem iclone_any (S : Nat → Prop) (v : Value) (zs : List Int) (w : World) (h : IntsIn w S v zs) (hl : zs.length * 8 ≤ 140737488355328) :
    Calls Try.prog 51 #[v] w fun r w' => ∃ v', r = .returned v' ∧ KeepV w' (fun i => w.heap.size ≤ i) v' zs ∧ Below w.heap.size w w' := by
  obtain ⟨A, c, rfl, _, _, hr⟩ := h
  rcases Nat.eq_zero_or_pos zs.length with h0 | h0
  · have hz : zs = [] := List.eq_nil_of_length_eq_zero h0
    subst hz
    cases A with
    | none =>
      refine (Try.slices_Clone_int_nil 0 c w).mono ?_
      rintro r w' ⟨rfl, rfl⟩
      exact ⟨_, rfl, KeepV.nil _ _, Below.refl _ _⟩
    | some a =>
      refine (Try.slices_Clone_int_zero a c w).mono ?_
      rintro r w' ⟨v', rfl, ho, _, hb⟩
      exact ⟨_, rfl, KeepV.of_own (zs := []) ho (by simp) (fun _ hi => hi), hb⟩
  · obtain ⟨b, o, rfl, _, _, hc⟩ := hr.2 h0
    refine (Try.slices_Clone_int b o zs.length c zs w (Nat.le_refl _) hl (fun j hj => ?_)).mono ?_
    · rw [hc j (.int .i64 zs[j]) (by simp [hj])]
      simp [hj]
    · rintro r w' ⟨v', rfl, ho, _, hb⟩
      rw [List.take_length] at ho
      exact ⟨_, rfl, KeepV.of_own ho (by omega) (fun _ hi => hi), hb⟩
set_option maxRecDepth 100000 in
set_option maxHeartbeats 2000000 in
theorem begin_any (F : Nat → Prop) (p mb : Nat) (kv : Value) (d : Dk) (S : Nat → Prop) (ops room : Int) (v : Value) (zs : List Int) (w : World) (h : DiskV w F p mb kv d) (hz : IntsIn w S v zs) (hl : zs.length * 8 ≤ 140737488355328) :
    Calls Try.prog 33 #[.pointer (some ⟨p, 0, none⟩), .agg #[.int .i64 ops, .int .i64 room, v]] w fun r w' => r = .returned (.tuple #[]) ∧ (∃ kv', DiskV w' (orNew F w.heap.size) p mb kv' { d with ops := ops, room := room, keep := zs, done := 0, down := false }) ∧ Only F w w' := by
  have H := Lib.hid h
  have hA : Below w.heap.size w (w.alloc (.cells #[.int .i64 ops, .int .i64 room, v] 25)) := (Below.refl _ _).alloc (Nat.le_refl _) _
  have HA := Lib.hid hA
  have HZ := Lib.hid (hz.below hA)
  obtain ⟨A, c, rfl, _⟩ := hz
  clear h hA
  go_enter Try.func33, Try.ntmps33
  go_upto_region 2 with (go_at_call 51; refine (iclone_any S _ zs _ HZ.out hl).mono ?_; rintro r w1 ⟨v', rfl, hk, hb1⟩; obtain ⟨A', c', rfl, hkr⟩ := hk; obtain ⟨b0, b1, b2, bf⟩ := box3 hb1)
  have hs1 : w1.heap.size ≤ (w1.setCell ⟨w.heap.size, 2, none⟩ (.slice A' zs.length c')).heap.size := by simp [World.setCell]
  have hp : p < w.heap.size := H.out.ltP
  have hbx := heap_setCell_same w1 w.heap.size 2 _ _ (.slice A' zs.length c') (box_at hb1)
  have hoth : ∀ i, i ≠ w.heap.size → (w1.setCell ⟨w.heap.size, 2, none⟩ (.slice A' zs.length c')).heap[i]? = w1.heap[i]? := fun i hi => heap_setCell_other w1 ⟨w.heap.size, 2, none⟩ i _ hi
  have hkk : KeepV (w1.setCell ⟨w.heap.size, 2, none⟩ (.slice A' zs.length c')) (orNew F w.heap.size) (.slice A' zs.length c') zs := by
    refine KeepV.kept (w := w1) ⟨A', c', rfl, hkr.1, hkr.2.1, fun hn => ?_⟩ fun g cs hg hc => hoth g ?_
    · obtain ⟨g, o, cs, e1, e2, e3, e4⟩ := hkr.2.2 hn
      exact ⟨g, o, cs, e1, .inr (by simp at e2; omega), e3, e4⟩
    · rintro rfl
      rw [box_at hb1] at hc
      injection hc with hc
      injection hc with _ hc
      exact absurd hc (by decide)
  have hBW : Below w.heap.size w (w1.setCell ⟨w.heap.size, 2, none⟩ (.slice A' zs.length c')) := (HA.out.trans (hb1.mono HA.out.size)).setCell (p := ⟨w.heap.size, 2, none⟩) (Nat.le_refl _) _
  obtain ⟨W, hW⟩ : ∃ W, W = w1.setCell ⟨w.heap.size, 2, none⟩ (.slice A' zs.length c') := ⟨_, rfl⟩
  rw [← hW] at hbx hkk hBW ⊢
  have hv := (H.out.below hBW).mono (F' := orNew F w.heap.size) fun i hi _ => .inl hi
  have HKK := Lib.hid hkk
  have HBW := Lib.hid hBW
  have y0 := cell_of_row W w.heap.size 0 _ _ _ hbx
  have y1 := cell_of_row W w.heap.size 1 _ _ _ hbx
  have y2 := cell_of_row W w.heap.size 2 _ _ _ hbx
  have yf : ∀ i, W.frozen? ⟨w.heap.size, i, none⟩ = false := fun i => frozen_of_row W _ i _ _ hbx
  obtain ⟨_, x1, x2, x3, x4, _, x6⟩ := hv.cell
  have xf := hv.frozen
  have HVW := Lib.hid hv
  have hbp : F p := H.out.loP
  simp only [Array.setIfInBounds, List.size_toArray, List.length_cons, List.length_nil] at y0 y1 y2
  clear hs1 hbx hoth hkk hBW hW hv hkr b0 b1 b2 bf hb1
  go_wp2
  refine bodyPost_end (v := .tuple #[]) (by simp [results, Try.results33, go_sem]) rfl ?_
  have s1 := HVW.out.store 1 (.int .i64 ops) { d with ops := ops } kv rfl HVW.out.keep rfl
  have s2 := s1.store 2 (.int .i64 room) { d with ops := ops, room := room } kv rfl s1.keep rfl
  have k2 := (HKK.out.setHead HVW.out.head 1 (.int .i64 ops)).setHead s1.head 2 (.int .i64 room)
  have s3 := s2.store 3 (.slice A' zs.length c') { d with ops := ops, room := room, keep := zs } _ rfl k2 rfl
  have s4 := s3.store 4 (.int .i64 0) { d with ops := ops, room := room, keep := zs, done := 0 } _ rfl s3.keep rfl
  have s5 := s4.store 6 (.bool false) { d with ops := ops, room := room, keep := zs, done := 0, down := false } _ rfl s4.keep rfl
  exact ⟨rfl, ⟨_, s5⟩, (((((Only.of_below HBW.out).setCell (p := ⟨p, 1, none⟩) hbp _).setCell (p := ⟨p, 2, none⟩) hbp _).setCell (p := ⟨p, 3, none⟩) hbp _).setCell (p := ⟨p, 4, none⟩) hbp _).setCell (p := ⟨p, 6, none⟩) hbp _⟩
theorem disk_start (w : World) (o : Obj) (W : World) (hW : W = ((w.alloc o).alloc (.map #[] 0)).alloc (.cells #[.map (some (w.heap.size + 1)), .int .i64 0, .int .i64 0, .slice none 0 0, .int .i64 0, .int .i64 0, .bool false] 72)) : DiskV W (fun i => w.heap.size ≤ i) (w.heap.size + 1 + 1) (w.heap.size + 1) (.slice none 0 0) ⟨[], 0, 0, [], 0, 0, false⟩ := by
  subst hW
  have hm := World.ownsMap_made (H := Unit) (w.alloc o) Try.prog 9 ptrR
  have hh := heap_alloc_new ((w.alloc o).alloc (.map #[] 0)) (.cells #[.map (some (w.heap.size + 1)), .int .i64 0, .int .i64 0, .slice none 0 0, .int .i64 0, .int .i64 0, .bool false] 72)
  simp only [World.size_alloc] at hm hh
  refine ⟨hh, ⟨_, ownsMap_block hm (Below.heap_alloc _ _ _ (by simp)), ⟨fun x => rfl, fun x => rfl, rfl⟩⟩, fun f hf => by simp at hf, KeepV.nil _ _, fun f hf => by simp at hf, List.Pairwise.nil, List.Pairwise.nil, List.Pairwise.nil, by omega, by omega⟩
set_option maxRecDepth 100000 in
set_option maxHeartbeats 2000000 in
theorem new_any (S : Nat → Prop) (ops room : Int) (v : Value) (zs : List Int) (w : World) (hz : IntsIn w S v zs) (hl : zs.length * 8 ≤ 140737488355328) :
    Calls Try.prog 21 #[.agg #[.int .i64 ops, .int .i64 room, v]] w fun r w' => ∃ p, r = .returned (.pointer (some ⟨p, 0, none⟩)) ∧ DiskP w' (fun i => w.heap.size ≤ i) p ⟨[], ops, room, zs, 0, 0, false⟩ ∧ Below w.heap.size w w' := by
  have hmm := @run_makeMap Try.prog
  have hA : Below w.heap.size w (w.alloc (.cells #[.int .i64 ops, .int .i64 room, v] 25)) := (Below.refl _ _).alloc (Nat.le_refl _) _
  have HZ := Lib.hid hz
  obtain ⟨A, c, rfl, _⟩ := hz
  go_enter Try.func21, Try.ntmps21
  go_wp2_with fail
  refine (begin_any (fun i => w.heap.size ≤ i) _ _ _ _ S ops room _ zs _ (disk_start w _ _ rfl) ((HZ.out.below hA).below (((Below.refl _ _).alloc (Nat.le_refl _) _).alloc (by simp) _)) hl).mono ?_
  rintro r w1 ⟨rfl, ⟨kv', hd⟩, hb⟩
  go_wp2
  refine bodyPost_ret (v := .pointer (some ⟨w.heap.size + 1 + 1, 0, none⟩)) (by simp [results, Try.results21, go_sem]) rfl ?_
  exact ⟨_, rfl, ⟨_, _, _, hd.mono fun i hi _ => hi.elim id (fun h => by simp at h; omega), rfl⟩, ((hA.alloc (by simp) _).alloc (by simp; omega) _).trans (hb.below (by simp; omega) fun i hi => hi)⟩
theorem names_strKeys {w : World} {mb : Nat} {D : DataW Unit} {ns : List Fd} {n : Nat} (hm : w.ownsMap Try.prog 9 ptrR mb n D) (hD : MapIs D ns) (hs : sortedF ns) {ss : List Nm} (hp : ss.Perm (strKeys D)) : ss.mergeSort (fun x y => decide (x ≤ y)) = ns.map Fd.name := by
  obtain ⟨es, rfl, hpw⟩ := hm.tidy law_str
  obtain ⟨es', he', hk⟩ := hm.keysOf
  injection he' with he'
  subst he'
  have hstr : ∀ q ∈ es, ∃ x, q.1 = .string x := fun q hq => by
    obtain ⟨v, hv⟩ := hk q hq
    obtain ⟨x, _, h2, _⟩ := Maps.keyOf_str Try.underlying9 hv
    exact ⟨x, h2⟩
  have hlt : (ns.map Fd.name).Pairwise (· < ·) := List.pairwise_map.2 hs
  have hnd : (ns.map Fd.name).Nodup := hlt.imp fun {a b} h e => by rw [e] at h; exact List.lt_irrefl _ h
  have hmem : ∀ x, x ∈ ns.map Fd.name ↔ Maps.has (.map es) (.string x) = true := fun x => by
    rw [hD.has]
    constructor
    · intro h
      obtain ⟨f, hf, rfl⟩ := List.mem_map.1 h
      rw [find_mem hs hf]; rfl
    · intro h
      cases hx : findF x ns with
      | none => rw [hx] at h; cases h
      | some f => exact List.mem_map.2 ⟨f, (find_name hx).2, (find_name hx).1⟩
  have hpm : (ns.map Fd.name).Perm (strKeys (.map es)) := perm_strKeys hpw hstr hnd hmem
  rw [mergeSort_of_perm (hp.trans hpm.symm)]
  exact List.mergeSort_of_pairwise (hlt.imp fun {a b} h => by simpa using List.le_of_lt h)
set_option maxHeartbeats 1000000 in
theorem names_any (F : Nat → Prop) (p mb : Nat) (kv : Value) (d : Dk) (w : World) (h : DiskV w F p mb kv d) (hl : d.ns.length * 16 ≤ 140737488355328) :
    Calls Try.prog 32 #[.pointer (some ⟨p, 0, none⟩)] w fun r w' => ∃ v, r = .returned v ∧ w'.ownsRow w.heap.size 9 1 v d.ns.length ((d.ns.map Fd.name).map encStr) ∧ Below w.heap.size w w' := by
  obtain ⟨D, hm, hD⟩ := h.map
  obtain ⟨x0, _⟩ := h.cell
  have hs := h.sorted
  refine (callsIn_wide (n := 6)).1 ?_
  have hfK : Fence.wide.fn 50 := trivial
  have hfS : Fence.wide.fn 49 := trivial
  refine callsIn_of_wp Try.func32 rfl trivial ?_ rfl
  simp only [Try.ntmps32, List.size_toArray, List.length_cons, List.length_nil, Nat.reduceAdd, Nat.reduceSub, Array.replicate_succ, Array.replicate_zero, List.push_toArray, List.append_toArray, List.nil_append, List.cons_append]
  gi_wp2_with (first
    | (gi_at_call 50; refine (Try.maps_Keys_50 _ _).mono ?_; rintro e w' ⟨rfl, rfl⟩)
    | (gi_at_call 49; refine (Try.slices_Sorted_keys_49_50 mb _ D ptrR w hm (by rw [hD.size]; unfold maxLen; omega) (by rw [hD.size]; exact hl)).mono ?_; rintro e w' ⟨v, ss, rfl, hS, hrow, hnil, hb⟩))
  go_ret
  have e1 := names_strKeys hm hD hs hS
  have e2 : ss.length = d.ns.length := by
    have := congrArg List.length e1
    simpa using this
  rw [e1, e2] at hrow
  exact ⟨v, rfl, ownsRow_base_a hrow (by simp), ((Below.refl _ w).alloc (Nat.le_refl _) _).trans (hb.mono (by simp))⟩
end Go.Proofs.Ytcmjoaepihbodaa
end
