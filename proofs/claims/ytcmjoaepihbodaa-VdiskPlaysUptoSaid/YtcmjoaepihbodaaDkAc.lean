/-
The files, the plan, the calls that come in.
-/
import Derived.Test.YtcmjoaepihbodaaOpnR
namespace Go.Proofs.Ytcmjoaepihbodaa
open Go.RowKit Go.ChangeShapes Go.WideShapes Go.Deep

/-- a call. -/
structure Ac where
  kind : Int
  name : Nm
  dest : Nm
  data : List UInt8
  ops : Int
  room : Int
  keep : List Int
instance : Inhabited Ac := ⟨⟨0, [], [], [], 0, 0, []⟩⟩
instance : Inhabited Fl := ⟨⟨[], [], 0⟩⟩
theorem IntsIn.keepR {w w' : World} {S S' : Nat → Prop} {v : Value} {zs : List Int} (h : IntsIn w S v zs) (hk : ∀ A n sz xs, Row w S A n sz xs → Row w' S' A n sz xs) : IntsIn w' S' v zs := by
  obtain ⟨A, c, e, h1, h2, h4⟩ := h
  exact ⟨A, c, e, h1, h2, hk _ _ _ _ h4⟩
def acR : Rd Ac := fun w S a cs => ∃ v kv, cs = [.int .i64 a.kind, .string ⟨a.name.toArray⟩, .string ⟨a.dest.toArray⟩, v, .int .i64 a.ops, .int .i64 a.room, kv] ∧ Byt w S v a.data ∧ IntsIn w S kv a.keep ∧ a.keep.length * 8 ≤ 140737488355328 ∧ a.name.length ≤ 140737488355328 ∧ a.dest.length ≤ 140737488355328 ∧ (Lit.int .i64 a.kind).wf = true ∧ (Lit.int .i64 a.ops).wf = true ∧ (Lit.int .i64 a.room).wf = true ∧ ∀ z ∈ a.keep, (Lit.int .i64 z).wf = true
theorem acFine : Fine acR 7 := ⟨fun h => by obtain ⟨v, kv, rfl, _⟩ := h; rfl, fun h hk => by obtain ⟨v, kv, rfl, h1, h2, h3⟩ := h; exact ⟨v, kv, rfl, h1.keepR hk, h2.keepR hk, h3⟩⟩
abbrev Acs (w : World) (S : Nat → Prop) (v : Value) (l : List Ac) : Prop := Rows acR 7 104 w S v l
theorem cells_fl : Try.prog.cellsOf 37 = 3 := by kernel_rfl
theorem cells_pl : Try.prog.cellsOf 25 = 3 := by kernel_rfl
theorem cells_ac : Try.prog.cellsOf 56 = 7 := by kernel_rfl
theorem bytes_fl : Try.prog.bytesOf 37 = 48 := by kernel_rfl
theorem bytes_ac : Try.prog.bytesOf 56 = 104 := by kernel_rfl
section
variable {H : Type} {enc : TypeId × Value → H} {w : World} {base : Nat} {held : Bool} {spare : Nat → Bool}
set_option maxRecDepth 100000 in
theorem open_fl (fuel : Nat) (cs : List Value) (x : DataW H × List MemPlace) (h : DataW.trod enc Try.prog w base spare held fuel 37 cs = some x) (hw : ∀ n ∈ x.1.weights Try.prog 37, n ≤ reachBytes) :
    ∃ f : Fl, flR w (fun _ => True) f cs ∧ f.data.length + 1 ≤ Rows.uptoBulk x.1 := by
  obtain ⟨y0, y1, y2, n, rfl, hl, h0, h1, h2⟩ := trod_struct3 Try.underlying37 h
  rw [cells_fl] at hl
  match cs, hl with
  | [c0, c1, c2], _ =>
    simp only [cells_s, cells_bs, cells_i, List.drop_zero, List.drop_succ_cons, List.take_succ_cons, List.take_zero] at h0 h1 h2
    simp only [DataW.weights, Try.underlying37, List.map_cons, List.map_nil, DataW.weightsEach, List.append_nil, List.mem_append] at hw
    obtain ⟨s, rfl, hs⟩ := open_str h0 (fun n hn => hw n (.inl hn))
    obtain ⟨bs, hb⟩ := open_byt h1 (fun n hn => hw n (.inr (.inl hn)))
    obtain ⟨z, hz, _, _⟩ := DataW.trod_int Try.underlying3 h2
    obtain rfl : c2 = .int .i64 z := by simpa using hz
    obtain ⟨A, c, rfl⟩ := slice_form hb
    have := bulk_slice Try.underlying35 h1
    have := bulk_one y0.1
    refine ⟨⟨s, bs, z⟩, ⟨_, rfl, hb, hs⟩, ?_⟩
    simp only [Rows.uptoBulk, Rows.uptoBulkAll]
    omega
set_option maxRecDepth 100000 in
theorem open_pl (fuel : Nat) (cs : List Value) (x : DataW H × List MemPlace) (h : DataW.trod enc Try.prog w base spare held fuel 25 cs = some x) (hw : ∀ n ∈ x.1.weights Try.prog 25, n ≤ reachBytes) :
    ∃ (ops room : Int) (zs : List Int) (kv : Value), cs = [.int .i64 ops, .int .i64 room, kv] ∧ IntsIn w (fun _ => True) kv zs ∧ zs.length * 8 ≤ 140737488355328 ∧ (Lit.int .i64 ops).wf = true ∧ (Lit.int .i64 room).wf = true ∧ ∀ z ∈ zs, (Lit.int .i64 z).wf = true := by
  obtain ⟨y0, y1, y2, n, rfl, hl, h0, h1, h2⟩ := trod_struct3 Try.underlying25 h
  rw [cells_pl] at hl
  match cs, hl with
  | [c0, c1, c2], _ =>
    simp only [cells_is, cells_i, List.drop_zero, List.drop_succ_cons, List.take_succ_cons, List.take_zero] at h0 h1 h2
    simp only [DataW.weights, Try.underlying25, List.map_cons, List.map_nil, DataW.weightsEach, List.append_nil, List.mem_append] at hw
    obtain ⟨a, ha, _, wa⟩ := DataW.trod_int Try.underlying3 h0
    obtain ⟨b, hb, _, wb⟩ := DataW.trod_int Try.underlying3 h1
    obtain ⟨zs, hz, hz8, wz⟩ := open_zs h2 (fun n hn => hw n (.inr (.inr hn)))
    obtain rfl : c0 = .int .i64 a := by simpa using ha
    obtain rfl : c1 = .int .i64 b := by simpa using hb
    exact ⟨a, b, zs, _, rfl, hz, hz8, wa, wb, wz⟩
set_option maxRecDepth 100000 in
theorem open_ac (fuel : Nat) (cs : List Value) (x : DataW H × List MemPlace) (h : DataW.trod enc Try.prog w base spare held fuel 56 cs = some x) (hw : ∀ n ∈ x.1.weights Try.prog 56, n ≤ reachBytes) :
    ∃ a : Ac, acR w (fun _ => True) a cs ∧ a.data.length + 1 ≤ Rows.uptoBulk x.1 := by
  obtain ⟨y0, y1, y2, y3, y4, n, rfl, hl, h0, h1, h2, h3, h4⟩ := trod_struct5 Try.underlying56 h
  rw [cells_ac] at hl
  match cs, hl with
  | [c0, c1, c2, c3, c4, c5, c6], _ =>
    simp only [cells_s, cells_bs, cells_i, cells_pl, List.drop_zero, List.drop_succ_cons, List.take_succ_cons, List.take_zero] at h0 h1 h2 h3 h4
    simp only [DataW.weights, Try.underlying56, List.map_cons, List.map_nil, DataW.weightsEach, List.append_nil, List.mem_append] at hw
    obtain ⟨z, hz, _, wz⟩ := DataW.trod_int Try.underlying3 h0
    obtain rfl : c0 = .int .i64 z := by simpa using hz
    obtain ⟨s, rfl, hs⟩ := open_str h1 (fun n hn => hw n (.inr (.inl hn)))
    obtain ⟨s', rfl, hs'⟩ := open_str h2 (fun n hn => hw n (.inr (.inr (.inl hn))))
    obtain ⟨bs, hb⟩ := open_byt h3 (fun n hn => hw n (.inr (.inr (.inr (.inl hn)))))
    obtain ⟨ops, room, zs, kv, he, hk, hk8, wo, wr, wk⟩ := open_pl _ _ _ h4 (fun n hn => hw n (.inr (.inr (.inr (.inr hn)))))
    simp only [List.cons.injEq, and_true] at he
    obtain ⟨rfl, rfl, rfl⟩ := he
    obtain ⟨A, c, rfl⟩ := slice_form hb
    have := bulk_slice Try.underlying35 h3
    have := bulk_one y0.1
    refine ⟨⟨z, s, s', bs, ops, room, zs⟩, ⟨_, _, rfl, hb, hk, hk8, hs, hs', wz, wo, wr, wk⟩, ?_⟩
    simp only [Rows.uptoBulk, Rows.uptoBulkAll]
    omega
set_option maxRecDepth 100000 in
theorem arg_files {r : Reach} {b0 : Nat} {v : Value} {d : DataW H} {ps : List MemPlace} (hval : Value.okWide Try.prog w r b0 22 v) (hd : DataW.Trod enc Try.prog w base spare held 22 v d ps) (hw : ∀ n ∈ d.weights Try.prog 22, n ≤ reachBytes) :
    ∃ fs, FilesV w (fun _ => True) v fs := by
  obtain ⟨n, hn⟩ := arg_slice Try.underlying22 hval hd
  obtain ⟨fs, h, _⟩ := open_rows (R := flR) (by decide) Try.underlying22 cells_fl bytes_fl (fun f => f.data.length + 1) open_fl hn hw
  exact ⟨fs, h⟩
set_option maxRecDepth 100000 in
theorem arg_files_upto {r : Reach} {b0 : Nat} {v : Value} {d : DataW H} {ps : List MemPlace} (hval : Value.okWide Try.prog w r b0 22 v) (hd : DataW.Trod enc Try.prog w base spare held 22 v d ps) (hw : ∀ n ∈ d.weights Try.prog 22, n ≤ reachBytes)
    (hk : Rows.uptoBulk d ≤ 1048576) : ∃ fs, FilesV w (fun _ => True) v fs ∧ (fs.map fun f => f.data.length + 1).sum ≤ 1048576 := by
  obtain ⟨n, hn⟩ := arg_slice Try.underlying22 hval hd
  obtain ⟨fs, h, hs⟩ := open_rows (R := flR) (by decide) Try.underlying22 cells_fl bytes_fl (fun f => f.data.length + 1) open_fl hn hw
  exact ⟨fs, h, Nat.le_trans hs hk⟩
set_option maxRecDepth 100000 in
theorem arg_acts_upto {r : Reach} {b0 : Nat} {v : Value} {d : DataW H} {ps : List MemPlace} (hval : Value.okWide Try.prog w r b0 52 v) (hd : DataW.Trod enc Try.prog w base spare held 52 v d ps) (hw : ∀ n ∈ d.weights Try.prog 52, n ≤ reachBytes)
    (hk : Rows.uptoBulk d ≤ 1048576) : ∃ l, Acs w (fun _ => True) v l ∧ (l.map fun a => a.data.length + 1).sum ≤ 1048576 := by
  obtain ⟨n, hn⟩ := arg_slice Try.underlying52 hval hd
  obtain ⟨l, h, hs⟩ := open_rows (R := acR) (by decide) Try.underlying52 cells_ac bytes_ac (fun a => a.data.length + 1) open_ac hn hw
  exact ⟨l, h, Nat.le_trans hs hk⟩
set_option maxRecDepth 100000 in
theorem arg_bytes_upto {r : Reach} {b0 : Nat} {v : Value} {d : DataW H} {ps : List MemPlace} (hval : Value.okWide Try.prog w r b0 35 v) (hd : DataW.Trod enc Try.prog w base spare held 35 v d ps) (hw : ∀ n ∈ d.weights Try.prog 35, n ≤ reachBytes)
    (hk : Rows.uptoBulk d ≤ 1048576) : ∃ bs, Byt w (fun _ => True) v bs ∧ bs.length ≤ 1048576 := by
  obtain ⟨n, hn⟩ := arg_slice Try.underlying35 hval hd
  obtain ⟨bs, hb⟩ := open_byt hn hw
  obtain ⟨A, c, rfl⟩ := slice_form hb
  exact ⟨bs, hb, Nat.le_trans (bulk_slice Try.underlying35 hn) hk⟩
/-- a plan as an argument. -/
def PlanV (w : World) (S : Nat → Prop) (v : Value) (a : Int × Int × List Int) : Prop := ∃ kv, v = .agg #[.int .i64 a.1, .int .i64 a.2.1, kv] ∧ IntsIn w S kv a.2.2 ∧ a.2.2.length * 8 ≤ 140737488355328 ∧ (Lit.int .i64 a.1).wf = true ∧ (Lit.int .i64 a.2.1).wf = true ∧ ∀ z ∈ a.2.2, (Lit.int .i64 z).wf = true
set_option maxRecDepth 100000 in
theorem arg_plan {r : Reach} {b0 : Nat} {v : Value} {d : DataW H} {ps : List MemPlace} (hval : Value.okWide Try.prog w r b0 25 v) (hd : DataW.Trod enc Try.prog w base spare held 25 v d ps) (hw : ∀ n ∈ d.weights Try.prog 25, n ≤ reachBytes) :
    ∃ a, PlanV w (fun _ => True) v a := by
  obtain ⟨n, hn⟩ := hd
  have hv : ∃ cs, v = .agg cs := by
    unfold Value.okWide at hval
    rw [Try.underlying25] at hval
    obtain ⟨cs, e, _⟩ := hval
    exact ⟨cs, e⟩
  obtain ⟨cs, rfl⟩ := hv
  obtain ⟨ops, room, zs, kv, he, hk, hk8, wo, wr, wk⟩ := open_pl _ _ _ hn hw
  have he' : cs.toList = [.int .i64 ops, .int .i64 room, kv] := he
  obtain rfl : cs = #[.int .i64 ops, .int .i64 room, kv] := by cases cs; simp_all
  exact ⟨(ops, room, zs), kv, rfl, hk, hk8, wo, wr, wk⟩
end
end Go.Proofs.Ytcmjoaepihbodaa
