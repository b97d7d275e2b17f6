/-
The card ManifestSweepsUptoCardSaid is proved: for every input that the row lets in the law returns true and its arguments read as before. No conditions of ours.
-/
import Derived.Test.YtjnolpfmchnnmaaGreatDoorCards
import Derived.Test.YtjnolpfmchnnmaaGreatDoorTie
import Derived.Test.YtjnolpfmchnnmaaGreatDoorQPSwUpto18
import Derived.ProofKit
import Derived.OpenShut
import Derived.ShutString
import Derived.ChangeOld
import Derived.Below
import Derived.Deep.DeepHandedRow
import Derived.Deep.DeepWitnessRowRef
import Derived.Lib.LaidTab
import Derived.Stop.LaidErr
import Derived.LaidMore
namespace Go.Proofs.YtjnolpfmchnnmaaGreatDoor.manifestSweepsUpto
open Go.ChangeShapes Go.WideShapes Go.ChangeAt Go.RowKit
theorem own : ownKnob Tryz.prog.godebug = none := by kernel_rfl
theorem laidOut : laidOutB Tryz.prog = true := by kernel_rfl
theorem tabType : (Tryz.prog.globals[tabG]?).map (·.type) = some 380 := by kernel_rfl
theorem tabCells : Tryz.prog.cellsOf 380 = 20 := by kernel_rfl
theorem tabCell : Tryz.prog.cellsOf 240 = 1 := by kernel_rfl
theorem table {W : World} (h : laidMetH Tryz.prog Rows.manifestSweepsUptoRow.laid W) : TabW W := by
  rw [MakeChecks.laidMetH_plain _ _ _ (by kernel_rfl)] at h
  exact Lib.tabIs_of_head gTab tabType Tryz.underlying380 Tryz.underlying240 tabCell tabCells ((h).tail).tail
theorem gRng : Tryz.prog.globalNamed "strconv.ErrRange" = some rngG := by kernel_rfl
theorem gSyn : Tryz.prog.globalNamed "strconv.ErrSyntax" = some synG := by kernel_rfl
theorem gRngType : (Tryz.prog.globals[rngG]?).map (·.type) = some 141 := by kernel_rfl
theorem gSynType : (Tryz.prog.globals[synG]?).map (·.type) = some 141 := by kernel_rfl
theorem cellsE : Tryz.prog.cellsOf 360 = 1 := by kernel_rfl
theorem cellsT : Tryz.prog.cellsOf 9 = 1 := by kernel_rfl
theorem starE : "*" ++ "errors.errorString" = "*errors.errorString" := by decide
theorem rowE (u : TypeId) (h : Tryz.prog.typeName? 3 u = some "*errors.errorString") : u = 358 :=
  typeName_ptr_named (nm := "errors.errorString") (by rw [starE]; kernel_rfl) (by kernel_rfl) (by decide) u (by rw [starE]; exact h)
theorem errs {W : World} (h : laidMetH Tryz.prog Rows.manifestSweepsUptoRow.laid W) : ErrW W := by
  rw [MakeChecks.laidMetH_plain _ _ _ (by kernel_rfl)] at h
  obtain ⟨_, _, hv0, _⟩ := laid_sentinel h.tail.tail.tail gRng gRngType Tryz.underlying141 rowE Tryz.underlying358 Tryz.underlying360 rfl rfl Tryz.underlying9 cellsE cellsT
  obtain ⟨_, _, hv1, _⟩ := laid_sentinel h.tail.tail.tail.tail gSyn gSynType Tryz.underlying141 rowE Tryz.underlying358 Tryz.underlying360 rfl rfl Tryz.underlying9 cellsE cellsT
  exact ⟨⟨_, _, by simpa using World.var?_cell gSyn hv1 0⟩, _, _, by simpa using World.var?_cell gRng hv0 0⟩
set_option maxRecDepth 100000 in
theorem contract (H : Type) (enc : TypeId × Value → H) (W : World) (base : Nat) (args : Array Value) (ds gs : List (DataW H)) (before : List MemPlace)
    (hval0 : ∀ (j : Nat) t v, Tryz.f9.params[j]? = some t → args[j]? = some v → Value.okWide Tryz.prog W .any base t v)
    (hW : DataW.Whole enc Tryz.prog Tryz.f9.params.toList Rows.manifestSweepsSpec.vars false W args.toList ds gs before) (hk0 : Rows.uptoSmall H (ds ++ gs) = true)
    (hsz0 : (DataW.weightsEach Tryz.prog (Tryz.f9.params.toList ++ Rows.manifestSweepsSpec.plain.varTypes Tryz.prog) (ds ++ gs)).all (· ≤ reachBytes) = true) (hL : laidMetH Tryz.prog Rows.manifestSweepsUptoRow.laid W) :
    Calls Tryz.prog 9 args W fun e W' => ∃ v, e = .returned v ∧ Rows.manifestSweepsSpec.post enc Tryz.prog Tryz.f9 false true false false W args v W' := by
  have ht := table hL
  have he := errs hL
  have hsz := hsz0
  have hval : ∀ (j : Nat) t v, Tryz.f9.params[j]? = some t → args[j]? = some v → Value.okWide Tryz.prog W .any base t v := hval0
  have hW' := hW
  obtain ⟨p, q, hA0, hV, rfl, hfz, hnd⟩ := hW
  have hA : DataW.TrodAll enc Tryz.prog W 0 (fun _ => true) true Tryz.f9.params.toList args.toList ds p := hA0
  rw [Tryz.params9] at hA hval hsz
  obtain ⟨v0, vs0, d0, ds0, p0, q0, hargs, rfl, rfl, h0, r0⟩ := trodAll_cons hA
  obtain ⟨v1, vs1, d1, ds1, p1, q1, rfl, rfl, rfl, h1, r1⟩ := trodAll_cons r0
  obtain ⟨v2, vs2, d2, ds2, p2, q2, rfl, rfl, rfl, h2, r2⟩ := trodAll_cons r1
  obtain ⟨rfl, rfl, rfl⟩ := trodAll_nil r2
  obtain rfl : args = #[v0, v1, v2] := by cases args; simp_all
  obtain ⟨rfl, rfl⟩ := trodVars_none hV
  have hk : Rows.uptoBulkAll [d0, d1, d2] ≤ 1048576 := of_decide_eq_true hk0
  simp only [Rows.uptoBulkAll] at hk
  have k0 := h0
  have lt0 : ∀ x ∈ p0, x.block < W.heap.size := by obtain ⟨m, hm⟩ := k0; exact DataW.trod_lt m _ _ _ hm
  have k1 := h1
  have lt1 : ∀ x ∈ p1, x.block < W.heap.size := by obtain ⟨m, hm⟩ := k1; exact DataW.trod_lt m _ _ _ hm
  have k2 := h2
  have lt2 : ∀ x ∈ p2, x.block < W.heap.size := by obtain ⟨m, hm⟩ := k2; exact DataW.trod_lt m _ _ _ hm
  have s0 : ∀ n ∈ d0.weights Tryz.prog 45, n ≤ reachBytes := fun n hn => of_decide_eq_true (List.all_eq_true.1 hsz _ (DataW.weights_mem_each (j := 0) (t := 45) rfl rfl n hn))
  obtain ⟨a0, w0⟩ := arg_editQ (hval 0 45 v0 rfl rfl) h0 s0
  have s1 : ∀ n ∈ d1.weights Tryz.prog 26, n ≤ reachBytes := fun n hn => of_decide_eq_true (List.all_eq_true.1 hsz _ (DataW.weights_mem_each (j := 1) (t := 26) rfl rfl n hn))
  obtain ⟨a1, w1, x1⟩ := arg_ids_upto (hval 1 26 v1 rfl rfl) h1 s1 (by omega)
  have s2 : ∀ n ∈ d2.weights Tryz.prog 64, n ≤ reachBytes := fun n hn => of_decide_eq_true (List.all_eq_true.1 hsz _ (DataW.weights_mem_each (j := 2) (t := 64) rfl rfl n hn))
  obtain ⟨a2, w2, x2⟩ := arg_names_upto (hval 2 64 v2 rfl rfl) h2 s2 (by omega)
  clear hA0 hval0 hsz0 hsz
  refine (manifestSweepsArg v0 a0 v1 a1 v2 a2 W w0 w1 x1 w2 x2 ht he).mono fun e W' ⟨he, bel⟩ => ?_
  subst he
  exact ⟨_, rfl, _, _, _, [], _, [], hW', trodAll_mk1 (shut_bool Tryz.underlying4 _), (trodAll_cons_mk (Below.trod laidOut (by kernel_rfl) (of_decide_eq_true (by kernel_rfl)) k0 bel lt0) (trodAll_cons_mk (Below.trod laidOut (by kernel_rfl) (of_decide_eq_true (by kernel_rfl)) k1 bel lt1) (trodAll_cons_mk (Below.trod laidOut (by kernel_rfl) (of_decide_eq_true (by kernel_rfl)) k2 bel lt2) trodAll_mk0))), rfl, bel.frame _, fun h => by cases h⟩
theorem laid_met (os : Os) : laidMet Tryz.prog Rows.manifestSweepsUptoRow.laid ((World.doorLaid Tryz.prog 62 os).forCall (fun _ _ => 0) ⟨#[], #[.agg #[.slice none 0 0, .slice none 0 0, .int .i64 0, .int .i64 0], .slice none 0 0, .slice none 0 0], []⟩).memory :=
  laidMet_of_run' 8 (by kernel_rfl) (by kernel_rfl)
theorem reads (os : Os) {H : Type} (enc : TypeId × Value → H) : ∃ places, DataW.whole enc Tryz.prog ((World.doorLaid Tryz.prog 62 os).forCall (fun _ _ => 0) ⟨#[], #[.agg #[.slice none 0 0, .slice none 0 0, .int .i64 0, .int .i64 0], .slice none 0 0, .slice none 0 0], []⟩).memory Tryz.f9.params.toList Rows.manifestSweepsSpec.vars false (#[.agg #[.slice none 0 0, .slice none 0 0, .int .i64 0, .int .i64 0], .slice none 0 0, .slice none 0 0] : Array Value).toList 8 = some ([.agg [.nil, .nil, .lit (.int .i64 0), .lit (.int .i64 0)], .nil, .nil], [], places) :=
  ⟨[], by kernel_rfl⟩
set_option maxRecDepth 100000 in
theorem lifted (os : Os) (started : os.Started) (H : Type) (enc : TypeId × Value → H) (F : Stop.Interp) :
    ReturnsInHanded {} Tryz.checked os 9 .any ((Rows.OpenSpec.upto Rows.manifestSweepsSpec).preRow enc Tryz.prog Tryz.f9 Rows.manifestSweepsUptoRow.domain false Rows.manifestSweepsUptoRow.laid) (((Rows.OpenSpec.upto Rows.manifestSweepsSpec).at F).post enc Tryz.prog Tryz.f9 false true false false) := by
  obtain ⟨places, hx⟩ := reads os enc
  refine returnsInHanded_of_row (C := Tryz.checked) (s := Rows.OpenSpec.upto Rows.manifestSweepsSpec) own started (by kernel_rfl) Tryz.func9
    (witness_row_atRef (enc := enc) (C := Tryz.checked) false (World.doorLaid Tryz.prog 62 os) #[.agg #[.slice none 0 0, .slice none 0 0, .int .i64 0, .int .i64 0], .slice none 0 0, .slice none 0 0] rfl (by kernel_rfl) (by kernel_rfl) (by kernel_rfl)
      (OpenSpec.preRow_of_cond 8 hx (by kernel_rfl) (fun k hk => by cases hk; kernel_rfl) (by kernel_rfl) (laid_met os))) ?_
  intro W base args ds gs before hval hW _ hcond hsz hL _ _
  exact contract H enc W base args ds gs before hval hW (hcond _ rfl) hsz hL
set_option maxRecDepth 100000 in
theorem rowed (os : Os) (started : os.Started) (H : Type) (enc : TypeId × Value → H) (F : Stop.Interp) :
    ReturnsInHanded {} Tryz.checked os 9 .any (Rows.manifestSweepsUptoRow.pre enc Tryz.prog Tryz.f9 (Rows.OpenSpec.upto Rows.manifestSweepsSpec)) (((Rows.OpenSpec.upto Rows.manifestSweepsSpec).at F).post enc Tryz.prog Tryz.f9 false true false false) := by
  rw [OpenClaim.pre_eq_preRow]
  exact lifted os started H enc F
theorem closedInPlace : (Rows.manifestSweepsUptoRow.inPlace == Tryz.pinned.checked.prog.inPlace 9) = true := by kernel_rfl
theorem closedUnfollowed : (Rows.manifestSweepsUptoRow.unfollowed == Tryz.pinned.checked.prog.unfollowed 9) = true := by kernel_rfl
theorem closedRecurses : (Rows.manifestSweepsUptoRow.recurses == Tryz.pinned.checked.prog.recurses 9) = true := by kernel_rfl
theorem closedNamed : (Rows.manifestSweepsUptoRow.named == Tryz.pinned.checked.prog.varsNamed 9) = true := by kernel_rfl
theorem closed : joinedFacts Tryz.pinned.checked.prog 9 Tryz.f9 (Rows.OpenSpec.upto Rows.manifestSweepsSpec).bare Rows.manifestSweepsUptoRow = true := by
  unfold joinedFacts
  rw [closedInPlace, closedUnfollowed, closedRecurses, closedNamed]
  kernel_rfl
set_option maxHeartbeats 4000000 in
theorem said : Rows.ManifestSweepsUptoSaid :=
  OpenClaim.holds_of_cond 9 Tryz.f9 rfl rfl rfl rfl rfl rfl rfl ⟨rfl, rfl, rfl, rfl, rfl⟩ rfl rfl rfl rfl rfl (by as_aux_lemma => kernel_rfl) Tryz.func9 closed
    (of_decide_eq_true (by as_aux_lemma => kernel_rfl)) (by as_aux_lemma => unfold Func.isWrapper; first | (rw [if_pos (by decide +kernel)]; kernel_rfl) | (rw [if_neg (by decide +kernel)]; exact ⟨rfl, rfl⟩))
    (fun os started H enc _ F => rowed os started H enc F)
theorem plain (f : FuncId) (fn : Func) (hf : Tryz.pinned.checked.prog.funcNamed "usance/usancelaw13.ManifestSweeps" = some f) (hfn : Tryz.pinned.checked.prog.funcs[f]? = some fn) :
    true = Tryz.pinned.checked.prog.looks [] ∧ ∀ (j : Nat) t, fn.params[j]? = some t → Tryz.pinned.checked.prog.wantsStandIn t = false := by
  obtain rfl : f = 9 := Option.some.inj ((show Tryz.prog.funcNamed "usance/usancelaw13.ManifestSweeps" = some 9 by kernel_rfl).symm.trans hf) |>.symm
  obtain rfl : fn = Tryz.f9 := (Option.some.inj (Tryz.func9.symm.trans hfn)).symm
  refine ⟨by kernel_rfl, fun j t ht => ?_⟩
  rw [Tryz.params9] at ht
  have hm : t ∈ [45, 26, 64] := by simpa using Array.mem_of_getElem? ht
  have hall : ([45, 26, 64].all fun u => !Tryz.prog.wantsStandIn u) = true := by kernel_rfl
  exact (show Tryz.prog.wantsStandIn t = false by simpa using List.all_eq_true.1 hall t hm)
theorem proved : Rows.ManifestSweepsUptoCardSaid :=
  Claim7.holds_tied_plain_at .later [] _ _ _ _ said (fun _ h => by cases h) (by kernel_rfl) (fun _ h => by cases h) manifestSweepsUpto_row_tie rfl ⟨rfl, rfl⟩ (by kernel_rfl) rfl plain (by kernel_rfl)
#print axioms proved
end Go.Proofs.YtjnolpfmchnnmaaGreatDoor.manifestSweepsUpto
