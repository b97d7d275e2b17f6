/-
manifest.Version, Apply.
-/
import Derived.Test.YtjnolpfmchnnmaaGreatDoorQPSwUpto9
import Derived.Test.YtjnolpfmchnnmaaGreatDoorQPSwUpto4
import Derived.Test.YtjnolpfmchnnmaaGreatDoorQPSwUpto3
import Derived.OrdersHeld
import Derived.StillTail
import Derived.Deep.RegionHeld
import Derived.Test.YtjnolpfmchnnmaaGreatDoorProg
import Derived.Test.YtjnolpfmchnnmaaGreatDoorQPSwUpto6
import Derived.Test.YtjnolpfmchnnmaaGreatDoorQPSwUpto8
import Derived.Deep.RegionHeld3
section
namespace Go.Proofs.YtjnolpfmchnnmaaGreatDoor
set_option maxRecDepth 100000
open Go.RowKit Go.BigFrame Go.Sort Go.Shelf Go.Lib
attribute [local go_sem ↓] Go.wp_at_zero Go.wp_at_succ
abbrev numFV (B : Nat) : Value := .func (.func 202) #[] #[.pointer (some ⟨B + 3, 0, none⟩), .pointer (some ⟨B, 0, none⟩), .pointer (some ⟨B + 2, 0, none⟩)]
structure RdI (w : World) (B : Nat) (bv : Value) (k : Nat) : Prop where
  byts : Boxed w B 35 bv
  at_ : Boxed w (B + 2) 3 (.int .i64 k)
  why : Boxed w (B + 3) 31 (.int .i64 0)
  num : Boxed w (B + 4) 36 (numFV B)
theorem RdI.only {w w' : World} {B k : Nat} {bv : Value} {S : Nat → Prop} (h : RdI w B bv k) (ho : Only S w w') (hS : ∀ i, S i → i < B ∨ B + 4 < i) : RdI w' B bv k :=
  ⟨boxedOnly h.byts ho fun h => by have := hS _ h; omega, boxedOnly h.at_ ho fun h => by have := hS _ h; omega, boxedOnly h.why ho fun h => by have := hS _ h; omega, boxedOnly h.num ho fun h => by have := hS _ h; omega⟩
theorem RdI.below {w w' : World} {B k : Nat} {bv : Value} (h : RdI w B bv k) (hf : fr w w') : RdI w' B bv k := h.only (S := fun _ => False) (Only.of_below hf) fun _ h => h.elim
theorem RdI.step {w : World} {B k k' : Nat} {bv : Value} {z : Int} (h : RdI w B bv k) (hz : z = (k' : Int)) : RdI ((w.setCell ⟨B + 2, 0, none⟩ (.int .i64 z)).setCell ⟨B + 3, 0, none⟩ (.int .i64 0)) B bv k' ∧ Only (fun i => i = B + 2 ∨ i = B + 3) w ((w.setCell ⟨B + 2, 0, none⟩ (.int .i64 z)).setCell ⟨B + 3, 0, none⟩ (.int .i64 0)) := by
  subst hz
  refine ⟨⟨(h.byts.other (by omega) _).other (by omega) _, ((h.at_.set _).other (by omega) _), (h.why.other (by omega) _).set _, (h.num.other (by omega) _).other (by omega) _⟩, ?_⟩
  exact ((only_set w (B + 2) 0 _).mono fun i h => .inl h).trans ((only_set _ (B + 3) 0 _).mono fun i h => .inr h)
set_option maxRecDepth 100000 in
set_option maxHeartbeats 1000000 in
theorem numR_any (S : Nat → Prop) (B b o n c k v : Nat) (bs rest : List UInt8) (w : World) (h : RdI w B (.slice (some ⟨b, o, none⟩) n c) k) (hv : Byt w S (.slice (some ⟨b, o, none⟩) n c) bs) (hn : bs.length = n) (hk : k ≤ n) (hr : bs.drop k = formN v ++ rest) (h63 : v < 9223372036854775808) :
    Calls Tryz.prog 202 #[.pointer (some ⟨B + 3, 0, none⟩), .pointer (some ⟨B, 0, none⟩), .pointer (some ⟨B + 2, 0, none⟩)] w fun r w' => r = .returned (.int .i64 v) ∧ RdI w' B (.slice (some ⟨b, o, none⟩) n c) (k + (formN v).length) ∧ Only (fun i => i = B + 2 ∨ i = B + 3) w w' := by
  have HU := Lib.hid (uint_any S b o n c k v bs rest w hv hn hk hr (by omega))
  have h1 := h.byts.cell
  have h2 := h.at_.cell
  have h3 := h.why.cell
  have z2 := h.at_.frozen
  obtain ⟨q, hq⟩ : ∃ q, k + (formN v).length = q := ⟨_, rfl⟩
  rw [hq] at HU ⊢
  have H := Lib.hid h
  have h4 := (h.why.other (show B + 3 ≠ B + 2 by omega) (.int .i64 q)).cell
  have z4 := (h.why.other (show B + 3 ≠ B + 2 by omega) (.int .i64 q)).frozen
  clear hv hn hk hr h hq
  go_enter Tryz.func202, Tryz.ntmps202
  go_wp2_with (go_at_call 150; refine HU.out.mono ?_; rintro r w1 ⟨rfl, rfl⟩)
  go_ret
  obtain ⟨r1, r2⟩ := H.out.step (k' := q) rfl
  exact ⟨rfl, r1, r2⟩
set_option maxRecDepth 100000 in
set_option maxHeartbeats 1000000 in
theorem numR_wide (S : Nat → Prop) (B b o n c k v : Nat) (bs rest : List UInt8) (w : World) (h : RdI w B (.slice (some ⟨b, o, none⟩) n c) k) (hv : Byt w S (.slice (some ⟨b, o, none⟩) n c) bs) (hn : bs.length = n) (hk : k ≤ n) (hr : bs.drop k = formN v ++ rest) (h64 : v < 18446744073709551616) (z : Int) (hz : wrap64 (v : Int) = z) :
    Calls Tryz.prog 202 #[.pointer (some ⟨B + 3, 0, none⟩), .pointer (some ⟨B, 0, none⟩), .pointer (some ⟨B + 2, 0, none⟩)] w fun r w' => r = .returned (.int .i64 z) ∧ RdI w' B (.slice (some ⟨b, o, none⟩) n c) (k + (formN v).length) ∧ Only (fun i => i = B + 2 ∨ i = B + 3) w w' := by
  have HU := Lib.hid (uint_any S b o n c k v bs rest w hv hn hk hr h64)
  have h1 := h.byts.cell
  have h2 := h.at_.cell
  have h3 := h.why.cell
  have z2 := h.at_.frozen
  obtain ⟨q, hq⟩ : ∃ q, k + (formN v).length = q := ⟨_, rfl⟩
  rw [hq] at HU ⊢
  have H := Lib.hid h
  have h4 := (h.why.other (show B + 3 ≠ B + 2 by omega) (.int .i64 q)).cell
  have z4 := (h.why.other (show B + 3 ≠ B + 2 by omega) (.int .i64 q)).frozen
  clear hv hn hk hr h hq h64
  go_enter Tryz.func202, Tryz.ntmps202
  go_wp2_with (go_at_call 150; refine HU.out.mono ?_; rintro r w1 ⟨rfl, rfl⟩)
  go_ret
  obtain ⟨r1, r2⟩ := H.out.step (k' := q) rfl
  exact ⟨by show Ending.returned (.int .i64 (wrap64 (v : Int))) = _; rw [hz], r1, r2⟩
set_option maxRecDepth 100000 in
set_option maxHeartbeats 1000000 in
theorem textR_any (S : Nat → Prop) (B b o n c k : Nat) (bs xs rest : List UInt8) (w : World) (h : RdI w B (.slice (some ⟨b, o, none⟩) n c) k) (hv : Byt w S (.slice (some ⟨b, o, none⟩) n c) bs) (hn : bs.length = n) (hk : k ≤ n) (hr : bs.drop k = formN xs.length ++ xs ++ rest) (h0 : 0 < xs.length ∧ xs.length ≤ 200) :
    Calls Tryz.prog 203 #[.pointer (some ⟨B + 3, 0, none⟩), .pointer (some ⟨B, 0, none⟩), .pointer (some ⟨B + 2, 0, none⟩)] w fun r w' => ∃ A c', r = .returned (.slice A xs.length c') ∧ BytL w' w.heap.size (.slice A xs.length c') xs ∧ RdI w' B (.slice (some ⟨b, o, none⟩) n c) (k + (formN xs.length).length + xs.length) ∧ Only (fun i => i = B + 2 ∨ i = B + 3) w w' := by
  have HU := Lib.hid (vbytes_any S b o n c k 200 bs xs rest w hv hn hk hr h0.2 (by omega) h0.1)
  have h1 := h.byts.cell
  have h2 := h.at_.cell
  have h3 := h.why.cell
  obtain ⟨q, hq⟩ : ∃ q, k + (formN xs.length).length + xs.length = q := ⟨_, rfl⟩
  obtain ⟨m, hm⟩ : ∃ m, xs.length = m := ⟨_, rfl⟩
  rw [hq] at HU ⊢
  rw [hm]
  have H := Lib.hid h
  have HM := Lib.hid hm
  clear hv hn hk hr h hq hm h0
  go_enter Tryz.func203, Tryz.ntmps203
  go_wp2_with (go_at_call 151; refine HU.out.mono ?_; rintro r w1 ⟨v', rfl, hv1, f1⟩; obtain ⟨A1, k1, rfl⟩ := slice_form hv1; have g2 := (boxedFr H.out.at_ f1).cell; have z2 := (boxedFr H.out.at_ f1).frozen; have g3 := ((boxedFr H.out.why f1).other (show B + 3 ≠ B + 2 by omega) (.int .i64 q)).cell; have z3 := ((boxedFr H.out.why f1).other (show B + 3 ≠ B + 2 by omega) (.int .i64 q)).frozen)
  go_ret
  obtain ⟨r1, r2⟩ := (H.out.below f1).step (k' := q) rfl
  have hl := H.out.num.lt
  rw [HM.out] at hv1 ⊢
  exact ⟨_, _, rfl, BytL.only hv1 r2 (fun i hi _ e => by omega), r1, (Only.of_below f1).trans r2⟩
set_option maxRecDepth 100000 in
set_option maxHeartbeats 1000000 in
theorem signR_low (S : Nat → Prop) (B b o n c k v : Nat) (bs rest : List UInt8) (w : World) (h : RdI w B (.slice (some ⟨b, o, none⟩) n c) k) (hv : Byt w S (.slice (some ⟨b, o, none⟩) n c) bs) (hn : bs.length = n) (hk : k ≤ n) (hr : bs.drop k = formN (2 * v) ++ rest) (h62 : v < 4611686018427387904) :
    Calls Tryz.prog 204 #[.pointer (some ⟨B + 4, 0, none⟩)] w fun r w' => r = .returned (.int .i64 v) ∧ RdI w' B (.slice (some ⟨b, o, none⟩) n c) (k + (formN (2 * v)).length) ∧ Only (fun i => i = B + 2 ∨ i = B + 3) w w' := by
  have HU := Lib.hid (numR_any S B b o n c k (2 * v) bs rest w h hv hn hk hr (by omega))
  have h1 := h.num.cell
  have hand : bits BinOp.and IntKind.u64 (2 * (v : Int)) 1 = 0 := by
    have := bits_mask .u64 64 (by decide) (fun n h0 h1 => by rw [IntKind.wrap_u64]; omega) 1 (by decide) (2 * (v : Int)) (by omega) (by omega)
    rw [show ((2 : Int) ^ 1 - 1) = 1 by decide] at this
    rw [this]
    omega
  have hxor : bits BinOp.xor IntKind.i64 (v : Int) 0 = (v : Int) := by
    simp [bits, IntKind.wrap, IntKind.signed, IntKind.bits]
    erw [BitVec.xor_zero]
    rw [BitVec.toNat_ofNat]
    split <;> omega
  have eg := enters_of Tryz.func202 (by kernel_rfl) rfl
  obtain ⟨q, hq⟩ : ∃ q, k + (formN (2 * v)).length = q := ⟨_, rfl⟩
  rw [hq] at HU ⊢
  clear hv hn hk hr h hq
  go_enter Tryz.func204, Tryz.ntmps204
  go_wp2_with ((first | go_at_call 202 | go_at_fn 202); refine HU.out.mono ?_; rintro r w1 ⟨rfl, hi1, ho1⟩)
  go_ret
  exact ⟨rfl, hi1, ho1⟩
theorem wr_z (v : Nat) (hv : v < 9223372036854775808) (hv2 : 4611686018427387904 ≤ v) : IntKind.u64.wrap (wrap64 ((2 * v : Nat) : Int)) = ((2 * v : Nat) : Int) := by
  simp [wrap64, IntKind.wrap, IntKind.signed, IntKind.bits]
  omega
set_option maxRecDepth 100000 in
set_option maxHeartbeats 1000000 in
theorem signR_big (S : Nat → Prop) (B b o n c k v : Nat) (bs rest : List UInt8) (w : World) (h : RdI w B (.slice (some ⟨b, o, none⟩) n c) k) (hv : Byt w S (.slice (some ⟨b, o, none⟩) n c) bs) (hn : bs.length = n) (hk : k ≤ n) (hr : bs.drop k = formN (2 * v) ++ rest) (h63 : v < 9223372036854775808) (h62 : 4611686018427387904 ≤ v) :
    Calls Tryz.prog 204 #[.pointer (some ⟨B + 4, 0, none⟩)] w fun r w' => r = .returned (.int .i64 v) ∧ RdI w' B (.slice (some ⟨b, o, none⟩) n c) (k + (formN (2 * v)).length) ∧ Only (fun i => i = B + 2 ∨ i = B + 3) w w' := by
  obtain ⟨z, hz⟩ : ∃ z, wrap64 ((2 * v : Nat) : Int) = z := ⟨_, rfl⟩
  have z2 := wr_z v h63 h62
  rw [hz] at z2
  obtain ⟨u, hu⟩ : ∃ u, 2 * v = u := ⟨_, rfl⟩
  have hu2 : u < 18446744073709551616 := by omega
  have z3 : (u : Int) / 2 = (v : Int) := by omega
  rw [hu] at hr hz z2 ⊢
  have HU := Lib.hid (numR_wide S B b o n c k u bs rest w h hv hn hk hr hu2 z hz)
  have h1 := h.num.cell
  have hand : bits BinOp.and IntKind.u64 (u : Int) 1 = 0 := by
    have := bits_mask .u64 64 (by decide) (fun n h0 h1 => by rw [IntKind.wrap_u64]; omega) 1 (by decide) (u : Int) (by omega) (by omega)
    rw [show ((2 : Int) ^ 1 - 1) = 1 by decide] at this
    rw [this]
    omega
  have hxor : bits BinOp.xor IntKind.i64 (v : Int) 0 = (v : Int) := by
    simp [bits, IntKind.wrap, IntKind.signed, IntKind.bits]
    erw [BitVec.xor_zero]
    rw [BitVec.toNat_ofNat]
    split <;> omega
  have eg := enters_of Tryz.func202 (by kernel_rfl) rfl
  obtain ⟨q, hq⟩ : ∃ q, k + (formN u).length = q := ⟨_, rfl⟩
  rw [hq] at HU ⊢
  clear hv hn hk hr h hq hu hz h62
  go_enter Tryz.func204, Tryz.ntmps204
  go_wp2_with ((first | go_at_call 202 | go_at_fn 202); refine HU.out.mono ?_; rintro r w1 ⟨rfl, hi1, ho1⟩)
  go_ret
  exact ⟨rfl, hi1, ho1⟩
theorem signR_any (S : Nat → Prop) (B b o n c k v : Nat) (bs rest : List UInt8) (w : World) (h : RdI w B (.slice (some ⟨b, o, none⟩) n c) k) (hv : Byt w S (.slice (some ⟨b, o, none⟩) n c) bs) (hn : bs.length = n) (hk : k ≤ n) (hr : bs.drop k = formN (2 * v) ++ rest) (h63 : v < 9223372036854775808) :
    Calls Tryz.prog 204 #[.pointer (some ⟨B + 4, 0, none⟩)] w fun r w' => r = .returned (.int .i64 v) ∧ RdI w' B (.slice (some ⟨b, o, none⟩) n c) (k + (formN (2 * v)).length) ∧ Only (fun i => i = B + 2 ∨ i = B + 3) w w' := by
  rcases Nat.lt_or_ge v 4611686018427387904 with h1 | h1
  · exact signR_low S B b o n c k v bs rest w h hv hn hk hr h1
  · exact signR_big S B b o n c k v bs rest w h hv hn hk hr h63 h1
end Go.Proofs.YtjnolpfmchnnmaaGreatDoor
end
section
namespace Go.Proofs.YtjnolpfmchnnmaaGreatDoor
set_option maxRecDepth 100000
open Go
section
variable {P : Program} {md : Region.Mode} {l : List Oper} {Q : Exit → Act → World → Prop} {S : World → Prop} {n : Nat}
def wpAnyT (P : Program) (md : Region.Mode) (ops : Array Oper) (Q : Exit → Act → World → Prop) (S : World → Prop) (n : Nat) : Nat → Array Bool → Act → World → Prop
  | 0, listed, a, w => Region.ready md ops listed = [] ∧ Q .normal a w
  | fuel + 1, listed, a, w =>
    (Region.ready md ops listed = [] → Q .normal a w) ∧
    ∀ i ∈ Region.ready md ops listed, wpOp P ops Q i (fun a' w' => (i < n → S w') ∧ wpAnyT P md ops Q S n fuel (listed.setIfInBounds i true) a' w') a w
theorem wpAny_of_T {ops : Array Oper} : ∀ (fuel : Nat) (listed : Array Bool) (a : Act) (w : World), wpAnyT P md ops Q S n fuel listed a w → wpAny P md ops Q fuel listed a w
  | 0, _, _, _, h => h
  | fuel + 1, _, _, _, h => ⟨h.1, fun i hi => wpOp_mono (fun a' w' h' => wpAny_of_T fuel _ a' w' h'.2) (h.2 i hi)⟩
theorem wpAnyT_first {ops : Array Oper} {i : Nat} {oi : Oper} {v : Value} (hi : ops[i]? = some oi) (hsel : ∀ (j : Nat) (o : Oper) cs b, ops[j]? = some o → o.op ≠ .select cs b)
    (hQ : ∀ c a w, Q (.panic c) (a.put oi.dst v) w → Q (.panic c) a w) (hk : Region.sinkB md ops n = true) (hc : Region.chainB md ops n = true) (hn : n < ops.size) (hin : i < n) :
    ∀ (fuel : Nat) (listed : Array Bool) (a : Act) (w : World), HeadInv md ops n listed →
      (∀ j oj, ops[j]? = some oj → j ≠ i → listed.getD j true = false → (∀ e ∈ oj.after, Region.binds md e = true → e.on ≠ i) → oi.apart ops oj = true) →
      i ∈ Region.ready md ops listed → YieldsIf P ops S oi v a → S w →
      wpAnyT P md ops Q S n fuel (listed.setIfInBounds i true) (a.put oi.dst v) w → wpAnyT P md ops Q S n (fuel + 1) listed a w := by
  intro fuel
  induction fuel with
  | zero =>
    intro listed a w inv _ hr hy hS H
    refine ⟨fun h => (by rw [h] at hr; cases hr), fun j hj => ?_⟩
    by_cases hji : j = i
    · subst hji; exact hy.wpOp hi hS ⟨fun _ => hS, H⟩
    · have := ready_mono hj hji
      rw [H.1] at this
      cases this
  | succ fuel ih =>
    intro listed a w inv hfree hr hy hS H
    have hun := (mem_ready.1 hr).1
    refine ⟨fun h => (by rw [h] at hr; cases hr), fun j hj => ?_⟩
    have hjn : j < n := by
      rcases Nat.lt_or_ge j n with h | h
      · exact h
      · exact absurd hj (tail_waits hk hc hn inv _ i rfl hin hun j h)
    by_cases hji : j = i
    · subst hji; exact hy.wpOp hi hS ⟨fun _ => hS, H⟩
    · have h1 := H.2 j (ready_mono hj hji)
      obtain ⟨hjun, oj, hoj, hall⟩ := mem_ready.1 hj
      have hnot : ∀ e ∈ oj.after, Region.binds md e = true → e.on ≠ i := fun e he hb heq => by
        have h1 := hall e he hb
        rw [heq, getD_both hun] at h1
        cases h1
      have h2 := wpOp_putIf hoj (hfree j oj hoj hji hjun hnot) (fun cs b => hsel i oi cs b hi) (fun cs b => hsel j oj cs b hoj) hQ hy h1
      have hfree' : ∀ k ok, ops[k]? = some ok → k ≠ i → (listed.setIfInBounds j true).getD k true = false →
          (∀ e ∈ ok.after, Region.binds md e = true → e.on ≠ i) → oi.apart ops ok = true := fun k ok hk hki hun hno => by
        refine hfree k ok hk hki ?_ hno
        by_cases hjk : j = k
        · subst hjk; exact hjun
        · rw [getD_set_ne true hjk] at hun; exact hun
      refine wpOp_mono (fun a' w' h3 => ⟨h3.2.1, ih (listed.setIfInBounds j true) a' w' (inv.set hj hjn) hfree' (ready_mono hr (Ne.symm hji)) h3.1 (h3.2.1 hjn) ?_⟩) h2
      rw [Array.setIfInBounds_comm _ _ hji]
      exact h3.2.2
def GoT (P : Program) (md : Region.Mode) (l : List Oper) (Q : Exit → Act → World → Prop) (S : World → Prop) (n fuel : Nat) (listed : Array Bool) (a : Act) (w : World) : Prop :=
  HeadInv md l.toArray n listed → wpAnyT P md l.toArray Q S n fuel listed a w
def Region.tailB (md : Region.Mode) (ops : Array Oper) (n : Nat) : Bool := Region.noSelect ops && decide (n < ops.size) && Region.sinkB md ops n && Region.chainB md ops n
theorem Region.tailB_spec {ops : Array Oper} (h : Region.tailB md ops n = true) : Region.noSelect ops = true ∧ n < ops.size ∧ Region.sinkB md ops n = true ∧ Region.chainB md ops n = true := by
  unfold Region.tailB at h
  simp only [Bool.and_eq_true, decide_eq_true_eq] at h
  exact ⟨h.1.1.1, h.1.1.2, h.1.2, h.2⟩
theorem got_take {i : Nat} {oi : Oper} {v : Value} {fuel : Nat} {listed : Array Bool} {a : Act} {w : World} (hB : Region.tailB md l.toArray n = true) (hi : l[i]? = some oi) (hin : i < n)
    (hf : Region.free md l.toArray listed i = true) (hr : (Region.ready md l.toArray listed).contains i = true)
    (hQ : ∀ c a w, Q (.panic c) (a.put oi.dst v) w → Q (.panic c) a w) (hy : YieldsIf P l.toArray S oi v a) (hS : S w)
    (h : GoT P md l Q S n fuel (listed.setIfInBounds i true) (a.put oi.dst v) w) : GoT P md l Q S n (fuel + 1) listed a w := fun inv => by
  obtain ⟨b1, b2, b3, b4⟩ := Region.tailB_spec hB
  have hi' : l.toArray[i]? = some oi := by simpa using hi
  have hr' : i ∈ Region.ready md l.toArray listed := by simpa using hr
  exact wpAnyT_first hi' (Region.noSelect_spec b1) hQ b3 b4 b2 hin fuel listed a w inv (Region.free_spec hi' hf) hr' hy hS (h (inv.set hr' hin))
theorem got_one {i : Nat} {o : Oper} {fuel : Nat} {listed : Array Bool} {a : Act} {w : World} (hi : l[i]? = some o) (hin : i < n) (hr : Region.ready md l.toArray listed = [i])
    (h : ∀ K' : Act → World → Prop, Shut (∀ a w, S w → (S w → GoT P md l Q S n fuel (listed.setIfInBounds i true) a w) → K' a w) → if Region.wanted o (yielded l.toArray a.tmps) = true then Oper.wp P o a w K' Q else K' (a.put o.dst undef) w) :
    GoT P md l Q S n (fuel + 1) listed a w := fun inv => by
  have hi' : l.toArray[i]? = some o := by simpa using hi
  refine ⟨fun h0 => (by rw [hr] at h0; cases h0), fun j hj => ?_⟩
  have hji : j = i := by rw [hr] at hj; simpa using hj
  subst hji
  exact wpOp_step hi' (fun K' hK => h K' (fun a w hS hW => hK a w ⟨fun _ => hS, hW hS (inv.set hj hin)⟩))
theorem wpAnyT_of_seq {ops : Array Oper} : ∀ (l : List Oper) (k : Nat) (listed : Array Bool) (a : Act) (w : World), n ≤ k → (∀ j, l[j]? = ops[k + j]?) →
    Region.seqB md ops l.length k listed = true → wpList P ops Q l a w → wpAnyT P md ops Q S n l.length listed a w
  | [], _, _, _, _, _, _, hB, h => ⟨by simpa [Region.seqB] using hB, h⟩
  | o :: l, k, listed, a, w, hnk, hl, hB, h => by
    have h0 : ops[k]? = some o := by simpa using (hl 0).symm
    simp only [List.length_cons, Region.seqB, Bool.and_eq_true, decide_eq_true_eq] at hB
    refine ⟨fun h1 => (by rw [hB.1] at h1; cases h1), fun i hi => ?_⟩
    rw [hB.1] at hi
    have hik : i = k := by simpa using hi
    subst hik
    have hw : wpOp P ops Q i (wpList P ops Q l) a w := by unfold wpOp; simp only [h0]; exact h
    exact wpOp_mono (fun a' w' h' => ⟨fun hlt => by omega, wpAnyT_of_seq l (i + 1) _ a' w' (by omega) (fun j => by have := hl (j + 1); simpa [Nat.add_assoc, Nat.add_comm 1 j] using this) hB.2 h'⟩) hw
theorem got_tail {fuel : Nat} {listed : Array Bool} {a : Act} {w : World} (hB : Region.seqB md l.toArray fuel n listed = true) (hn : fuel = (l.drop n).length) (h : wpList P l.toArray Q (l.drop n) a w) : GoT P md l Q S n fuel listed a w := fun _ => by
  subst hn
  exact wpAnyT_of_seq (l.drop n) n listed a w (Nat.le_refl _) (fun j => by simp [List.getElem?_drop]) hB h
theorem wp_region_got {id : Nat} {a : Act} {w : World} (n : Nat) (hm : P.follows .mixedOrders = true) (hB : Region.tailB .any l.toArray n = true) (hS : S w.drew)
    (h : S w.drew → GoT P .any l Q S n l.toArray.size (Array.replicate l.toArray.size false) a w.drew) : (Code.region id l.toArray true).wp P Q a w := by
  obtain ⟨b1, b2, b3, b4⟩ := Region.tailB_spec hB
  have inv0 : HeadInv .any l.toArray n (Array.replicate l.toArray.size false) :=
    ⟨by simp, fun j oj _ hl => (by rw [getD_replicate_false] at hl; cases hl), fun t _ ht => getD_in (by simpa using ht) (getD_replicate_false _ _)⟩
  exact wp_region_any hm (wpAny_of_T _ _ _ _ (h hS inv0))
end
end Go.Proofs.YtjnolpfmchnnmaaGreatDoor
end
section
namespace Go.Proofs.YtjnolpfmchnnmaaGreatDoor
set_option maxRecDepth 100000
open Go.RowKit Go.BigFrame Go.Sort Go.Shelf Go.Lib
attribute [local go_sem ↓] Go.wp_at_zero Go.wp_at_succ
section
variable {P : Program} {w : World} {a : Addr} {m : Mode}
theorem run_store_funcV (f : Fn) (x y : Array Value) : (store a (.func f x y) m).run P w = stored P w a (.func f x y) m := run_store P w a _ m rfl
end
attribute [local go_sem] run_store_funcV
structure RdS (w : World) (B b o n c : Nat) (bs rest : List UInt8) : Prop where
  pos : ∃ k, RdI w B (.slice (some ⟨b, o, none⟩) n c) k ∧ k ≤ n ∧ bs.drop k = rest
  byt : Byt w (fun i => i < B) (.slice (some ⟨b, o, none⟩) n c) bs
  len : bs.length = n
theorem RdS.only {w w' : World} {B b o n c : Nat} {bs rest : List UInt8} {S : Nat → Prop} (h : RdS w B b o n c bs rest) (ho : Only S w w') (hS : ∀ i, S i → i = B + 1 ∨ B + 4 < i) : RdS w' B b o n c bs rest := by
  obtain ⟨⟨k, h1, h2, h3⟩, h4, h5⟩ := h
  refine ⟨⟨k, ?_, h2, h3⟩, h4.only ho fun i _ hi hs => by have := hS i hs; omega, h5⟩
  exact ⟨boxedOnly h1.byts ho fun h => by have := hS _ h; omega, boxedOnly h1.at_ ho fun h => by have := hS _ h; omega, boxedOnly h1.why ho fun h => by have := hS _ h; omega, boxedOnly h1.num ho fun h => by have := hS _ h; omega⟩
theorem RdS.below {w w' : World} {B b o n c : Nat} {bs rest : List UInt8} (h : RdS w B b o n c bs rest) (hf : fr w w') : RdS w' B b o n c bs rest := h.only (S := fun _ => False) (Only.of_below hf) fun _ h => h.elim
theorem RdS.num {w : World} {B b o n c : Nat} {bs rest : List UInt8} (h : RdS w B b o n c bs rest) : w.cell? ⟨B + 4, 0, none⟩ = some (numFV B) := by
  obtain ⟨⟨k, h1, _⟩, _⟩ := h
  exact h1.num.cell
theorem RdS.why {w : World} {B b o n c : Nat} {bs rest : List UInt8} (h : RdS w B b o n c bs rest) : w.cell? ⟨B + 3, 0, none⟩ = some (.int .i64 0) := by
  obtain ⟨⟨k, h1, _⟩, _⟩ := h
  exact h1.why.cell
theorem RdS.cells {w : World} {B b o n c : Nat} {bs rest : List UInt8} (h : RdS w B b o n c bs rest) : ∃ k : Nat, w.cell? ⟨B, 0, none⟩ = some (.slice (some ⟨b, o, none⟩) n c) ∧ w.cell? ⟨B + 2, 0, none⟩ = some (.int .i64 k) ∧ k ≤ n ∧ (rest = [] ↔ k = n) := by
  obtain ⟨⟨k, h1, h2, h3⟩, h4, h5⟩ := h
  refine ⟨k, h1.byts.cell, h1.at_.cell, by omega, ?_⟩
  rw [← h3, List.drop_eq_nil_iff]
  omega
theorem numS (B b o n c : Nat) (v : Int) (bs rest : List UInt8) (w : World) (h : RdS w B b o n c bs (formN v.toNat ++ rest)) (hv : numOk v) :
    Calls Tryz.prog 202 #[.pointer (some ⟨B + 3, 0, none⟩), .pointer (some ⟨B, 0, none⟩), .pointer (some ⟨B + 2, 0, none⟩)] w fun r w' => r = .returned (.int .i64 v) ∧ RdS w' B b o n c bs rest ∧ Only (fun i => i = B + 2 ∨ i = B + 3) w w' := by
  obtain ⟨⟨k, h1, h2, h3⟩, h4, h5⟩ := h
  have hv1 := hv.1
  have hv2 := hv.2
  refine (numR_any _ B b o n c k v.toNat bs rest w h1 h4 h5 h2 h3 (by omega)).mono ?_
  rintro r w' ⟨rfl, g1, g2⟩
  rw [show ((v.toNat : Nat) : Int) = v by omega]
  exact ⟨rfl, ⟨⟨_, g1, by rw [← h5]; exact drop_le (by rw [h5]; exact h2) h3, drop_step h3⟩, h4.only g2 fun i _ hi hs => by omega, h5⟩, g2⟩
theorem signS (B b o n c : Nat) (v : Int) (bs rest : List UInt8) (w : World) (h : RdS w B b o n c bs (formN (2 * v.toNat) ++ rest)) (hv : numOk v) :
    Calls Tryz.prog 204 #[.pointer (some ⟨B + 4, 0, none⟩)] w fun r w' => r = .returned (.int .i64 v) ∧ RdS w' B b o n c bs rest ∧ Only (fun i => i = B + 2 ∨ i = B + 3) w w' := by
  obtain ⟨⟨k, h1, h2, h3⟩, h4, h5⟩ := h
  have hv1 := hv.1
  have hv2 := hv.2
  refine (signR_any _ B b o n c k v.toNat bs rest w h1 h4 h5 h2 h3 (by omega)).mono ?_
  rintro r w' ⟨rfl, g1, g2⟩
  rw [show ((v.toNat : Nat) : Int) = v by omega]
  exact ⟨rfl, ⟨⟨_, g1, by rw [← h5]; exact drop_le (by rw [h5]; exact h2) h3, drop_step h3⟩, h4.only g2 fun i _ hi hs => by omega, h5⟩, g2⟩
theorem textS (B b o n c : Nat) (xs bs rest : List UInt8) (w : World) (h : RdS w B b o n c bs (formN xs.length ++ (xs ++ rest))) (h0 : 0 < xs.length ∧ xs.length ≤ 200) :
    Calls Tryz.prog 203 #[.pointer (some ⟨B + 3, 0, none⟩), .pointer (some ⟨B, 0, none⟩), .pointer (some ⟨B + 2, 0, none⟩)] w fun r w' => ∃ A c', r = .returned (.slice A xs.length c') ∧ BytL w' w.heap.size (.slice A xs.length c') xs ∧ RdS w' B b o n c bs rest ∧ Only (fun i => i = B + 2 ∨ i = B + 3) w w' := by
  obtain ⟨⟨k, h1, h2, h3⟩, h4, h5⟩ := h
  rw [← List.append_assoc] at h3
  refine (textR_any _ B b o n c k bs xs rest w h1 h4 h5 h2 h3 h0).mono ?_
  rintro r w' ⟨A, c', rfl, hb, g1, g2⟩
  have e1 : k + (formN xs.length).length + xs.length = k + (formN xs.length ++ xs).length := by rw [List.length_append]; omega
  rw [e1] at g1
  exact ⟨A, c', rfl, hb, ⟨⟨_, g1, by rw [← h5]; exact drop_le (by rw [h5]; exact h2) h3, drop_step h3⟩, h4.only g2 fun i _ hi hs => by omega, h5⟩, g2⟩
theorem ints_of_own {w : World} {base n c : Nat} {A : Option Addr} {zs : List Int} (h : w.ownsRow base 3 1 (.slice A n c) n (zs.map fun z => Value.int .i64 z)) (hl : zs.length = n) (hb : n ≤ 140737488355328) : IntsIn w (fun i => base ≤ i ∧ i < w.heap.size) (.slice A n c) zs := by
  rcases h.2 with ⟨hE, h0⟩ | ⟨g, cap, cur, hE, hbg, hh, hcap, hcm, _⟩
  · injection hE with e1 e2 e3
    subst h0 e1 e3
    obtain rfl : zs = [] := List.eq_nil_of_length_eq_zero hl
    exact IntsIn.nil _ _
  · injection hE with e1 e2 e3
    subst e1 e3
    have hlt : g < w.heap.size := (Array.getElem?_eq_some_iff.1 hh).1
    refine ⟨_, _, by rw [hl], by rw [hl]; exact hcap, by rw [hl]; exact hb, ?_⟩
    rw [hl]
    refine ⟨h.1, fun _ => ⟨g, 0, rfl, ⟨hbg, hlt⟩, hlt, fun j u hu => ?_⟩⟩
    have := h.cells (g := g) rfl j u hu
    rwa [Addr.add_lit] at this
abbrev rdW (w : World) (v : Value) (B : Nat) : World := ((((w.alloc (.cells #[v] 35)).alloc (.cells #[.slice none 0 0, .slice none 0 0, .int .i64 0, .int .i64 0] 45)).alloc (.cells #[.int .i64 0] 3)).alloc (.cells #[.int .i64 0] 31)).alloc (.cells #[.func (.func 202) #[] #[.pointer (some ⟨B + 3, 0, none⟩), .pointer (some ⟨B, 0, none⟩), .pointer (some ⟨B + 2, 0, none⟩)]] 36)
theorem rd_new (w : World) (v : Value) (B : Nat) (hB : w.heap.size = B) : RdI (rdW w v B) B v 0 ∧ (rdW w v B).heap[B + 1]? = some (.cells #[.slice none 0 0, .slice none 0 0, .int .i64 0, .int .i64 0] 45 (0, 0)) ∧ fr w (rdW w v B) ∧ (rdW w v B).heap.size = B + 5 := by
  subst hB
  have h4 : Boxed (rdW w v w.heap.size) (w.heap.size + 4) 36 (numFV w.heap.size) := heap_at_new _ trivial (by simp)
  have h0 : Boxed (rdW w v w.heap.size) w.heap.size 35 v := ((((Boxed.new w _ v).alloc _).alloc _).alloc _).alloc _
  have h2 : Boxed (rdW w v w.heap.size) (w.heap.size + 2) 3 (.int .i64 0) := (Below.heap_alloc _ _ _ (by simp)).trans ((Below.heap_alloc _ _ _ (by simp)).trans (heap_at_new _ trivial (by simp)))
  have h3 : Boxed (rdW w v w.heap.size) (w.heap.size + 3) 31 (.int .i64 0) := (Below.heap_alloc _ _ _ (by simp)).trans (heap_at_new _ trivial (by simp))
  have h1 : (rdW w v w.heap.size).heap[w.heap.size + 1]? = some (.cells #[.slice none 0 0, .slice none 0 0, .int .i64 0, .int .i64 0] 45 (0, 0)) := (Below.heap_alloc _ _ _ (by simp)).trans ((Below.heap_alloc _ _ _ (by simp)).trans ((Below.heap_alloc _ _ _ (by simp)).trans (heap_at_new _ trivial (by simp))))
  exact ⟨⟨h0, h2, h3, h4⟩, h1, fr.alloc (fr.alloc (fr.alloc (fr.alloc (fr.alloc fr.refl _) _) _) _) _, by simp⟩
set_option maxRecDepth 100000 in
set_option maxHeartbeats 4000000 in
theorem mread_any (S : Nat → Prop) (v : Value) (e : Edt) (nx : Int) (w : World) (hv : Byt w S v (editF e nx)) (hok : EditOk e nx) :
    Calls Tryz.prog 131 #[v] w fun r w' => ∃ ax dx, r = .returned (.tuple #[.agg #[ax, dx, .int .i64 e.lg, .int .i64 e.sq], .int .i64 nx, .bool true]) ∧ OwnTabs w' w.heap.size ax e.add ∧ IntsIn w' (fun i => w.heap.size ≤ i ∧ i < w'.heap.size) dx e.drop ∧ fr w w' := by
  obtain ⟨n, hn⟩ : ∃ n, (editF e nx).length = n := ⟨_, rfl⟩
  have hn1 : n ≤ 600000 := by rw [← hn]; exact editF_len hok
  have hn0 : 0 < n := by
    rw [← hn]
    unfold editF headF
    have := (formN_len (2 * e.lg.toNat)).1
    simp only [List.length_append]
    omega
  obtain ⟨A, c, rfl⟩ := slice_form hv
  rw [hn] at hv ⊢
  obtain ⟨b, o, rfl⟩ : ∃ b o, A = some ⟨b, o, none⟩ := by
    obtain ⟨A', c', hE, _, _, _, hr⟩ := hv
    injection hE with e1 e2 e3
    subst e1
    obtain ⟨b, o, rfl, _⟩ := hr.2 (by omega)
    exact ⟨b, o, rfl⟩
  have hvl : Byt w (fun i => i < w.heap.size) (.slice (some ⟨b, o, none⟩) n c) (editF e nx) := hv.monoLt fun _ h _ => h
  have HVL := Lib.hid hvl
  have HOK := Lib.hid hok
  have HNN := Lib.hid hn
  clear hv hvl hok hn
  go_enter Tryz.func131, Tryz.ntmps131
  go_upto_region 5 with (fail)
  obtain ⟨B, hB⟩ : ∃ B, w.heap.size = B := ⟨_, rfl⟩
  obtain ⟨g3, g4, g5, g6⟩ := rd_new w (.slice (some ⟨b, o, none⟩) n c) B hB
  rw [hB] at HVL ⊢
  have HB := Lib.hid hB
  rw [show B + 1 + 1 + 1 + 1 = B + 4 from rfl]
  rw [show B + 1 + 1 + 1 = B + 3 from rfl, show B + 1 + 1 = B + 2 from rfl]
  have H5 := Lib.hid (show RdS (rdW w (.slice (some ⟨b, o, none⟩) n c) B) B b o n c (editF e nx) (formN (2 * e.lg.toNat) ++ (formN (2 * e.sq.toNat) ++ (formN nx.toNat ++ (formN (e.drop.length : Int).toNat ++ (dropsF e.drop ++ addsF e.add))))) from
    ⟨⟨0, g3, Nat.zero_le _, by unfold editF headF; simp only [List.append_assoc, List.drop_zero, Int.toNat_natCast]⟩, HVL.out.below g5, HNN.out⟩)
  have HE := Lib.hid g4
  have HF5 := Lib.hid g5
  clear g3 g4 g5 hB
  unfold rdW at H5 HE HF5 g6
  generalize ((((w.alloc (.cells #[.slice (some ⟨b, o, none⟩) n c] 35)).alloc (.cells #[.slice none 0 0, .slice none 0 0, .int .i64 0, .int .i64 0] 45)).alloc (.cells #[.int .i64 0] 3)).alloc (.cells #[.int .i64 0] 31)).alloc (.cells #[.func (.func 202) #[] #[.pointer (some ⟨B + 3, 0, none⟩), .pointer (some ⟨B, 0, none⟩), .pointer (some ⟨B + 2, 0, none⟩)]] 36) = w5 at H5 HE HF5 g6 ⊢
  have hs8 : fr w w5 := HF5.out
  go_upto_region 6 with (first
    | ((first | go_at_call 204 | go_at_fn 204); refine (signS B b o n c e.sq _ _ _ hs6 HOK.out.sq).mono ?_; rintro r w7 ⟨rfl, hs7, o7⟩)
    | ((first | go_at_call 204 | go_at_fn 204); refine (signS B b o n c e.lg _ _ _ H5.out HOK.out.lg).mono ?_; rintro r w6 ⟨rfl, hs6, o6⟩))
  have HS7 := Lib.hid hs7
  have HO7 := Lib.hid (o6.trans o7)
  have hz7 : B + 5 ≤ w7.heap.size := by have := (o6.trans o7).size; omega
  have pE := heap_alloc_new w7 (.cells #[.slice none 0 0, .slice none 0 0, .int .i64 e.lg, .int .i64 e.sq] 45)
  have hal : fr w7 (w7.alloc (.cells #[.slice none 0 0, .slice none 0 0, .int .i64 e.lg, .int .i64 e.sq] 45)) := fr.alloc fr.refl _
  have hz8 : (w7.alloc (.cells #[.slice none 0 0, .slice none 0 0, .int .i64 e.lg, .int .i64 e.sq] 45)).heap.size = w7.heap.size + 1 := by simp
  obtain ⟨E, hE⟩ : ∃ E, w7.heap.size = E := ⟨_, rfl⟩
  rw [hE] at pE hz8 hz7 ⊢
  generalize w7.alloc (.cells #[.slice none 0 0, .slice none 0 0, .int .i64 e.lg, .int .i64 e.sq] 45) = w8 at pE hal hz8 ⊢
  have HPE := Lib.hid pE
  have HS8 := Lib.hid (HS7.out.below hal)
  have HO8 := Lib.hid (HO7.out.trans (Only.of_below hal))
  have q8 := HS8.out.num
  clear pE hal hs6 o6 hs7 o7 hE
  go_upto_region 7 with ((first | go_at_call 202 | go_at_fn 202); refine (numS B b o n c nx _ _ _ HS8.out HOK.out.nx).mono ?_; rintro r w9 ⟨rfl, hs9, o9⟩; have q9 := hs9.num)
  have HS9 := Lib.hid hs9
  have HO9 := Lib.hid (HO8.out.trans o9)
  have HPE9 : Hid (w9.heap[E]? = some (.cells #[.slice none 0 0, .slice none 0 0, .int .i64 e.lg, .int .i64 e.sq] 45 (0, 0))) := Lib.hid ((o9.block E (by omega) (by omega)).trans HPE.out)
  have hz9 : E < w9.heap.size := by have := o9.size; omega
  obtain ⟨nd, hnd⟩ : ∃ n, e.drop.length = n := ⟨_, rfl⟩
  have hnd1 : nd ≤ 1024 := by rw [← hnd]; exact HOK.out.few
  have HND := Lib.hid hnd
  rw [hnd] at HS9
  clear hs9 o9 q8 hnd
  go_wp2_with ((first | go_at_call 202 | go_at_fn 202); refine (numS B b o n c (nd : Int) _ _ _ HS9.out ⟨by omega, by omega⟩).mono ?_; rintro r w10 ⟨rfl, hs10, o10⟩)
  have HS10 := Lib.hid hs10
  have HO10 := Lib.hid (HO9.out.trans o10)
  have HPE10 : Hid (w10.heap[E]? = some (.cells #[.slice none 0 0, .slice none 0 0, .int .i64 e.lg, .int .i64 e.sq] 45 (0, 0))) := Lib.hid ((o10.block E (by omega) (by omega)).trans HPE9.out)
  obtain ⟨base, hbase⟩ : ∃ g, w10.heap.size = g := ⟨_, rfl⟩
  have hz10 : E < base := by have := o10.size; omega
  have HBASE := Lib.hid hbase
  clear hs10 o10 q9 hbase
  go_loopw [12] (fun t wr => ∃ (j m : Nat) (dv : Value), j + m = nd ∧ t = .int .i64 m ∧ RdS wr B b o n c (editF e nx) (dropsF (e.drop.drop j) ++ addsF e.add) ∧ wr.heap[E]? = some (.cells #[.slice none 0 0, dv, .int .i64 e.lg, .int .i64 e.sq] 45 (0, 0)) ∧ wr.ownsRow base 3 1 dv j ((e.drop.take j).map fun z => Value.int .i64 z) ∧ Only (fun i => i = B + 2 ∨ i = B + 3 ∨ i = E) w10 wr) (fun t _ => (intOf t).toNat)
  case atStart => exact ⟨0, nd, _, by omega, rfl, HS10.out, HPE10.out, World.ownsRow_nil _ _ _ _, Only.refl _ _⟩
  case round =>
    obtain ⟨j, m, dv, hjm, rfl, hs, hpe, hown, hon⟩ := hrel
    have HON := Lib.hid hon
    have HOWN := Lib.hid hown
    have HPEW := Lib.hid hpe
    have hwhy := hs.why
    have hsz : base ≤ wr.heap.size := by have := HON.out.size; have := HBASE.out; omega
    by_cases hm : 0 < m
    · obtain ⟨d, hd⟩ : ∃ d, e.drop[j]? = some d := ⟨_, List.getElem?_eq_getElem (by rw [HND.out]; omega)⟩
      have hdr : e.drop.drop j = d :: e.drop.drop (j + 1) := by
        rw [List.drop_eq_getElem_cons (by rw [HND.out]; omega)]
        rw [List.getElem?_eq_getElem (by rw [HND.out]; omega)] at hd
        injection hd with hd
        rw [hd]
      rw [hdr, dropsF_cons, List.append_assoc] at hs
      obtain ⟨m, rfl⟩ : ∃ k, m = k + 1 := ⟨m - 1, by omega⟩
      have HS := Lib.hid hs
      have HDN := Lib.hid (HOK.out.drop d (List.mem_of_getElem? hd))
      have HTK := Lib.hid (take_snoc hd)
      have hd1 : decide ((0 : Int) < ((m : Int) + 1)) = true := decide_eq_true (by omega)
      have e1 : wr.cell? ⟨E, 1, none⟩ = some dv := cell_of_row _ _ 1 _ _ _ hpe
      have q1 := hs.num
      have HE1 : Hid (wr.drew.cell? ⟨E, 1, none⟩ = some dv ∧ wr.drew.cell? ⟨B + 4, 0, none⟩ = some (numFV B)) := Lib.hid ⟨e1, q1⟩
      have HDW : Hid (fr wr wr.drew) := Lib.hid (fr.drew fr.refl)
      have hno : dv.ownBlock ≠ some E := fun h => by have := (HOWN.out.lt E h).1; omega
      have HNO := Lib.hid hno
      obtain ⟨i0, hi, hz0, hz1, hz2⟩ := info_parts infoI
      clear hdr hd hs hpe hon hown hno
      go_upto_region 10 with (fail)
      refine wp_region_got (S := fun w' => w'.cell? ⟨E, 1, none⟩ = some dv ∧ w'.cell? ⟨B + 4, 0, none⟩ = some (numFV B)) 5 (by kernel_rfl) (by kernel_rfl) HE1.out (fun hHeld => ?_)
      refine got_take (i := 0) (v := ?v101) (by kernel_rfl) rfl (by decide) (by kernel_rfl) (by kernel_rfl) (fun _ _ _ h => h) (Or.inl ⟨by rfl, ?hy101⟩) hHeld ?rest101
      case hy101 =>
        intro wz hSw
        (try dsimp only at hSw)
        go_split_ands
        go_simp
        (try with_reducible rfl)
      (try simp only [Act.put, List.setIfInBounds_toArray, List.set_cons_zero, List.set_cons_succ])
      refine got_take (i := 1) (v := ?v102) (by kernel_rfl) rfl (by decide) (by kernel_rfl) (by kernel_rfl) (fun _ _ _ h => h) (Or.inl ⟨by rfl, ?hy102⟩) hHeld ?rest102
      case hy102 =>
        intro wz hSw
        (try dsimp only at hSw)
        go_split_ands
        go_simp
        (try with_reducible rfl)
      (try simp only [Act.put, List.setIfInBounds_toArray, List.set_cons_zero, List.set_cons_succ])
      refine got_take (i := 2) (v := ?v103) (by kernel_rfl) rfl (by decide) (by kernel_rfl) (by kernel_rfl) (fun _ _ _ h => h) (Or.inl ⟨by rfl, ?hy103⟩) hHeld ?rest103
      case hy103 =>
        intro wz hSw
        (try dsimp only at hSw)
        go_split_ands
        go_simp
        (try with_reducible rfl)
      (try simp only [Act.put, List.setIfInBounds_toArray, List.set_cons_zero, List.set_cons_succ])
      refine got_one (i := 3) rfl (by decide) (by kernel_rfl) ?_
      intro K' hK
      go_simp
      refine (numS B b o n c d _ _ _ (HS.out.below HDW.out) HDN.out).mono ?_
      rintro r w11 ⟨rfl, hs11, o11⟩
      have pE11 := (o11.block E (Array.getElem?_eq_some_iff.1 (boxRowFr HPEW.out HDW.out)).1 (by omega)).trans (boxRowFr HPEW.out HDW.out)
      have q11 := hs11.num
      dsimp only
      refine hK.out _ _ (⟨cell_of_row _ _ 1 _ _ _ pE11, q11⟩) (fun hHeld => ?_)
      clear hK K'
      (try simp only [Act.put, List.setIfInBounds_toArray, List.set_cons_zero, List.set_cons_succ])
      refine got_one (i := 4) rfl (by decide) (by kernel_rfl) ?_
      intro K' hK
      go_simp
      have HFA : Hid (fr w11 (w11.alloc (.cells #[.int .i64 d] 3))) := Lib.hid (fr.alloc fr.refl _)
      refine hK.out _ _ (⟨fr.cell HFA.out (cell_of_row _ _ 1 _ _ _ pE11), fr.cell HFA.out q11⟩) (fun hHeld => ?_)
      clear hK K'
      (try simp only [Act.put, List.setIfInBounds_toArray, List.set_cons_zero, List.set_cons_succ])
      refine got_tail (by kernel_rfl) rfl ?_
      simp only [List.drop_succ_cons, List.drop_zero]
      have hown11 := (own_only (own_below HOWN.out HDW.out) o11 (fun g hg hS => by have := (HOWN.out.lt g hg).1; omega)).alloc (.cells #[.int .i64 d] 3)
      have hz11 : base ≤ (w11.alloc (.cells #[.int .i64 d] 3)).heap.size := by have := o11.size; simp at this ⊢; omega
      have HO11 := Lib.hid hown11
      have HON11 := Lib.hid ((HON.out.trans (Only.of_below HDW.out)).trans (o11.mono fun i h => (h.elim .inl fun h => .inr (.inl h) : i = B + 2 ∨ i = B + 3 ∨ i = E)))
      have HS11 := Lib.hid hs11
      have HP11 := Lib.hid (boxRowFr pE11 HFA.out)
      clear hown11 hs11 o11 pE11 q11 hHeld
      go_wp2_with (at_builtin; refine wpList_append_own_at _ rfl _ _ 26 rfl base 3 i0 _ 1 8 Tryz.underlying26 hi hz0 hz1 hz2 rfl (by decide) _ _ _ rfl HO11.out ⟨w11.heap.size, 0, none⟩ 1 1 [.int .i64 d] rfl rfl (cell_one_new _ _ _) (by simp [Value.oneCell']) (by unfold maxLen; omega) (by omega) hz11 ?_; intro v' w12 hown' hgrow hnn hat; clear hnn; obtain ⟨A9, c9, rfl⟩ := own_form hown'; have pE12 := ((Only.of_grown hgrow).block E (Array.getElem?_eq_some_iff.1 HP11.out).1 HNO.out).trans HP11.out; have c12 := cell_of_row _ _ 1 _ _ _ pE12; have z12 := frozen_of_row _ _ 1 _ _ pE12)
      have hgo : Only (fun i => i = B + 2 ∨ i = B + 3 ∨ i = E) w10 (w12.setCell ⟨E, 1, none⟩ (.slice A9 (j + 1) c9)) := ((HON11.out.trans (Only.of_below HFA.out)).fresh (Only.of_grown hgrow) fun i hi => .inr (by have := (HOWN.out.lt i hi).1; have := HBASE.out; omega)).trans ((only_set w12 E 1 _).mono fun i e => .inr (.inr e))
      have hs12 : RdS (w12.setCell ⟨E, 1, none⟩ (.slice A9 (j + 1) c9)) B b o n c (editF e nx) (dropsF (e.drop.drop (j + 1)) ++ addsF e.add) := ((HS11.out.below HFA.out).only (Only.of_grown hgrow) fun i hi => .inr (by have := (HOWN.out.lt i hi).1; omega)).only (only_set w12 E 1 _) fun i hi => .inr (by omega)
      have hp12 := heap_setCell_same w12 E 1 _ _ (.slice A9 (j + 1) c9) pE12
      have ho12 := own_only hown' (only_set w12 E 1 (.slice A9 (j + 1) c9)) fun g hg hS => by have := (hown'.lt g hg).1; omega
      refine ⟨⟨j + 1, m, _, by omega, by go_num, hs12, hp12, ?_, hgo⟩, by simp [intOf]⟩
      rw [HTK.out, List.map_append]
      exact ho12
    · obtain rfl : m = 0 := by omega
      obtain rfl : j = nd := by omega
      have HDD := Lib.hid hs
      have hd1 : decide ((0 : Int) < (0 : Int)) = false := decide_eq_false (by omega)
      have hdr0 : e.drop.drop j = [] := List.drop_eq_nil_of_le (by rw [HND.out]; exact Nat.le_refl _)
      have HS1 : Hid (RdS wr B b o n c (editF e nx) (addsF (e.add.drop 0))) := Lib.hid (by rw [hdr0] at hs; exact hs)
      have hown1 : wr.ownsRow base 3 1 dv j (e.drop.map fun z => Value.int .i64 z) := by
        have := HOWN.out
        rwa [List.take_of_length_le (by rw [HND.out]; exact Nat.le_refl _)] at this
      have HOW1 := Lib.hid hown1
      obtain ⟨na, hna⟩ : ∃ n, e.add.length = n := ⟨_, rfl⟩
      have hna1 : na ≤ 1024 := by rw [← hna]; exact HOK.out.fewA
      have HNA := Lib.hid hna
      obtain ⟨wd, hwd⟩ : ∃ x, x = wr := ⟨_, rfl⟩
      subst hwd
      obtain ⟨lo, hlo⟩ : ∃ g, wd.heap.size = g := ⟨_, rfl⟩
      have HLO := Lib.hid hlo
      have hz3 : E < lo := by omega
      have hzl : base ≤ lo := by omega
      clear hs hdr0 hown1 hpe hon hown hna hlo hm hjm
      go_wp2_with (fail)
      go_loopg [62] na (fun gk t wx => ∃ (i : Nat) (av : Value), gk + i = na ∧ RdS wx B b o n c (editF e nx) (addsF (e.add.drop i)) ∧ wx.heap[E]? = some (.cells #[av, dv, .int .i64 e.lg, .int .i64 e.sq] 45 (0, 0)) ∧ OwnTabs wx lo av (e.add.take i) ∧ Only (fun i => i = B + 2 ∨ i = B + 3 ∨ i = E) wd wx)
      case atStart => exact ⟨0, _, by omega, HS1.out, HPEW.out, OwnRows.nil _ _ _, Only.refl _ _⟩
      case round =>
        obtain ⟨i, av, hgk, hs, hpe, hown, hon⟩ := hrel
        have HON2 := Lib.hid hon
        have HPE2 := Lib.hid hpe
        have HOW2 := Lib.hid hown
        have hwhy2 := hs.why
        have hsz2 : lo ≤ wr.heap.size := by have := HON2.out.size; have := HLO.out; omega
        obtain ⟨k, k0, k2, hk, hkn⟩ := hs.cells
        by_cases hin : i < na
        · obtain ⟨t, ht⟩ : ∃ t, e.add[i]? = some t := ⟨_, List.getElem?_eq_getElem (by rw [HNA.out]; omega)⟩
          have hdr : e.add.drop i = t :: e.add.drop (i + 1) := by
            rw [List.drop_eq_getElem_cons (by rw [HNA.out]; omega)]
            rw [List.getElem?_eq_getElem (by rw [HNA.out]; omega)] at ht
            injection ht with ht
            rw [ht]
          have HTO := Lib.hid (HOK.out.add t (List.mem_of_getElem? ht))
          have hkl : k < n := Nat.lt_of_le_of_ne hk fun h => by
            have h3 := hkn.2 h
            rw [hdr, addsF_cons] at h3
            have h4 := congrArg List.length h3
            rw [List.length_append, List.length_nil] at h4
            have h5 := (tabF_len HTO.out).1
            omega
          have hd2 : decide ((k : Int) < (n : Int)) = true := decide_eq_true (by omega)
          rw [hdr, addsF_cons] at hs
          unfold tabF at hs
          simp only [List.append_assoc] at hs
          have HS := Lib.hid hs
          have HTK := Lib.hid (take_snoc ht)
          have e1 : wr.cell? ⟨E, 0, none⟩ = some av := cell_of_row _ _ 0 _ _ _ hpe
          have q1 := hs.num
          have HE1 : Hid (wr.drew.cell? ⟨E, 0, none⟩ = some av ∧ wr.drew.cell? ⟨B + 4, 0, none⟩ = some (numFV B)) := Lib.hid ⟨e1, q1⟩
          have HDW : Hid (fr wr wr.drew) := Lib.hid (fr.drew fr.refl)
          have p10 := boxRowFr HPE2.out HDW.out
          obtain ⟨css, hcss, hys⟩ := HOW2.out
          have hlk : (e.add.take i).length = i := by rw [List.length_take, HNA.out]; omega
          rw [hlk] at hcss
          have HCSS := Lib.hid hcss
          have HYS := Lib.hid hys
          have HLK := Lib.hid hlk
          have hno : av.ownBlock ≠ some E := fun h => by have := (HCSS.out.lt E h).1; omega
          have HNO := Lib.hid hno
          obtain ⟨i0, hi, hz0, hz1, hz2⟩ := info_parts infoT
          have hby := Lib.hid hz2
          have hz1' := Lib.hid hz1
          have HLL := Lib.hid HTO.out.lo
          have HHL := Lib.hid HTO.out.hi
          clear hdr hs hpe hon hown hkn hk hz1 hz2 hcss hys hlk hno ht
          go_upto_region 12 with (fail)
          refine wp_region_got (S := fun w' => w'.cell? ⟨E, 0, none⟩ = some av ∧ w'.cell? ⟨B + 4, 0, none⟩ = some (numFV B)) 14 (by kernel_rfl) (by kernel_rfl) HE1.out (fun hHeld => ?_)
          refine got_take (i := 0) (v := ?v201) (by kernel_rfl) rfl (by decide) (by kernel_rfl) (by kernel_rfl) (fun _ _ _ h => h) (Or.inl ⟨by rfl, ?hy201⟩) hHeld ?rest201
          case hy201 =>
            intro wz hSw
            (try dsimp only at hSw)
            go_split_ands
            go_simp
            (try with_reducible rfl)
          (try simp only [Act.put, List.setIfInBounds_toArray, List.set_cons_zero, List.set_cons_succ])
          refine got_take (i := 1) (v := ?v202) (by kernel_rfl) rfl (by decide) (by kernel_rfl) (by kernel_rfl) (fun _ _ _ h => h) (Or.inl ⟨by rfl, ?hy202⟩) hHeld ?rest202
          case hy202 =>
            intro wz hSw
            (try dsimp only at hSw)
            go_split_ands
            go_simp
            (try with_reducible rfl)
          (try simp only [Act.put, List.setIfInBounds_toArray, List.set_cons_zero, List.set_cons_succ])
          refine got_take (i := 2) (v := ?v203) (by kernel_rfl) rfl (by decide) (by kernel_rfl) (by kernel_rfl) (fun _ _ _ h => h) (Or.inl ⟨by rfl, ?hy203⟩) hHeld ?rest203
          case hy203 =>
            intro wz hSw
            (try dsimp only at hSw)
            go_split_ands
            go_simp
            (try with_reducible rfl)
          (try simp only [Act.put, List.setIfInBounds_toArray, List.set_cons_zero, List.set_cons_succ])
          refine got_take (i := 4) (v := ?v204) (by kernel_rfl) rfl (by decide) (by kernel_rfl) (by kernel_rfl) (fun _ _ _ h => h) (Or.inl ⟨by rfl, ?hy204⟩) hHeld ?rest204
          case hy204 =>
            intro wz hSw
            (try dsimp only at hSw)
            go_split_ands
            go_simp
            (try with_reducible rfl)
          (try simp only [Act.put, List.setIfInBounds_toArray, List.set_cons_zero, List.set_cons_succ])
          refine got_take (i := 6) (v := ?v205) (by kernel_rfl) rfl (by decide) (by kernel_rfl) (by kernel_rfl) (fun _ _ _ h => h) (Or.inl ⟨by rfl, ?hy205⟩) hHeld ?rest205
          case hy205 =>
            intro wz hSw
            (try dsimp only at hSw)
            go_split_ands
            go_simp
            (try with_reducible rfl)
          (try simp only [Act.put, List.setIfInBounds_toArray, List.set_cons_zero, List.set_cons_succ])
          refine got_take (i := 8) (v := ?v206) (by kernel_rfl) rfl (by decide) (by kernel_rfl) (by kernel_rfl) (fun _ _ _ h => h) (Or.inl ⟨by rfl, ?hy206⟩) hHeld ?rest206
          case hy206 =>
            intro wz hSw
            (try dsimp only at hSw)
            go_split_ands
            go_simp
            (try with_reducible rfl)
          (try simp only [Act.put, List.setIfInBounds_toArray, List.set_cons_zero, List.set_cons_succ])
          refine got_take (i := 10) (v := ?v207) (by kernel_rfl) rfl (by decide) (by kernel_rfl) (by kernel_rfl) (fun _ _ _ h => h) (Or.inl ⟨by rfl, ?hy207⟩) hHeld ?rest207
          case hy207 =>
            intro wz hSw
            (try dsimp only at hSw)
            go_split_ands
            go_simp
            (try with_reducible rfl)
          (try simp only [Act.put, List.setIfInBounds_toArray, List.set_cons_zero, List.set_cons_succ])
          refine got_one (i := 3) rfl (by decide) (by kernel_rfl) ?_
          intro K' hK
          go_simp
          refine (numS B b o n c t.id _ _ _ (HS.out.below HDW.out) HTO.out.id).mono ?_
          rintro r w11 ⟨rfl, hs11, o11⟩
          have p11 := (o11.block E (Array.getElem?_eq_some_iff.1 p10).1 (by omega)).trans p10
          have q11 := hs11.num
          dsimp only
          refine hK.out _ _ (⟨cell_of_row _ _ 0 _ _ _ p11, q11⟩) (fun hHeld => ?_)
          clear hK K'
          (try simp only [Act.put, List.setIfInBounds_toArray, List.set_cons_zero, List.set_cons_succ])
          refine got_one (i := 5) rfl (by decide) (by kernel_rfl) ?_
          intro K' hK
          go_simp
          refine (numS B b o n c t.level _ _ _ hs11 HTO.out.level).mono ?_
          rintro r w12 ⟨rfl, hs12, o12⟩
          have p12 := (o12.block E (Array.getElem?_eq_some_iff.1 p11).1 (by omega)).trans p11
          have q12 := hs12.num
          dsimp only
          refine hK.out _ _ (⟨cell_of_row _ _ 0 _ _ _ p12, q12⟩) (fun hHeld => ?_)
          clear hK K'
          (try simp only [Act.put, List.setIfInBounds_toArray, List.set_cons_zero, List.set_cons_succ])
          refine got_one (i := 7) rfl (by decide) (by kernel_rfl) ?_
          intro K' hK
          go_simp
          refine (numS B b o n c t.count _ _ _ hs12 HTO.out.count).mono ?_
          rintro r w13 ⟨rfl, hs13, o13⟩
          have p13 := (o13.block E (Array.getElem?_eq_some_iff.1 p12).1 (by omega)).trans p12
          have q13 := hs13.num
          dsimp only
          refine hK.out _ _ (⟨cell_of_row _ _ 0 _ _ _ p13, q13⟩) (fun hHeld => ?_)
          clear hK K'
          (try simp only [Act.put, List.setIfInBounds_toArray, List.set_cons_zero, List.set_cons_succ])
          refine got_one (i := 9) rfl (by decide) (by kernel_rfl) ?_
          intro K' hK
          go_simp
          refine (textS B b o n c t.lo _ _ _ hs13 HLL.out).mono ?_
          rintro r w14 ⟨A14, c14, rfl, hb14, hs14, o14⟩
          have p14 := (o14.block E (Array.getElem?_eq_some_iff.1 p13).1 (by omega)).trans p13
          have q14 := hs14.num
          dsimp only
          refine hK.out _ _ (⟨cell_of_row _ _ 0 _ _ _ p14, q14⟩) (fun hHeld => ?_)
          clear hK K'
          (try simp only [Act.put, List.setIfInBounds_toArray, List.set_cons_zero, List.set_cons_succ])
          refine got_one (i := 11) rfl (by decide) (by kernel_rfl) ?_
          intro K' hK
          go_simp
          refine (textS B b o n c t.hi _ _ _ hs14 HHL.out).mono ?_
          rintro r w15 ⟨A15, c15, rfl, hb15, hs15, o15⟩
          have p15 := (o15.block E (Array.getElem?_eq_some_iff.1 p14).1 (by omega)).trans p14
          have q15 := hs15.num
          dsimp only
          refine hK.out _ _ (⟨cell_of_row _ _ 0 _ _ _ p15, q15⟩) (fun hHeld => ?_)
          clear hK K'
          (try simp only [Act.put, List.setIfInBounds_toArray, List.set_cons_zero, List.set_cons_succ])
          refine got_take (i := 12) (v := ?v208) (by kernel_rfl) rfl (by decide) (by kernel_rfl) (by kernel_rfl) (fun _ _ _ h => h) (Or.inl ⟨by rfl, ?hy208⟩) hHeld ?rest208
          case hy208 =>
            intro wz hSw
            (try dsimp only at hSw)
            go_split_ands
            go_simp
            (try with_reducible rfl)
          (try simp only [Act.put, List.setIfInBounds_toArray, List.set_cons_zero, List.set_cons_succ])
          refine got_one (i := 13) rfl (by decide) (by kernel_rfl) ?_
          intro K' hK
          go_simp
          have HFA : Hid (fr w15 (w15.alloc (.cells #[.int .i64 t.id, .int .i64 t.level, .int .i64 t.count, .slice A14 t.lo.length c14, .slice A15 t.hi.length c15] 57))) := Lib.hid (fr.alloc fr.refl _)
          refine hK.out _ _ (⟨fr.cell HFA.out (cell_of_row _ _ 0 _ _ _ p15), fr.cell HFA.out q15⟩) (fun hHeld => ?_)
          clear hK K'
          (try simp only [Act.put, List.setIfInBounds_toArray, List.set_cons_zero, List.set_cons_succ])
          refine got_tail (by kernel_rfl) rfl ?_
          simp only [List.drop_succ_cons, List.drop_zero]
          have HONW := Lib.hid ((Only.of_below HDW.out).trans ((o11.trans (o12.trans (o13.trans (o14.trans o15)))).trans (Only.of_below HFA.out)))
          have hx : tbR (w15.alloc (.cells #[.int .i64 t.id, .int .i64 t.level, .int .i64 t.count, .slice A14 t.lo.length c14, .slice A15 t.hi.length c15] 57)) (freshL (w15.alloc (.cells #[.int .i64 t.id, .int .i64 t.level, .int .i64 t.count, .slice A14 t.lo.length c14, .slice A15 t.hi.length c15] 57)) wr.heap.size (.slice none 0 0)) t [.int .i64 t.id, .int .i64 t.level, .int .i64 t.count, .slice A14 t.lo.length c14, .slice A15 t.hi.length c15] := by
            have z11 := o11.size
            have z12 := o12.size
            have z13 := o13.size
            have z14 := o14.size
            have z10 : wr.heap.size ≤ w11.heap.size := z11
            have r1 : BytL _ _ (.slice A14 t.lo.length c14) t.lo := BytL.only hb14 (o15.trans (Only.of_below HFA.out)) (fun i hi _ e => by omega)
            have r2 : BytL _ _ (.slice A15 t.hi.length c15) t.hi := BytL.only hb15 (Only.of_below (S := fun _ => False) HFA.out) (fun _ _ _ e => e.elim)
            exact ⟨_, _, rfl, Byt.mono r1 fun i hi => ⟨by have := hi.1; omega, fun e => (by cases e), hi.2⟩, Byt.mono r2 fun i hi => ⟨by have := hi.1; omega, fun e => (by cases e), hi.2⟩⟩
          have HX := Lib.hid hx
          have HCW := Lib.hid ((own_only HCSS.out HONW.out fun g hg hS => by have := (HCSS.out.lt g hg).1; omega))
          have HYW : Hid (All2 (tbR (w15.alloc (.cells #[.int .i64 t.id, .int .i64 t.level, .int .i64 t.count, .slice A14 t.lo.length c14, .slice A15 t.hi.length c15] 57)) (freshL (w15.alloc (.cells #[.int .i64 t.id, .int .i64 t.level, .int .i64 t.count, .slice A14 t.lo.length c14, .slice A15 t.hi.length c15] 57)) lo av)) (e.add.take i) css) := Lib.hid (HYS.out.imp fun _ _ hz => tbFine.keep hz fun _ _ _ _ hr => (hr.only HONW.out fun i _ hi hs => by have := hi.1; omega).mono fun i hi => ⟨hi.1, hi.2.1, hi.2.2.only HONW.out fun hs => by have := hi.1; omega⟩)
          have HPW := Lib.hid (boxRowFr p15 HFA.out)
          have HSW := Lib.hid (hs15.below HFA.out)
          have hm2 : i + 1 ≤ maxLen := by unfold maxLen; omega
          have hm3 : (i + 1) * 72 ≤ 140737488355328 := by omega
          have hzW : lo ≤ (w15.alloc (.cells #[.int .i64 t.id, .int .i64 t.level, .int .i64 t.count, .slice A14 t.lo.length c14, .slice A15 t.hi.length c15] 57)).heap.size := Nat.le_trans hsz2 HONW.out.size
          clear hs11 o11 hs12 o12 hs13 o13 hs14 o14 hs15 o15 hb14 hb15 p10 p11 p12 p13 p14 p15 q11 q12 q13 q14 q15 hHeld hx
          go_wp2_with (at_builtin; refine wpList_append_own_at _ rfl _ _ 43 rfl lo 57 i0 _ 5 72 Tryz.underlying43 hi hz0 hz1'.out hby.out rfl (by decide) _ _ _ rfl HCW.out ⟨w15.heap.size, 0, none⟩ 1 1 [.int .i64 t.id, .int .i64 t.level, .int .i64 t.count, .slice A14 t.lo.length c14, .slice A15 t.hi.length c15] rfl rfl (cells_at rfl (by simp)) (by simp [Value.oneCell']) hm2 hm3 hzW ?_; intro v' w17 hown' hgrow hnn hat; clear hnn; obtain ⟨A17, c17, rfl⟩ := own_form hown'; have p17 := ((Only.of_grown hgrow).block E (Array.getElem?_eq_some_iff.1 HPW.out).1 HNO.out).trans HPW.out; have c17' := cell_of_row _ _ 0 _ _ _ p17; have z17 := frozen_of_row _ _ 0 _ _ p17)
          have hpush := OwnRows.pushAll tbFine (lv := .slice none 0 0) (ls := [t]) HYW.out (.cons HX.out .nil) (fun j hj => (HCSS.out.lt j hj).2) hsz2 hgrow hat (by rw [HLK.out]; exact hown')
          rw [← HTK.out] at hpush
          have hgo : Only (fun i => i = B + 2 ∨ i = B + 3 ∨ i = E) wd (w17.setCell ⟨E, 0, none⟩ (.slice A17 (i + 1) c17)) := ((HON2.out.trans (HONW.out.mono fun i h => (h.elim .inl fun h => .inr (.inl h) : i = B + 2 ∨ i = B + 3 ∨ i = E))).fresh (Only.of_grown hgrow) fun i hi => .inr (by have := (HCSS.out.lt i hi).1; have := HLO.out; omega)).trans ((only_set w17 E 0 _).mono fun i e => .inr (.inr e))
          have hs17 : RdS (w17.setCell ⟨E, 0, none⟩ (.slice A17 (i + 1) c17)) B b o n c (editF e nx) (addsF (e.add.drop (i + 1))) := (HSW.out.only (Only.of_grown hgrow) fun i hi => .inr (by have := (HCSS.out.lt i hi).1; omega)).only (only_set w17 E 0 _) fun i hi => .inr (by omega)
          have hp17 := heap_setCell_same w17 E 0 _ _ (.slice A17 (i + 1) c17) p17
          have HFINAL := Lib.hid (show ∃ (y : Nat) (av : Value), (na - (i + 1)) + y = na ∧ RdS (w17.setCell ⟨E, 0, none⟩ (.slice A17 (i + 1) c17)) B b o n c (editF e nx) (addsF (e.add.drop y)) ∧ (w17.setCell ⟨E, 0, none⟩ (.slice A17 (i + 1) c17)).heap[E]? = some (.cells #[av, dv, .int .i64 e.lg, .int .i64 e.sq] 45 (0, 0)) ∧ OwnTabs (w17.setCell ⟨E, 0, none⟩ (.slice A17 (i + 1) c17)) lo av (e.add.take y) ∧ Only (fun i => i = B + 2 ∨ i = B + 3 ∨ i = E) wd (w17.setCell ⟨E, 0, none⟩ (.slice A17 (i + 1) c17)) from
            ⟨i + 1, _, by omega, hs17, hp17, OwnRows.onlyF tbFine hpush (only_set w17 E 0 _) (fun j hj _ e => by omega), hgo⟩)
          go_roundg (na - (i + 1))
          case rel => exact HFINAL.out
          case measure => omega
        · obtain rfl : i = na := by omega
          obtain ⟨Aa, ca, rfl⟩ : ∃ A c, av = .slice A (e.add.take i).length c := by obtain ⟨css, h1, _⟩ := HOW2.out; exact own_form h1
          obtain ⟨Ad, cd, rfl⟩ := own_form HOW1.out
          have hkk : n = k := by
            have : addsF (e.add.drop i) = [] := by rw [List.drop_eq_nil_of_le (by rw [HNA.out]; exact Nat.le_refl _)]; rfl
            exact (hkn.1 this).symm
          rw [← hkk] at k2
          have hd2 : decide ((n : Int) < (n : Int)) = false := decide_eq_false (by omega)
          clear hkk
          have hti : e.add.take i = e.add := List.take_of_length_le (by rw [HNA.out]; exact Nat.le_refl _)
          rw [hti, HNA.out] at hpe HOW2
          have hown2 : OwnTabs wr lo (.slice Aa i ca) e.add := HOW2.out
          clear hti
          have HOA := Lib.hid hown2
          have HDR := Lib.hid (own_only HOW1.out HON2.out fun g hg hS => by have := (HOW1.out.lt g hg).1; omega)
          have pR : wr.heap[B + 1]? = some (.cells #[.slice none 0 0, .slice none 0 0, .int .i64 0, .int .i64 0] 45 (0, 0)) := by
            have l5 := (Array.getElem?_eq_some_iff.1 HE.out).1
            have l10 := HO10.out.size
            have lwd := HON.out.size
            exact (HON2.out.block _ (by omega) (by omega)).trans ((HON.out.block _ (by omega) (by omega)).trans ((HO10.out.block _ l5 (by omega)).trans HE.out))
          have HPR := Lib.hid pR
          have e0 := cell_of_row _ _ 0 _ _ _ hpe
          have e1 := cell_of_row _ _ 1 _ _ _ hpe
          have e2 := cell_of_row _ _ 2 _ _ _ hpe
          have e3 := cell_of_row _ _ 3 _ _ _ hpe
          have r0 := cell_of_row _ _ 0 _ _ _ pR
          have r1 := cell_of_row _ _ 1 _ _ _ pR
          have r2 := cell_of_row _ _ 2 _ _ _ pR
          have r3 := cell_of_row _ _ 3 _ _ _ pR
          have y0 := frozen_of_row _ _ 0 _ _ pR
          have y1 := frozen_of_row _ _ 1 _ _ pR
          have y2 := frozen_of_row _ _ 2 _ _ pR
          have y3 := frozen_of_row _ _ 3 _ _ pR
          clear hs hpe hown hon hkn hk pR hown2
          go_upto_region 13 with (fail)
          go_region
          go_wp2_with (fail)
          have P := put4_row HPR.out (a := .slice Aa i ca) (b := .slice Ad j cd) (c := .int .i64 e.lg) (d := .int .i64 e.sq)
          have O := (put4_only (W := wr) (g := B + 1) (a := .slice Aa i ca) (b := .slice Ad j cd) (c := .int .i64 e.lg) (d := .int .i64 e.sq)).drew
          have P2 : (put4 wr (B + 1) (.slice Aa i ca) (.slice Ad j cd) (.int .i64 e.lg) (.int .i64 e.sq)).drew.heap[B + 1]? = _ := P
          clear P
          unfold put4 at P2 O
          generalize ((((wr.setCell ⟨B + 1, 0, none⟩ (.slice Aa i ca)).setCell ⟨B + 1, 1, none⟩ (.slice Ad j cd)).setCell ⟨B + 1, 2, none⟩ (.int .i64 e.lg)).setCell ⟨B + 1, 3, none⟩ (.int .i64 e.sq)).drew = w20 at P2 O ⊢
          have s0 := cell_of_row _ _ 0 _ _ _ P2
          have s1 := cell_of_row _ _ 1 _ _ _ P2
          have s2 := cell_of_row _ _ 2 _ _ _ P2
          have s3 := cell_of_row _ _ 3 _ _ _ P2
          refine bodyPost_ret (v := .tuple #[.agg #[.slice Aa i ca, .slice Ad j cd, .int .i64 e.lg, .int .i64 e.sq], .int .i64 nx, .bool true]) (by simp [results, Tryz.results131, go_sem, s0, s1, s2, s3]) rfl ?_
          have hz20 := O.size
          have hzz := HB.out
          have hfr : fr w w20 := by
            have h1 : Only (fun i => B ≤ i) w5 w20 := (HO10.out.mono fun i h => by omega).trans ((HON.out.mono fun i h => by omega).trans ((HON2.out.mono fun i h => by omega).trans (O.mono fun i h => by omega)))
            exact HF5.out.trans (h1.below (Below.size HF5.out) fun i h => by omega)
          have hdr := own_only HDR.out O fun g hg hS => by have := (HDR.out.lt g hg).1; omega
          refine ⟨_, _, rfl, OwnRows.rebaseF tbFine (OwnRows.onlyF tbFine HOA.out O (fun k hk _ e => by omega)) (by omega), ?_, hfr⟩
          exact (ints_of_own hdr HND.out (by omega)).mono fun k hk => ⟨by omega, hk.2⟩
end Go.Proofs.YtjnolpfmchnnmaaGreatDoor
end
section
namespace Go.Proofs.YtjnolpfmchnnmaaGreatDoor
set_option maxRecDepth 100000
open Go.RowKit Go.BigFrame Go.Sort Go.Shelf Go.Lib
attribute [local go_sem ↓] Go.wp_at_zero Go.wp_at_succ
def FileOk (D : Nm → Option (List UInt8)) (num dn : Nat) (v : Ver) : Prop :=
  D curW = some (Lib.itoa (num : Int)) ∧ ∃ l, l ≠ [] ∧ l.length ≤ dn ∧ D (nameM num) = some (frB (recsM l)) ∧ ChainOk ver0 l v
structure ManC (w : World) (F : Nat → Prop) (M p : Nat) (v : Ver) (num dn : Nat) (D : Nm → Option (List UInt8)) : Prop where
  dk : DkC w F p dn D
  out : ¬ F M ∧ tabG < M
  row : ∃ x, ManR w M p x v num ∧ TabsV w (fun i => ¬ F i ∧ i ≠ M) x v.tabs
  file : FileOk D num dn v
  ver : VerOk v
  num : 1 ≤ num ∧ num < 1000000
theorem ManC.below {w w' : World} {F : Nat → Prop} {M p num dn : Nat} {v : Ver} {D : Nm → Option (List UInt8)} (h : ManC w F M p v num dn D) (hf : fr w w') : ManC w' F M p v num dn D := by
  obtain ⟨h1, h2, ⟨x, h3, h4⟩, h5, h6, h7⟩ := h
  exact ⟨h1.below hf, h2, ⟨x, h3.below hf, h4.below tbFine hf⟩, h5, h6, h7⟩
theorem ManC.lt {w : World} {F : Nat → Prop} {M p num dn : Nat} {v : Ver} {D : Nm → Option (List UInt8)} (h : ManC w F M p v num dn D) : M < w.heap.size := by
  obtain ⟨x, h3, h4⟩ := h.row
  exact h3.lt
set_option maxRecDepth 100000 in
set_option maxHeartbeats 1000000 in
theorem mver_any (S : Nat → Prop) (M p num : Nat) (x : Value) (v : Ver) (w : World) (hm : ManR w M p x v num) (hx : TabsV w S x v.tabs) :
    Calls Tryz.prog 29 #[.pointer (some ⟨M, 0, none⟩)] w fun r w' => ∃ x', r = .returned (.agg #[x', .int .i64 v.lg, .int .i64 v.sq, .int .i64 v.nx]) ∧ OwnTabs w' w.heap.size x' v.tabs ∧ fr w w' := by
  obtain ⟨Ax, cx, rfl⟩ := hx.form
  have HX := Lib.hid hx
  have HM := Lib.hid hm
  have hf : fr w (w.alloc (.cells #[.slice none 0 0, .int .i64 0, .int .i64 0, .int .i64 0] 50)) := fr.alloc fr.refl _
  have b0 := heap_alloc_new w (.cells #[.slice none 0 0, .int .i64 0, .int .i64 0, .int .i64 0] 50)
  obtain ⟨n, hn⟩ : ∃ n, v.tabs.length = n := ⟨_, rfl⟩
  rw [hn] at HX HM
  have HN := Lib.hid hn
  clear hx hm hn
  go_enter Tryz.func29, Tryz.ntmps29
  go_upto_region 1 with (fail)
  obtain ⟨z, hz⟩ : ∃ z, w.heap.size = z := ⟨_, rfl⟩
  rw [hz] at b0 ⊢
  generalize w.alloc (.cells #[.slice none 0 0, .int .i64 0, .int .i64 0, .int .i64 0] 50) = w1 at hf b0 ⊢
  obtain ⟨e0, e1, e2, e3, e4, e5⟩ := (HM.out.below hf).cells
  have HF := Lib.hid hf
  have HB := Lib.hid b0
  have HZ := Lib.hid hz
  have HC := Lib.hid (mclone_any S (.slice Ax n cx) v.tabs v.lg v.sq v.nx w1 (HX.out.below tbFine hf))
  clear hf b0 hz
  go_wp2_with (go_at_call 85; refine HC.out.mono ?_; rintro r w2 ⟨x2, rfl, ho2, f2⟩; obtain ⟨A2, c2, rfl⟩ : ∃ A c, x2 = .slice A v.tabs.length c := (by obtain ⟨css, h1, _⟩ := ho2; exact own_form h1); have b2 := boxRowFr HB.out f2; have r0 := cell_of_row _ _ 0 _ _ _ b2; have r1 := cell_of_row _ _ 1 _ _ _ b2; have r2 := cell_of_row _ _ 2 _ _ _ b2; have r3 := cell_of_row _ _ 3 _ _ _ b2; have y0 := frozen_of_row _ _ 0 _ _ b2; have y1 := frozen_of_row _ _ 1 _ _ b2; have y2 := frozen_of_row _ _ 2 _ _ b2; have y3 := frozen_of_row _ _ 3 _ _ b2)
  have P := put4_row b2 (a := .slice A2 v.tabs.length c2) (b := .int .i64 v.lg) (c := .int .i64 v.sq) (d := .int .i64 v.nx)
  have O := put4_only (W := w2) (g := z) (a := .slice A2 v.tabs.length c2) (b := .int .i64 v.lg) (c := .int .i64 v.sq) (d := .int .i64 v.nx)
  unfold put4 at P O
  generalize (((w2.setCell ⟨z, 0, none⟩ (.slice A2 v.tabs.length c2)).setCell ⟨z, 1, none⟩ (.int .i64 v.lg)).setCell ⟨z, 2, none⟩ (.int .i64 v.sq)).setCell ⟨z, 3, none⟩ (.int .i64 v.nx) = w9 at P O ⊢
  have s0 := cell_of_row _ _ 0 _ _ _ P
  have s1 := cell_of_row _ _ 1 _ _ _ P
  have s2 := cell_of_row _ _ 2 _ _ _ P
  have s3 := cell_of_row _ _ 3 _ _ _ P
  refine bodyPost_ret (v := .agg #[.slice A2 v.tabs.length c2, .int .i64 v.lg, .int .i64 v.sq, .int .i64 v.nx]) (by simp [results, Tryz.results29, go_sem, s0, s1, s2, s3]) rfl ?_
  have hz1 : z < w1.heap.size := (Array.getElem?_eq_some_iff.1 HB.out).1
  have hff := fr.step HF.out f2
  exact ⟨_, rfl, OwnRows.rebaseF tbFine (OwnRows.onlyF tbFine ho2 O (fun i hi _ e => by omega)) (by have := HZ.out; omega), hff.trans (O.below (Below.size hff) fun i h => by have := HZ.out; omega)⟩
theorem mver_calm {w : World} {F : Nat → Prop} {M p num dn : Nat} {v : Ver} {D : Nm → Option (List UInt8)} (h : ManC w F M p v num dn D) :
    Calls Tryz.prog 29 #[.pointer (some ⟨M, 0, none⟩)] w fun r w' => ∃ x', r = .returned (.agg #[x', .int .i64 v.lg, .int .i64 v.sq, .int .i64 v.nx]) ∧ OwnTabs w' w.heap.size x' v.tabs ∧ fr w w' := by
  obtain ⟨x, h1, h2⟩ := h.row
  exact mver_any _ M p num x v w h1 h2
end Go.Proofs.YtjnolpfmchnnmaaGreatDoor
end
