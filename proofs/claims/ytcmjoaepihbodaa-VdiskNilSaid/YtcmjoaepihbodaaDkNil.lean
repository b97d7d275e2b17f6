/-
law 7: VdiskNil.
-/
import Derived.Test.YtcmjoaepihbodaaDkH
import Derived.Test.YtcmjoaepihbodaaOpn
namespace Go.Proofs.Ytcmjoaepihbodaa
open Go.RowKit Go.BigFrame
attribute [local go_sem ↓] Go.wp_at_zero Go.wp_at_succ

theorem wpList_append_byt_w {w : World} {ops : Array Oper} {rest : List Oper} {o : Oper} {a : Act} {Q : Exit → Act → World → Prop} (hgd : Region.wanted o (yielded ops a.tmps) = true) (s x : Operand)
    (ho : o.op = .call { callee := .builtin .append, args := #[s, x], argTypes := #[35, 35] }) (base : Nat) (v0 src : Value) (hs : a.eval s = v0) (hx : a.eval x = src)
    (S : Nat → Prop) (bs : List UInt8) (hown : w.ownsRow base 5 1 v0 0 []) (h : Byt w S src bs) (hbase : base ≤ w.heap.size)
    (hK : ∀ v' w', w'.ownsRow base 5 1 v' bs.length (bs.map bcell) → w.grownBy w' v0.ownBlock → wpList Try.prog ops Q rest (a.put o.dst v') w') : wpList Try.prog ops Q (o :: rest) a w :=
  wpList_want hgd fun _ hk => by
    obtain ⟨v', w', hrun, h2, h3⟩ := run_append_byt w base o.type v0 src S bs hown h hbase
    unfold Oper.wp execOp
    simp only [ho, resolve, invoke, builtin, Sem.run_bind, Sem.run_pure, Result.andThen_ok, List.map_toArray, List.map_cons, List.map_nil, hs, hx, hrun]
    exact hk _ _ (hK v' w' h2 h3)

set_option maxRecDepth 100000 in
set_option maxHeartbeats 4000000 in
theorem vdiskNilLaw (v : Value) (x : List UInt8) (kv : Value) (b : List UInt8) (w : World) (hv : v = .string ⟨x.toArray⟩ ∧ x.length ≤ 140737488355328) (hkv : Byt w (fun _ => True) kv b) :
    Calls Try.prog 6 #[v, kv] w fun r w' => r = .returned (.bool true) ∧ Below w.heap.size w w' := by
  obtain ⟨rfl, _⟩ := hv
  have HKV := Lib.hid hkv
  obtain ⟨Ak, ck, rfl⟩ := slice_form hkv
  clear hkv
  go_enter Try.func6, Try.ntmps6
  go_wp2_with (first
    | (go_at_call 19; refine (read_nil _ _).mono ?_; rintro r w1 ⟨rfl, hb1⟩)
    | (go_at_call 25; refine (list_nil _).mono ?_; rintro r w2 ⟨rfl, hb2⟩)
    | (go_at_call 8; refine (wakes_any _).mono ?_; rintro r w3 ⟨rfl, hb3⟩; have hbA := (((hb1.trans (hb2.mono hb1.size)).trans (hb3.mono (Nat.le_trans hb1.size hb2.size))).alloc (Nat.le_trans hb1.size (Nat.le_trans hb2.size hb3.size)) (.cells #[] 5)); have HBA := Lib.hid hbA; have HZ3 := Lib.hid (Nat.le_trans hb1.size (Nat.le_trans hb2.size hb3.size)); clear hbA hb1 hb2 hb3)
    | (at_builtin; (refine wpList_append_byt_w (by rfl) _ _ rfl w3.heap.size _ _ rfl rfl (fun _ => True) b (lit0 w3) (HKV.out.below HBA.out) (by simp) ?_); intro v' w4 hown hgrow; have HB4 := Lib.hid (HBA.out.grown hgrow HBA.out.size (fun j e => by cases e; exact HZ3.out)); obtain ⟨A4, c4, rfl⟩ := own_form hown; clear hown hgrow)
    | (go_at_call 15; refine (append_nil _ _ _).mono ?_; rintro r w5 ⟨rfl, hb5⟩; have HB5 := Lib.hid (HB4.out.trans (hb5.mono HB4.out.size)); clear hb5)
    | (go_at_call 22; refine (sync_nil _ _).mono ?_; rintro r w6 ⟨rfl, hb6⟩; have HB6 := Lib.hid (HB5.out.trans (hb6.mono HB5.out.size)); clear hb6)
    | (go_at_call 23; refine (rename_nil _ [97] _).mono ?_; rintro r w7 ⟨rfl, hb7⟩; have HB7 := Lib.hid (HB6.out.trans (hb7.mono HB6.out.size)); clear hb7)
    | (go_at_call 24; refine (delete_nil _ _).mono ?_; rintro r w8 ⟨rfl, hb8⟩; have HB8 := Lib.hid (HB7.out.trans (hb8.mono HB7.out.size)); clear hb8)
    | (go_at_call 13; refine (revive_nil _ _ none 0 0 0 0 rfl).mono ?_; rintro r w9 ⟨rfl, hb9⟩; have HB9 := Lib.hid (HB8.out.trans (hb9.mono HB8.out.size)); clear hb9)
    | (go_at_call 12; refine (dump_nil _).mono ?_; rintro r w10 ⟨rfl, rfl⟩))
  refine bodyPost_ret (v := .bool true) (by simp [results, Try.results6, go_sem]) rfl ?_
  exact ⟨rfl, HB9.out⟩
end Go.Proofs.Ytcmjoaepihbodaa
