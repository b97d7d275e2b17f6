/-
law 11's all: what a table tells, as a list.
-/
import Derived.Test.YtelbidknefkaiaaQPMemOwn17
import Derived.Test.YtelbidknefkaiaaQPMemOwn13
import Derived.Test.YtelbidknefkaiaaQPMemOwn0
import Derived.Shelf.Abstract
import Derived.Shelf.RegionOpen
import Derived.WalkKit
import Derived.OwnWalkIn
import Derived.TacticsInMore
import Derived.LoopNIn
import Derived.LoopIn
import Derived.Maps.AppendAt
import Derived.Sort.LoopGhostIn
section
namespace Go.Proofs.Ytelbidknefkaiaa
open Go.RowKit Go.BigFrame
attribute [local go_sem ↓] Go.wp_at_zero Go.wp_at_succ
theorem put_in (S : Nat → Prop) (base T : Nat) (ns : List Nd) (hs : Value) (v : Value) (e : Ent) (w : World) (h : SkipV w base T ns hs ns.length) (hl : ns.length < 1152921504606846976) (hu : allUp ns) (hh : Hts w base hs) (hv : EntV w S v e) (hg : goodE e = true) (hno : ∀ n, ns[cnt e ns]? = some n → cmpE n.ent e ≠ 0) (hbw : base ≤ w.heap.size) (hT : base ≤ T) :
    Calls Try.prog 12 #[.pointer (some ⟨T, 0, none⟩), v] w fun r w' => r = .returned (.int .i64 0) ∧ ∃ n : Nd, n.ent = e ∧ allUp (ns.take (cnt e ns) ++ n :: ns.drop (cnt e ns)) ∧ SkipV w' base T (ns.take (cnt e ns) ++ n :: ns.drop (cnt e ns)) hs (ns.take (cnt e ns) ++ n :: ns.drop (cnt e ns)).length ∧ Hts w' base hs ∧ Below base w w' := by
  refine (put_new S base base T ns hs v e w h hl hu hh hv hg hno hbw).mono ?_
  rintro r w' ⟨rfl, n, hn, hp, hs', hh', ho⟩
  refine ⟨rfl, n, hn, fun x hx => ?_, ?_, hh', ho.below hbw ?_⟩
  · rcases List.mem_append.1 hx with hx | hx
    · exact hu x (List.mem_of_mem_take hx)
    · rcases List.mem_cons.1 hx with rfl | hx
      · exact hp
      · exact hu x (List.mem_of_mem_drop hx)
  · have e : (ns.take (cnt e ns) ++ n :: ns.drop (cnt e ns)).length = ns.length + 1 := by
      have := cnt_le e ns
      simp
      omega
    rw [e, Int.natCast_add]
    exact hs'
  · rintro i (rfl | ⟨n, hn, rfl⟩)
    · exact hT
    · exact h.lo n hn
def me1 : Ent := ⟨[97], 1, false, []⟩
def me2 : Ent := ⟨[97], 2, true, []⟩
def me3 : Ent := ⟨[97], 2, false, []⟩
def me4 : Ent := ⟨[98], 0, false, []⟩
theorem ent_lit (w : World) (b : UInt8) (v : Value) (hv : v = bcell b) (seq : Int) (dead : Bool) : EntV (w.alloc (.cells #[v] 5 (1, 2))) (fun _ => True) (.agg #[.slice (some ⟨w.heap.size, 0, none⟩) 1 1, .int .i64 seq, .bool dead, .slice none 0 0]) ⟨[b], seq, dead, []⟩ ∧ Below w.heap.size w (w.alloc (.cells #[v] 5 (1, 2))) :=
  ⟨⟨_, _, rfl, Byt.one (v := v) (cell_marked _ _ _ _ _ _ rfl) hv trivial (by omega) (by omega), Byt.nil _ _⟩, (Below.refl _ _).alloc (Nat.le_refl _) _⟩
theorem put_m1 (base T : Nat) (hs v : Value) (w : World) (h : SkipV w base T [] hs 0) (hh : Hts w base hs) (hv : EntV w (fun _ => True) v me1) (hbw : base ≤ w.heap.size) (hT : base ≤ T) :
    Calls Try.prog 12 #[.pointer (some ⟨T, 0, none⟩), v] w fun r w' => r = .returned (.int .i64 0) ∧ ∃ n : Nd, n.ent = me1 ∧ allUp [n] ∧ SkipV w' base T [n] hs 1 ∧ Hts w' base hs ∧ Below base w w' :=
  put_in _ base T [] hs v me1 w h (by simp) (fun n hn => by simp at hn) hh hv (by decide) (fun n hn => by simp at hn) hbw hT
theorem put_m2 (base T : Nat) (hs v : Value) (w : World) (n1 : Nd) (e1 : n1.ent = me1) (hu : allUp [n1]) (h : SkipV w base T [n1] hs 1) (hh : Hts w base hs) (hv : EntV w (fun _ => True) v me2) (hbw : base ≤ w.heap.size) (hT : base ≤ T) :
    Calls Try.prog 12 #[.pointer (some ⟨T, 0, none⟩), v] w fun r w' => r = .returned (.int .i64 0) ∧ ∃ n : Nd, n.ent = me2 ∧ allUp [n, n1] ∧ SkipV w' base T [n, n1] hs 2 ∧ Hts w' base hs ∧ Below base w w' := by
  have hc : cnt me2 [n1] = 0 := by simp [cnt, e1, show ¬ cmpE me1 me2 < 0 by decide]
  have := put_in _ base T [n1] hs v me2 w h (by simp) hu hh hv (by decide) (fun n hn => by rw [hc] at hn; simp at hn; subst hn; rw [e1]; decide) hbw hT
  rw [hc] at this
  exact this
theorem put_m3 (base T : Nat) (hs v : Value) (w : World) (n1 n2 : Nd) (e2 : n2.ent = me2) (hu : allUp [n2, n1]) (h : SkipV w base T [n2, n1] hs 2) (hv : EntV w (fun _ => True) v me3) :
    Calls Try.prog 12 #[.pointer (some ⟨T, 0, none⟩), v] w fun r w' => r = .returned (.int .i64 31) ∧ Below w.heap.size w w' := by
  have hc : cnt me3 [n2, n1] = 0 := by simp [cnt, e2, show ¬ cmpE me2 me3 < 0 by decide]
  exact put_twice _ base T _ hs _ v me3 w h hu hv (by decide) n2 (by rw [hc]; rfl) (by rw [e2]; decide)
theorem get_m (base T : Nat) (hs v : Value) (w : World) (n1 n2 : Nd) (e1 : n1.ent = me1) (e2 : n2.ent = me2) (hu : allUp [n2, n1]) (h : SkipV w base T [n2, n1] hs 2) (hv : Byt w (fun _ => True) v [97]) :
    Calls Try.prog 11 #[.pointer (some ⟨T, 0, none⟩), v, .int .i64 1] w fun r w' => ∃ k d u, r = .returned (.tuple #[.agg #[k, .int .i64 1, d, u], .bool true, .int .i64 0]) ∧ (∃ A n c, k = .slice A n c) ∧ (∃ b, d = .bool b) ∧ (∃ A n c, u = .slice A n c) ∧ Below w.heap.size w w' := by
  have hc : cnt ⟨[97], 1, false, []⟩ [n2, n1] = 1 := by simp [cnt, e1, e2, show cmpE me2 ⟨[97], 1, false, []⟩ < 0 by decide, show ¬ cmpE me1 ⟨[97], 1, false, []⟩ < 0 by decide]
  refine (get_any _ base T _ hs _ v [97] 1 w h hu hv).mono ?_
  rintro r w' ⟨k, s, d, u, ok, rfl, hg, hb⟩
  rw [hc] at hg
  have hk : n1.ent.key = [97] := by rw [e1]; rfl
  have hg' : if n1.ent.key = [97] then ok = true ∧ EntV w' (fun _ => True) (.agg #[k, s, d, u]) n1.ent else ok = false := hg
  rw [if_pos hk, e1] at hg'
  obtain ⟨rfl, k', u', he, h1, h2⟩ := hg'
  injection he with he
  injection he with he
  simp only [List.cons.injEq, and_true] at he
  obtain ⟨rfl, rfl, rfl, rfl⟩ := he
  obtain ⟨A, c, rfl⟩ := slice_form h1
  obtain ⟨A', c', rfl⟩ := slice_form h2
  exact ⟨_, _, _, rfl, ⟨_, _, _, rfl⟩, ⟨_, rfl⟩, ⟨_, _, _, rfl⟩, hb⟩
set_option maxRecDepth 100000 in
set_option maxHeartbeats 4000000 in
theorem wakesM_any (w : World) : Calls Try.prog 14 #[] w fun r w' => r = .returned (.bool true) ∧ Below w.heap.size w w' := by
  have kc : ∀ (W : World) (C : Array Value) (n c g : Nat), g = W.heap.size → (convert 23 23 (.slice (some ⟨g, 0, none⟩) n c)).run Try.prog (W.alloc (.cells C 5)) = .ok (.slice (some ⟨g, 0, none⟩) n c) (W.alloc (.cells C 5 (C.size, C.size + 1))) := fun W C n c g hg => hg ▸ Lib.run_convert_bytes_const (P := Try.prog) W 23 5 C n c Try.underlying23 Try.underlying5
  have hA : Below w.heap.size w (w.alloc (.cells #[.int .i64 3, .int .i64 99, .int .i64 (-1)] 3)) := (Below.refl _ _).alloc (Nat.le_refl _) _
  have HI := Lib.hid (IntsIn.lit w (fun _ => True) trivial 3 [3, 99, -1] (by simp) (.cells #[.int .i64 3, .int .i64 99, .int .i64 (-1)] 3) rfl)
  have HA := Lib.hid hA
  clear hA
  go_enter Try.func14, Try.ntmps14
  go_wp2_with (fail)
  refine (new_any _ _ [3, 99, -1] _ HI.out (by simp)).mono ?_
  rintro r w1 ⟨T, hs, rfl, hs1, hT, hh1, hb1⟩
  obtain ⟨base, hbase⟩ : ∃ base, (w.alloc (.cells #[.int .i64 3, .int .i64 99, .int .i64 (-1)] 3)).heap.size = base := ⟨_, rfl⟩
  rw [hbase] at hs1 hT hh1 hb1
  have HBB : Hid (w.heap.size ≤ base) := Lib.hid (by rw [← hbase]; simp)
  have HS1 := Lib.hid hs1
  have HH1 := Lib.hid hh1
  have HB1 := Lib.hid (HA.out.trans (hb1.mono HBB.out))
  have HZ1 := Lib.hid hb1.size
  clear hs1 hh1 hb1 hbase
  go_wp2_with (fail)
  have hl2 := ent_lit w1 97 (.int .u8 97) rfl 1 false
  have HB2 := Lib.hid (HB1.out.trans (hl2.2.mono HB1.out.size))
  refine (put_m1 base T hs _ _ (HS1.out.below hl2.2) (HH1.out.below hl2.2) hl2.1 (Nat.le_trans (by have := HS1.out.ltT; omega) hl2.2.size) hT).mono ?_
  rintro r w2 ⟨rfl, n1, e1, hu2, hs2, hh2, hb2⟩
  have hz2 : base ≤ w2.heap.size := by have := hs2.ltT; omega
  have HB3 := Lib.hid (HB2.out.trans (hb2.mono HBB.out))
  have HE1 := Lib.hid e1
  have HU2 := Lib.hid hu2
  have HS2 := Lib.hid hs2
  have HH2 := Lib.hid hh2
  clear hl2 e1 hu2 hs2 hh2 hb2
  go_wp2_with (fail)
  have hl3 := ent_lit w2 97 (.int .u8 97) rfl 2 true
  have HB4 := Lib.hid (HB3.out.trans (hl3.2.mono HB3.out.size))
  refine (put_m2 base T hs _ _ n1 HE1.out HU2.out (HS2.out.below hl3.2) (HH2.out.below hl3.2) hl3.1 (Nat.le_trans hz2 hl3.2.size) hT).mono ?_
  rintro r w3 ⟨rfl, n2, e2, hu3, hs3, hh3, hb3⟩
  have HB5 := Lib.hid (HB4.out.trans (hb3.mono HBB.out))
  have HE2 := Lib.hid e2
  have HU3 := Lib.hid hu3
  have HS3 := Lib.hid hs3
  clear hl3 e2 hu3 hs3 hh3 hb3 hz2
  go_wp2_with (fail)
  have hl4 := ent_lit w3 97 (.int .u8 97) rfl 2 false
  have HB6 := Lib.hid (HB5.out.trans (hl4.2.mono HB5.out.size))
  have HS4 := Lib.hid (HS3.out.below hl4.2)
  refine (put_m3 base T hs _ _ n1 n2 HE2.out HU3.out HS4.out hl4.1).mono ?_
  rintro r w4 ⟨rfl, hb4⟩
  have HB7 := Lib.hid (HB6.out.trans (hb4.mono HB6.out.size))
  have HS5 := Lib.hid (HS4.out.below hb4)
  clear hl4 hb4
  go_wp2_with (fail)
  have hl5 := ent_lit w4 98 (.int .u8 98) rfl 0 false
  have HB8 := Lib.hid (HB7.out.trans (hl5.2.mono HB7.out.size))
  have HS6 := Lib.hid (HS5.out.below hl5.2)
  refine (put_bad _ T _ me4 _ hl5.1 (by decide)).mono ?_
  rintro r w5 ⟨rfl, hb5⟩
  have HB9 := Lib.hid (HB8.out.trans (hb5.mono HB8.out.size))
  have HS7 := Lib.hid (HS6.out.below hb5)
  clear hl5 hb5
  go_wp2_with (fail)
  clear kc
  have hl6 := ent_lit w5 97 (.int .u8 97) rfl 0 false
  have hby : Byt (w5.alloc (.cells #[.int .u8 97] 5 (1, 2))) (fun _ => True) (.slice (some ⟨w5.heap.size, 0, none⟩) 1 1) [97] := Byt.one (v := .int .u8 97) (cell_marked _ _ _ _ _ _ rfl) rfl trivial (by omega) (by omega)
  have HBA := Lib.hid (HB9.out.trans (hl6.2.mono HB9.out.size))
  refine (get_m base T hs _ _ n1 n2 HE1.out HE2.out HU3.out (HS7.out.below hl6.2) hby).mono ?_
  rintro r w6 ⟨k, d, u, rfl, ⟨Ak, nk, ck, rfl⟩, ⟨bd, rfl⟩, ⟨Au, nu, cu, rfl⟩, hb6⟩
  have HBB' := Lib.hid (HBA.out.trans (hb6.mono HBA.out.size))
  have hal : Below w6.heap.size w6 (w6.alloc (.cells #[.slice Ak nk ck, .int .i64 1, .bool bd, .slice Au nu cu] 26)) := (Below.refl _ _).alloc (Nat.le_refl _) _
  have HL := Lib.hid (len_any base T [n2, n1] hs 2 _ (((HS7.out.below hl6.2).below hb6).below hal))
  have HBC := Lib.hid (HBB'.out.trans (hal.mono HBB'.out.size))
  clear hl6 hby hb6 hal
  go_wp2_with (go_at_call 16; refine HL.out.mono ?_; rintro r w7 ⟨rfl, rfl⟩)
  refine bodyPost_ret (v := .bool true) (by simp [results, Try.results14, go_sem]) rfl ?_
  exact ⟨rfl, HBC.out⟩
end Go.Proofs.Ytelbidknefkaiaa
end
section
namespace Go.Proofs.Ytelbidknefkaiaa
open Go.RowKit Go.Shelf
/-- a block of cells that are no entries and no lists of entries. -/
def NotRow (W : World) (i : Nat) : Prop := ∃ cs t fr, W.heap[i]? = some (.cells cs t fr) ∧ t ≠ 26 ∧ t ≠ 22
structure KeepE (W W' : World) : Prop where
  size : W.heap.size ≤ W'.heap.size
  block : ∀ i, NotRow W i → W'.heap[i]? = W.heap[i]?
theorem KeepE.refl (W : World) : KeepE W W := ⟨Nat.le_refl _, fun _ _ => rfl⟩
theorem KeepE.trans {A B C : World} (h : KeepE A B) (k : KeepE B C) : KeepE A C :=
  ⟨Nat.le_trans h.size k.size, fun i hi => by
    have h1 := h.block i hi
    obtain ⟨cs, t, fr, e, ht⟩ := hi
    exact (k.block i ⟨cs, t, fr, h1.trans e, ht⟩).trans h1⟩
theorem NotRow.lt {W : World} {i : Nat} (h : NotRow W i) : i < W.heap.size := by
  obtain ⟨cs, t, fr, e, _⟩ := h
  exact (Array.getElem?_eq_some_iff.1 e).1
theorem KeepE.of_below {W W' : World} (h : Below W.heap.size W W') : KeepE W W' := ⟨h.size, fun i hi => h.block i hi.lt⟩
theorem KeepE.putObj (W : World) (l : Nat) (o o' : Obj) (hl : W.heap[l]? = some o) (ho : o.isCells = false) : KeepE W (W.putObj l o') :=
  ⟨by simp, fun i ⟨cs, t, fr, e, _⟩ => World.putObj_heap_other (by rintro rfl; rw [hl] at e; cases e; cases ho)⟩
theorem Loose.notRow {W : World} {i : Nat} (h : Loose W i) : NotRow W i := by
  obtain ⟨cs, e⟩ := h
  exact ⟨cs, _, _, e, by decide, by decide⟩
theorem Shape.notRow {W : World} {b k : Nat} {t : TypeId} (h : Shape W b t k) (h1 : t ≠ 26) (h2 : t ≠ 22) : NotRow W b := by
  obtain ⟨cs, e, _⟩ := h
  exact ⟨cs, _, _, e, h1, h2⟩
theorem BytL.keepE {w w' : World} {lo : Nat} {v : Value} {bs : List UInt8} (h : BytL w lo v bs) (hk : KeepE w w') : BytL w' lo v bs :=
  Byt.mono (S := fun i => lo ≤ i ∧ Loose w i) (Byt.keep (S := fun i => lo ≤ i ∧ Loose w i) h hk.size fun i _ hi => hk.block i hi.2.notRow) fun i hi => ⟨hi.1, hi.2.of_eq (hk.block i hi.2.notRow)⟩
theorem EntVL.keepE {w w' : World} {lo : Nat} {v : Value} {e : Ent} (h : EntVL w lo v e) (hk : KeepE w w') : EntVL w' lo v e := by
  obtain ⟨k, u, rfl, h1, h2⟩ := h
  exact ⟨k, u, rfl, h1.keepE hk, h2.keepE hk⟩
theorem SkipV.keepE {w w' : World} {base T : Nat} {ns : List Nd} {hs : Value} {many : Int} (h : SkipV w base T ns hs many) (hk : KeepE w w') : SkipV w' base T ns hs many := by
  have hT := hk.block T (h.tabC.shape.notRow (by decide) (by decide))
  have hN : ∀ (i : Nat) (n : Nd), ns[i]? = some n → w'.heap[n.blk]? = w.heap[n.blk]? := fun i n hn => hk.block _ ((h.nodeC hn).shape.notRow (by decide) (by decide))
  refine ⟨h.ord, ?_, fun i n hn => ?_, fun n hn => ⟨(h.byt n hn).1.keepE hk, (h.byt n hn).2.keepE hk⟩, h.hi, h.diff, h.lo⟩
  · obtain ⟨cs, h1, h2⟩ := h.tab
    exact ⟨cs, hT.trans h1, h2⟩
  · obtain ⟨cs, h1, h2⟩ := h.node i n hn
    exact ⟨cs, (hN i n hn).trans h1, h2⟩
theorem boxed_keepE {w w' : World} {B : Nat} {t : TypeId} {v : Value} (h : Boxed w B t v) (hk : KeepE w w') (h1 : t ≠ 26) (h2 : t ≠ 22) : Boxed w' B t v := (hk.block B ⟨_, _, _, h, h1, h2⟩).trans h
theorem boxed_below {w w' : World} {B : Nat} {t : TypeId} {v : Value} (h : Boxed w B t v) (hb : Below w.heap.size w w') : Boxed w' B t v := (hb.block B h.lt).trans h
theorem bclone_none (n c : Nat) (w : World) : Calls Try.prog 46 #[.slice none n c] w fun r w' => r = .returned (.slice none 0 0) ∧ w = w' := by
  have q22 : ∀ (w : World) (a : Option Addr) (n c n' c' : Nat), (binOp .eql 23 (.slice a n c) (.slice none n' c')).run Try.prog w = .ok (.bool a.isNone) w := fun w a n c n' c' => Lib.run_eql_slice_nil w _ _ a n c n' c' Try.underlying23
  go_enter Try.func46, Try.ntmps46
  go_wp2
  go_ret
  exact ⟨rfl, rfl⟩
theorem boxes3 (o : Option Addr) (w : World) :
    Boxed (((w.alloc (.cells #[.pointer o] 24)).alloc (.cells #[.slice none 0 0] 23)).alloc (.cells #[.slice none 0 0] 23)).drew w.heap.size 24 (.pointer o) ∧
    Boxed (((w.alloc (.cells #[.pointer o] 24)).alloc (.cells #[.slice none 0 0] 23)).alloc (.cells #[.slice none 0 0] 23)).drew (w.heap.size + 1) 23 (.slice none 0 0) ∧
    Boxed (((w.alloc (.cells #[.pointer o] 24)).alloc (.cells #[.slice none 0 0] 23)).alloc (.cells #[.slice none 0 0] 23)).drew (w.heap.size + 1 + 1) 23 (.slice none 0 0) ∧
    Below w.heap.size w (((w.alloc (.cells #[.pointer o] 24)).alloc (.cells #[.slice none 0 0] 23)).alloc (.cells #[.slice none 0 0] 23)).drew := by
  have b1 := Boxed.new (w.alloc (.cells #[.pointer o] 24)) 23 (.slice none 0 0)
  have b2 := Boxed.new ((w.alloc (.cells #[.pointer o] 24)).alloc (.cells #[.slice none 0 0] 23)) 23 (.slice none 0 0)
  simp only [World.size_alloc] at b1 b2
  exact ⟨((Boxed.new w _ _).alloc _).alloc _, b1.alloc _, b2, ((((Below.refl _ w).alloc (Nat.le_refl _) _).alloc (by simp) _).alloc (by simp; omega) _).drew⟩
set_option maxHeartbeats 1000000 in
/-- Entries of the whole range: three boxes. -/
theorem entries_any (o : Option Addr) (w : World) : Calls Try.prog 39 #[.pointer o, .slice none 0 0, .slice none 0 0] w fun r w' =>
    r = .returned (.func (.func 51) #[] #[.pointer (some ⟨w.heap.size, 0, none⟩), .pointer (some ⟨w.heap.size + 1, 0, none⟩), .pointer (some ⟨w.heap.size + 1 + 1, 0, none⟩)]) ∧
    Boxed w' w.heap.size 24 (.pointer o) ∧ Boxed w' (w.heap.size + 1) 23 (.slice none 0 0) ∧ Boxed w' (w.heap.size + 1 + 1) 23 (.slice none 0 0) ∧ Below w.heap.size w w' := by
  go_enter Try.func39, Try.ntmps39
  go_wp2
  go_region_with (go_at_call 46; refine (bclone_none _ _ _).mono ?_; rintro r w1 ⟨rfl, rfl⟩)
  all_goals go_wp2
  all_goals refine bodyPost_ret (v := .func (.func 51) #[] #[.pointer (some ⟨w.heap.size, 0, none⟩), .pointer (some ⟨w.heap.size + 1, 0, none⟩), .pointer (some ⟨w.heap.size + 1 + 1, 0, none⟩)]) (by simp [results, Try.results39, go_sem]) rfl ?_
  all_goals exact ⟨rfl, boxes3 o w⟩
end Go.Proofs.Ytelbidknefkaiaa
end
section
namespace Go.Proofs.Ytelbidknefkaiaa
open Go.RowKit Go.Shelf
attribute [local go_sem] Oper.semAt_some
/-- what comes: an entry, and where its bytes lie. -/
def OkE (lo : Nat) (x : Value × Ent) (W : World) : Prop := EntVL W lo x.1 x.2
def OkN (lo N : Nat) (pre : List (Value × Ent)) (x : Value × Ent) (W : World) : Prop := OkE lo x W ∧ pre.length < N
def GaveE (lo : Nat) (es : List Ent) (xs : List (Value × Ent)) (W : World) : Prop := xs.map Prod.snd = es ∧ ∀ x ∈ xs, OkE lo x W
set_option maxRecDepth 100000 in
set_option maxHeartbeats 2000000 in
theorem iter_any (l base T B : Nat) (ns : List Nd) (hs : Value) (many : Int) (hu : allUp ns) (hk : ∀ n ∈ ns, n.ent.key ≠ []) (J : List (Value × Ent) → World → Prop) (W : World)
    (hJb : ∀ pre A C, J pre A → Below A.heap.size A C → J pre C)
    (hY : ∀ pre x A, J pre A → OkN W.heap.size ns.length pre x A → YieldAt Fence.wide 2 Try.prog l #[x.1] A fun e C => e = .returned (.bool true) ∧ J (pre ++ [x]) C ∧ KeepE A C)
    (h : SkipV W base T ns hs many) (b1 : Boxed W B 24 (.pointer (some ⟨T, 0, none⟩))) (b2 : Boxed W (B + 1) 23 (.slice none 0 0)) (b3 : Boxed W (B + 1 + 1) 23 (.slice none 0 0)) (h0 : J [] W) :
    CallsIn Fence.wide 3 Try.prog 51 #[.func (.yield l) #[] #[], .pointer (some ⟨B, 0, none⟩), .pointer (some ⟨B + 1, 0, none⟩), .pointer (some ⟨B + 1 + 1, 0, none⟩)] W fun e W' => (∃ v, e = .returned v) ∧ ∃ xs, GaveE W.heap.size (ns.map Nd.ent) xs W' ∧ J xs W' := by
  have hm : cnt ⟨[], 1099511627777, false, []⟩ ns = 0 := by
    cases ns with
    | nil => rfl
    | cons n ns =>
      have hne := hk n (by simp)
      rw [cnt, if_neg]
      have h1 : cmpB n.ent.key [] = 1 := by
        cases hkk : n.ent.key with
        | nil => exact absurd hkk hne
        | cons a b => rfl
      unfold cmpE
      simp [h1]
  have HF := Lib.hid (from_any (fun _ => True) base T ns hs many (.slice none 0 0) [] 1099511627777 W h hu (Byt.nil _ _))
  rw [hm] at HF
  have c1 := b1.cell
  have c2 := b2.cell
  refine callsIn_of_wp Try.func51 rfl trivial ?_ rfl
  simp only [Try.ntmps51, List.size_toArray, List.length_cons, List.length_nil, Nat.reduceAdd, Nat.reduceSub, Array.replicate_succ, Array.replicate_zero, List.push_toArray, List.append_toArray, List.nil_append, List.cons_append]
  gi_wp2_with (refine ⟨trivial, ?_⟩; gi_at_call 33; refine (callsIn_wide.2 HF.out).mono ?_; rintro r w1 ⟨rfl, hb1⟩)
  have H1 := Lib.hid (h.below hb1)
  have B1 := Lib.hid (boxed_below b1 hb1)
  have B3 := Lib.hid (boxed_below b3 hb1)
  have J1 := Lib.hid (hJb _ _ _ h0 hb1)
  have HZ := Lib.hid hb1.size
  clear h b1 b2 b3 h0 hb1 c1 c2 HF
  gi_loopg [5] ns.length (fun gk p wr => ∃ (i : Nat) (pre : List (Value × Ent)), gk + i = ns.length ∧ p = ptrN ns[i]? ∧ pre.map Prod.snd = (ns.take i).map Nd.ent ∧ (∀ x ∈ pre, OkE W.heap.size x wr) ∧ SkipV wr base T ns hs many ∧ Boxed wr (B + 1 + 1) 23 (.slice none 0 0) ∧ W.heap.size ≤ wr.heap.size ∧ J pre wr)
  case atStart => exact ⟨0, [], rfl, rfl, rfl, fun x hx => by simp at hx, H1.out, B3.out, HZ.out, J1.out⟩
  case round =>
    obtain ⟨i, pre, hgi, rfl, hpre, hok, hsk, hbx, hzw, hjp⟩ := hrel
    have HPRE := Lib.hid hpre
    have HOK := Lib.hid hok
    have HSK := Lib.hid hsk
    have HBX := Lib.hid hbx
    have HZW := Lib.hid hzw
    have HJP := Lib.hid hjp
    have HY := Lib.hid hY
    have HJB := Lib.hid hJb
    have HGI := Lib.hid hgi
    have HUU := Lib.hid hu
    have c3 := hbx.cell
    clear hpre hok hsk hbx hzw hjp hY hJb hgi hu hk hm
    cases hn : ns[i]? with
    | none =>
      have HN := Lib.hid hn
      clear hn
      unfold ptrN
      gi_wp2
      go_end0
      refine ⟨⟨_, rfl⟩, pre, ⟨?_, HOK.out⟩, HJP.out⟩
      rw [HPRE.out, List.take_of_length_le (List.getElem?_eq_none_iff.1 HN.out)]
    | some n =>
      have HN := Lib.hid hn
      clear hn
      obtain ⟨n0, n1, n2, n3⟩ := HSK.out.cells HN.out
      unfold ptrN
      gi_wp2
      have hmix : Try.prog.follows .mixedOrders = true := by kernel_rfl
      refine wpIn_region_any hmix ?_
      change wpAnyIn _ _ _ _ _ _ _ _ _ (World.drew _)
      refine wpAnyIn_ready (rs := [0]) (by kernel_rfl) (by simp) (AllReadyIn.cons rfl (fun K hK => ?_) AllReadyIn.nil)
      go_simp
      refine hK _ _ ?_
      clear hK K
      refine wpAnyIn_ready (rs := [1]) (by kernel_rfl) (by simp) (AllReadyIn.cons rfl (fun K hK => ?_) AllReadyIn.nil)
      go_simp
      refine hK _ _ ?_
      clear hK K
      refine wpAnyIn_ready (rs := [2]) (by kernel_rfl) (by simp) (AllReadyIn.cons rfl (fun K hK => ?_) AllReadyIn.nil)
      go_simp
      refine hK _ _ ?_
      clear hK K
      refine wpAnyIn_ready (rs := [3]) (by kernel_rfl) (by simp) (AllReadyIn.cons rfl (fun K hK => ?_) AllReadyIn.nil)
      go_simp
      refine hK _ _ ?_
      clear hK K
      refine wpAnyIn_take (i := 4) rfl rfl (by kernel_rfl) (by kernel_rfl) (by kernel_rfl) (fun _ _ _ h => h) ⟨Or.inr ⟨by rfl, rfl⟩, fun _ => rfl⟩ ?_
      refine wpAnyIn_take (i := 5) rfl rfl (by kernel_rfl) (by kernel_rfl) (by kernel_rfl) (fun _ _ _ h => h) ⟨Or.inr ⟨by rfl, rfl⟩, fun _ => rfl⟩ ?_
      refine wpAnyIn_take (i := 6) rfl rfl (by kernel_rfl) (by kernel_rfl) (by kernel_rfl) (fun _ _ _ h => h) ⟨Or.inr ⟨by rfl, rfl⟩, fun _ => rfl⟩ ?_
      refine wpAnyIn_take (i := 7) rfl rfl (by kernel_rfl) (by kernel_rfl) (by kernel_rfl) (fun _ _ _ h => h) ⟨Or.inr ⟨by rfl, rfl⟩, fun _ => rfl⟩ ?_
      refine wpAnyIn_take (i := 8) rfl rfl (by kernel_rfl) (by kernel_rfl) (by kernel_rfl) (fun _ _ _ h => h) ⟨Or.inr ⟨by rfl, rfl⟩, fun _ => rfl⟩ ?_
      refine wpAnyIn_take (i := 9) rfl rfl (by kernel_rfl) (by kernel_rfl) (by kernel_rfl) (fun _ _ _ h => h) ⟨Or.inr ⟨by rfl, rfl⟩, fun _ => rfl⟩ ?_
      refine wpAnyIn_ready (rs := [10]) (by kernel_rfl) (by simp) (AllReadyIn.cons rfl (fun K hK => ?_) AllReadyIn.nil)
      go_simp
      refine ⟨trivial, hK _ _ ?_⟩
      clear hK K
      refine wpAnyIn_ready (rs := [11]) (by kernel_rfl) (by simp) (AllReadyIn.cons rfl (fun K hK => ?_) AllReadyIn.nil)
      go_simp
      refine hK _ _ ?_
      clear hK K
      refine wpAnyIn_ready (rs := [12]) (by kernel_rfl) (by simp) (AllReadyIn.cons rfl (fun K hK => ?_) AllReadyIn.nil)
      go_simp
      refine hK _ _ ?_
      clear hK K
      refine wpAnyIn_ready (rs := [13]) (by kernel_rfl) (by simp) (AllReadyIn.cons rfl (fun K hK => ?_) AllReadyIn.nil)
      go_simp
      refine hK _ _ ?_
      clear hK K
      refine wpAnyIn_take (i := 14) (v := .func (.yield l) #[] #[]) rfl rfl (by kernel_rfl) (by kernel_rfl) (by kernel_rfl) (fun _ _ _ h => h) ⟨Or.inl ⟨by rfl, fun _ => by go_simp⟩, fun _ => rfl⟩ ?_
      refine wpAnyIn_ready (rs := [15]) (by kernel_rfl) (by simp) (AllReadyIn.cons rfl (fun K hK => ?_) AllReadyIn.nil)
      go_simp
      refine hK _ _ ?_
      clear hK K
      refine wpAnyIn_ready (rs := [16]) (by kernel_rfl) (by simp) (AllReadyIn.cons rfl (fun K hK => ?_) AllReadyIn.nil)
      go_simp
      refine hK _ _ ?_
      clear hK K
      refine wpAnyIn_ready (rs := [17]) (by kernel_rfl) (by simp) (AllReadyIn.cons rfl (fun K hK => ?_) AllReadyIn.nil)
      go_simp
      refine hK _ _ ?_
      clear hK K
      refine wpAnyIn_ready (rs := [18]) (by kernel_rfl) (by simp) (AllReadyIn.cons rfl (fun K hK => ?_) AllReadyIn.nil)
      go_simp
      refine hK _ _ ?_
      clear hK K
      refine wpAnyIn_ready (rs := [19]) (by kernel_rfl) (by simp) (AllReadyIn.cons rfl (fun K hK => ?_) AllReadyIn.nil)
      go_simp
      refine ⟨trivial, (callsIn_wide.2 (ecloneL_any _ _ n.ent wr.drew ((HSK.out.ent (List.mem_of_getElem? HN.out)).below (Below.refl _ _).drew))).mono ?_⟩
      rintro r w2 ⟨v', rfl, hv', hb2⟩
      refine hK _ _ ?_
      clear hK K
      have hb2' : Below wr.heap.size wr w2 := ((Below.refl _ wr).drew).trans hb2
      have hok2 : OkE W.heap.size (v', n.ent) w2 := by
        obtain ⟨k', u', rfl, h1, h2⟩ := hv'
        exact ⟨k', u', rfl, h1.mono HZW.out, h2.mono HZW.out⟩
      have hpl : pre.length < ns.length := by
        have h1 := congrArg List.length HPRE.out
        have h2 := (List.getElem?_eq_some_iff.1 HN.out).1
        simp at h1
        omega
      obtain ⟨fn, tmps, assign, body, hy, hR⟩ := HY.out pre (v', n.ent) w2 (HJB.out pre wr w2 HJP.out hb2') ⟨hok2, hpl⟩
      dsimp only at hy
      have HB2 := Lib.hid hb2'
      have HOK2 := Lib.hid hok2
      clear hb2 hb2' hok2 hv' hpl
      refine wpAnyIn_ready (rs := [20]) (by kernel_rfl) (by simp) (AllReadyIn.cons rfl (fun K hK => ?_) AllReadyIn.nil)
      go_simp
      refine hR.mono ?_
      rintro e W3 ⟨rfl, hJ3, hk3⟩
      refine hK _ _ ?_
      clear hK K hy hR
      have HK3 := Lib.hid ((KeepE.of_below HB2.out).trans hk3)
      have HJ3 := Lib.hid hJ3
      have HOK3 := Lib.hid (HOK2.out.keepE hk3)
      have hsk3 := HSK.out.keepE HK3.out
      have hnx : W3.cell? ⟨n.blk, 4, none⟩ = some (ptrN ns[i + 1]?) := by
        have := (hsk3.nodeC HN.out).next 0 (by omega)
        rw [nextV, if_pos (HUU.out n (List.mem_of_getElem? HN.out)), next0 HUU.out] at this
        exact this
      have HSK3 := Lib.hid hsk3
      clear hsk3 hJ3 hk3 c3 n0 n1 n2 n3
      refine wpAnyIn_ready (rs := [21]) (by kernel_rfl) (by simp) (AllReadyIn.cons rfl (fun K hK => ?_) AllReadyIn.nil)
      go_simp
      refine hK _ _ ?_
      clear hK K
      refine wpAnyIn_ready (rs := [22]) (by kernel_rfl) (by simp) (AllReadyIn.cons rfl (fun K hK => ?_) AllReadyIn.nil)
      go_simp
      refine hK _ _ ?_
      clear hK K
      refine wpAnyIn_done (by kernel_rfl) ?_ _
      gi_wp2
      go_roundg (ns.length - (i + 1))
      case rel =>
        have hlt := (List.getElem?_eq_some_iff.1 HN.out).1
        refine ⟨i + 1, pre ++ [(v', n.ent)], by omega, rfl, ?_, fun x hx => ?_, HSK3.out, boxed_keepE HBX.out HK3.out (by decide) (by decide), Nat.le_trans HZW.out HK3.out.size, HJ3.out⟩
        · rw [take_snoc HN.out]
          simp [HPRE.out]
        · rcases List.mem_append.1 hx with hx | hx
          · exact (HOK.out x hx).keepE HK3.out
          · simp at hx
            subst hx
            exact HOK3.out
      case measure =>
        have hlt := (List.getElem?_eq_some_iff.1 HN.out).1
        have := HGI.out
        omega
set_option maxHeartbeats 1000000 in
theorem iter_nil (l B : Nat) (W : World) (b1 : Boxed W B 24 (.pointer none)) :
    CallsIn Fence.wide 3 Try.prog 51 #[.func (.yield l) #[] #[], .pointer (some ⟨B, 0, none⟩), .pointer (some ⟨B + 1, 0, none⟩), .pointer (some ⟨B + 1 + 1, 0, none⟩)] W fun e W' => (∃ v, e = .returned v) ∧ W = W' := by
  have c1 := b1.cell
  refine callsIn_of_wp Try.func51 rfl trivial ?_ rfl
  simp only [Try.ntmps51, List.size_toArray, List.length_cons, List.length_nil, Nat.reduceAdd, Nat.reduceSub, Array.replicate_succ, Array.replicate_zero, List.push_toArray, List.append_toArray, List.nil_append, List.cons_append]
  gi_wp2
  refine bodyPost_ret (results_none rfl _ _ _) rfl ?_
  exact ⟨⟨_, rfl⟩, rfl⟩
end Go.Proofs.Ytelbidknefkaiaa
end
section
namespace Go.Proofs.Ytelbidknefkaiaa
open Go.RowKit Go.Shelf
attribute [local go_sem] Oper.semAt_some
def cells4 (x : Value × Ent) : List Value := match x.1 with
  | .agg cs => cs.toList
  | v => [v]
/-- what the loop's own variables hold. -/
structure Coll (n₀ : Nat) (w : World) (pre : List (Value × Ent)) (W : World) : Prop where
  out : ∃ v, Boxed W n₀ 22 v ∧ W.ownsRow n₀ 26 4 v pre.length (pre.flatMap cells4)
  below : Below n₀ w W
theorem Coll.grow {n₀ : Nat} {w A B : World} {pre : List (Value × Ent)} (h : Coll n₀ w pre A) (hb : Below A.heap.size A B) (hn : n₀ ≤ w.heap.size) : Coll n₀ w pre B := by
  obtain ⟨v, h1, h2⟩ := h.out
  exact ⟨⟨v, boxed_below h1 hb, own_below h2 hb⟩, h.below.trans (hb.mono (Nat.le_trans hn h.below.size))⟩
theorem Coll.turn {n₀ B : Nat} {w : World} (hB : n₀ ≤ B) (pre : List (Value × Ent)) : Turns B (Coll n₀ w pre) := fun W l o o' hl hlo ho h => by
  obtain ⟨v, h1, h2⟩ := h.out
  refine ⟨⟨v, ?_, ownsRow_putObj h2 o' hlo ho⟩, ?_⟩
  · refine (World.putObj_heap_other ?_).trans h1
    rintro rfl
    rw [show W.heap[n₀]? = _ from h1] at hlo
    cases hlo
    cases ho
  · exact h.below.trans ((Below.refl n₀ W).grown (grownBy_putObj' W l o') (by have := (Array.getElem?_eq_some_iff.1 hlo).1; omega) (fun k e => by cases e; omega))
theorem KeepE.appended {W w1 : World} {n₀ B k : Nat} {v v' : Value} {xs : List Value} {tmp : Obj} (hv : Boxed W B 22 v) (hrow : W.ownsRow n₀ 26 4 v k xs) (hgrow : (W.alloc tmp).grownBy w1 v.ownBlock) : KeepE W (w1.setCell ⟨B, 0, none⟩ v') := by
  refine ⟨by have := hgrow.size; simp at this; simp [World.setCell]; omega, fun i hi => ?_⟩
  have hlt := hi.lt
  obtain ⟨cs, t, fr, e, h1, h2⟩ := hi
  have hne : i ≠ B := by
    rintro rfl
    rw [show W.heap[i]? = _ from hv] at e
    cases e
    exact h2 rfl
  have hno : some i ≠ v.ownBlock := by
    rcases hrow.2 with ⟨rfl, _⟩ | ⟨g, cap, cur, rfl, _, hgb, _⟩
    · simp [Value.ownBlock]
    · intro e'
      obtain rfl : i = g := by simpa [Value.ownBlock] using e'
      rw [hgb] at e
      cases e
      exact h1 rfl
  exact (heap_setCell_other _ ⟨B, 0, none⟩ i v' hne).trans ((hgrow.block i (by simp; omega) hno).trans (Below.heap_alloc W tmp i hlt))
theorem EntVL.mono {w : World} {lo lo' : Nat} {v : Value} {e : Ent} (h : EntVL w lo v e) (hl : lo' ≤ lo) : EntVL w lo' v e := by
  obtain ⟨k, u, rfl, h1, h2⟩ := h
  exact ⟨k, u, rfl, h1.mono hl, h2.mono hl⟩
theorem gives_any (lo base T B : Nat) (ns : List Nd) (hs : Value) (many : Int) (w : World) (hu : allUp ns) (hk : ∀ n ∈ ns, n.ent.key ≠ []) (h : SkipV w base T ns hs many) (b1 : Boxed w B 24 (.pointer (some ⟨T, 0, none⟩))) (b2 : Boxed w (B + 1) 23 (.slice none 0 0)) (b3 : Boxed w (B + 1 + 1) 23 (.slice none 0 0)) (hlo : lo ≤ w.heap.size) :
    Gives Fence.wide 3 Try.prog 51 #[.pointer (some ⟨B, 0, none⟩), .pointer (some ⟨B + 1, 0, none⟩), .pointer (some ⟨B + 1 + 1, 0, none⟩)] (fun x : Value × Ent => #[x.1]) (OkN lo ns.length) KeepE (GaveE lo (ns.map Nd.ent)) w := fun l J W hW hJ hY h0 => by
  refine (iter_any l base T B ns hs many hu hk J W hJ (fun pre x A hj hok => hY pre x A hj ⟨EntVL.mono hok.1 (Nat.le_trans hlo hW.size), hok.2⟩) (h.below hW) (boxed_below b1 hW) (boxed_below b2 hW) (boxed_below b3 hW) h0).mono ?_
  rintro e W' ⟨hv, xs, ⟨hg1, hg2⟩, hj⟩
  exact ⟨hv, xs, ⟨hg1, fun x hx => EntVL.mono (hg2 x hx) (Nat.le_trans hlo hW.size)⟩, hj⟩
theorem gave_cells {lo : Nat} {W : World} : ∀ {xs : List (Value × Ent)}, (∀ x ∈ xs, OkE lo x W) → EntCells W (fun i => lo ≤ i ∧ Loose W i) (xs.flatMap cells4) (xs.map Prod.snd)
  | [], _ => trivial
  | x :: xs, h => by
    obtain ⟨k, u, hx, h1, h2⟩ := h x (by simp)
    have e : (x :: xs).flatMap cells4 = [k, .int .i64 x.2.seq, .bool x.2.dead, u] ++ xs.flatMap cells4 := by simp [cells4, hx]
    rw [e]
    exact EntCells.append (es := [x.2]) (EntCells.one h1 h2) (gave_cells fun y hy => h y (by simp [hy]))
theorem GaveE.turn (lo B : Nat) (es : List Ent) (xs : List (Value × Ent)) : Turns B (GaveE lo es xs) := fun W l o o' _ hlo ho h =>
  ⟨h.1, fun x hx => EntVL.keepE (h.2 x hx) (KeepE.putObj W l o o' hlo ho)⟩
/-- the loop variable's box. -/
def AxE (B : Nat) (o : Option Addr) (N : Nat) (g : Value) (pre : List (Value × Ent)) (x : Value × Ent) (a : Act) (W : World) : Prop :=
  ∃ Bx Ak nk ck Au nu cu, x.1 = .agg #[.slice Ak nk ck, .int .i64 x.2.seq, .bool x.2.dead, .slice Au nu cu] ∧ pre.length < N ∧ Shape W Bx 26 4 ∧ W.heap[Bx]? = some (.cells #[.slice Ak nk ck, .int .i64 x.2.seq, .bool x.2.dead, .slice Au nu cu] 26 (0, 0)) ∧
    a = { tmps := #[.pointer o, .slice none 0 0, .slice none 0 0, undef, undef, undef, .slice none 0 0, .pointer (some ⟨B, 0, none⟩), .pointer (some ⟨Bx, 0, none⟩), .pointer o, .slice none 0 0, .slice none 0 0, g, x.1, undef, undef, undef, undef, undef], defers := [] }
set_option maxRecDepth 100000 in
set_option maxHeartbeats 4000000 in
theorem all_core (o : Option Addr) (es : List Ent) (w : World) (hlen : es.length * 64 ≤ 140737488355328)
    (hgives : ∀ w1 B, Below w.heap.size w w1 → Boxed w1 B 24 (.pointer o) → Boxed w1 (B + 1) 23 (.slice none 0 0) → Boxed w1 (B + 1 + 1) 23 (.slice none 0 0) →
      Gives Fence.wide 3 Try.prog 51 #[.pointer (some ⟨B, 0, none⟩), .pointer (some ⟨B + 1, 0, none⟩), .pointer (some ⟨B + 1 + 1, 0, none⟩)] (fun x : Value × Ent => #[x.1]) (OkN w1.heap.size es.length) KeepE (GaveE w1.heap.size es) w1) :
    Calls Try.prog 17 #[.pointer o, .slice none 0 0, .slice none 0 0] w fun r w' => ∃ v, r = .returned v ∧ OwnE w' w.heap.size v es ∧ Below w.heap.size w w' := by
  refine (callsIn_wide (n := 4)).1 ?_
  obtain ⟨i0, hi, hz0, hz1, hz2⟩ := info_parts info26
  refine callsIn_of_wp_marks Try.func17 rfl trivial ?_
  simp only [Try.ntmps17, List.size_toArray, List.length_cons, List.length_nil, Nat.reduceAdd, Nat.reduceSub, Array.replicate_succ, Array.replicate_zero, List.push_toArray, List.append_toArray, List.nil_append, List.cons_append]
  gi_wp2_with (refine ⟨trivial, ?_⟩; gi_at_call 39; refine (callsIn_wide.2 (entries_any _ _)).mono ?_; rintro e w1 ⟨rfl, b1, b2, b3, hb1⟩)
  have bO := boxed_below (Boxed.new w 22 (.slice none 0 0)) hb1
  have hA : Below w.heap.size w (w.alloc (.cells #[.slice none 0 0] 22)) := (Below.refl _ _).alloc (Nat.le_refl _) _
  have hB0 : Below w.heap.size w w1 := hA.trans (hb1.mono hA.size)
  simp only [World.size_alloc] at b1 b2 b3
  have hg := hgives w1 (w.heap.size + 1) hB0 b1 b2 b3
  have hn₀ : w.heap.size ≤ w1.heap.size := hB0.size
  refine range_mem rfl (by omega) (gf := 51) (lb := #[.pointer (some ⟨w.heap.size + 1, 0, none⟩), .pointer (some ⟨w.heap.size + 1 + 1, 0, none⟩), .pointer (some ⟨w.heap.size + 1 + 1 + 1, 0, none⟩)]) rfl trivial (enters_of Try.func51 (by kernel_rfl) rfl)
    hg (fun h k => h.trans k) (fun W l o o' _ hl ho => KeepE.putObj W l o o' hl ho) (fun xs => GaveE.turn _ _ es xs) (fun _ => rfl)
    (Coll w.heap.size w) (fun pre A B h hb => h.grow hb (Nat.le_refl _)) (fun pre => Coll.turn hn₀ pre) ⟨⟨_, bO, World.ownsRow_nil _ _ _ _⟩, hB0⟩
    (AxE w.heap.size o es.length (.func (.func 51) #[] #[.pointer (some ⟨w.heap.size + 1, 0, none⟩), .pointer (some ⟨w.heap.size + 1 + 1, 0, none⟩), .pointer (some ⟨w.heap.size + 1 + 1 + 1, 0, none⟩)])) ?ax ?assign ?body ?done
  case ax =>
    rintro pre x a' W l o o' hl hlo ho ⟨Bx, Ak, nk, ck, Au, nu, cu, hx, hN, hsh, hbx, rfl⟩
    have hne : Bx ≠ l := by
      rintro rfl
      rw [hbx] at hlo
      cases hlo
      cases ho
    exact ⟨Bx, Ak, nk, ck, Au, nu, cu, hx, hN, hsh.of_eq (World.putObj_heap_other hne), (World.putObj_heap_other hne).trans hbx, rfl⟩
  case assign =>
    rintro l pre x W K hi ⟨hok, hN⟩ hK
    obtain ⟨k, u, hx, hk1, hu1⟩ := hok
    obtain ⟨Ak, ck, rfl⟩ := slice_form hk1
    obtain ⟨Au, cu, rfl⟩ := slice_form hu1
    obtain ⟨x1, x2⟩ := x
    simp only at hx
    subst hx
    gi_wp2
    have hal : Below W.heap.size W (W.alloc (.cells #[.slice Ak x2.key.length ck, .int .i64 x2.seq, .bool x2.dead, .slice Au x2.val.length cu] 26)) := (Below.refl _ _).alloc (Nat.le_refl _) _
    exact hK _ _ ((KeepsOthers.alloc _ _).from _) (KeepE.of_below hal) (hi.grow hal (Nat.le_refl _)) ⟨W.heap.size, Ak, _, ck, Au, _, cu, rfl, hN, ⟨_, heap_alloc_new W _, rfl⟩, heap_alloc_new W _, rfl⟩
  case body =>
    rintro l pre x a' W ⟨⟨v, hv, hrow⟩, hB⟩ ⟨Bx, Ak, nk, ck, Au, nu, cu, hx, hN, hsh, hbx, rfl⟩
    have hc := hv.cell
    have d0 : W.cell? ⟨Bx, 0, none⟩ = some (.slice Ak nk ck) := cell_of_row W Bx 0 _ _ _ hbx
    have d1 : W.cell? ⟨Bx, 1, none⟩ = some (.int .i64 x.2.seq) := cell_of_row W Bx 1 _ _ _ hbx
    have d2 : W.cell? ⟨Bx, 2, none⟩ = some (.bool x.2.dead) := cell_of_row W Bx 2 _ _ _ hbx
    have d3 : W.cell? ⟨Bx, 3, none⟩ = some (.slice Au nu cu) := cell_of_row W Bx 3 _ _ _ hbx
    gi_wp2_with (gi_at_builtin; refine wpListIn_append_own _ rfl _ _ 22 rfl w.heap.size 26 i0 _ 4 64 Try.underlying22 hi hz0 hz1 hz2 rfl (by decide) _ _ _ rfl (hrow.alloc _) ⟨W.heap.size, 0, none⟩ 1 1 [.slice Ak nk ck, .int .i64 x.2.seq, .bool x.2.dead, .slice Au nu cu] rfl rfl (cell_four_new _ _ _ _ _ _) (by simp [Value.oneCell']) (by unfold maxLen; omega) (by omega) (by have := hB.size; simp; omega) ?_; intro v' w2 hown' hgrow _; obtain ⟨g', cap', rfl⟩ := ownsRow_succ hown'; have hke := KeepE.appended (v' := .slice (some ⟨g', 0, none⟩) (pre.length + 1) cap') hv hrow hgrow; obtain ⟨hv1, hv2, hr2, hk2, hb2⟩ := hv.appended (by decide) hrow hB.size (Nat.le_refl _) hown' hgrow; have hc1 := hv1.cell; have hf1 := hv1.frozen)
    have he : (pre ++ [x]).flatMap cells4 = pre.flatMap cells4 ++ [.slice Ak nk ck, .int .i64 x.2.seq, .bool x.2.dead, .slice Au nu cu] := by simp [cells4, hx]
    exact ⟨hk2.from _, hke, ⟨_, hv2, by rw [he, List.length_append]; exact hr2⟩, hB.trans hb2⟩
  case done =>
    rintro D xs W hD hS ⟨⟨v, hv, hrow⟩, hB⟩ hK
    have hc := hv.cell
    gi_wp2
    refine ⟨by simp, .inl ⟨_, _, rfl, run_takeDeferred hK, ?_⟩⟩
    have hS' := GaveE.turn w1.heap.size D es xs W D _ (.deferred none) (Nat.le_refl _) hK rfl hS
    have hrow' := ownsRow_putObj hrow (.deferred none) hK rfl
    have hl : xs.length = es.length := by have := congrArg List.length hS.1; simpa using this
    refine ⟨_, results_tmp rfl _ _ _, v, rfl, ⟨_, by rw [← hl]; exact hrow', ?_⟩, hB.trans (belowK_b (w := w) (Nat.le_refl _) W D _ _ (by omega) hK rfl rfl)⟩
    rw [← hS.1]
    refine (gave_cells hS'.2).mono fun i hi => ⟨by have := hi.1; omega, fun e => ?_, hi.2⟩
    obtain ⟨cs, hcs⟩ := hi.2
    rcases hrow'.2 with ⟨rfl, _⟩ | ⟨g, cap, cur, rfl, _, hgb, _⟩
    · simp [Value.ownBlock] at e
    · obtain rfl : g = i := by simpa [Value.ownBlock] using e
      rw [hgb] at hcs
      injection hcs with hcs
      injection hcs with _ hcs
      exact absurd hcs (by decide)
theorem all_any (base T : Nat) (ns : List Nd) (hs : Value) (many : Int) (w : World) (h : SkipV w base T ns hs many) (hu : allUp ns) (hk : ∀ n ∈ ns, n.ent.key ≠ []) (hlen : ns.length * 64 ≤ 140737488355328) :
    Calls Try.prog 17 #[.pointer (some ⟨T, 0, none⟩), .slice none 0 0, .slice none 0 0] w fun r w' => ∃ v, r = .returned v ∧ OwnE w' w.heap.size v (ns.map Nd.ent) ∧ Below w.heap.size w w' :=
  all_core _ _ w (by simpa using hlen) fun w1 B hb b1 b2 b3 => by
    have := gives_any w1.heap.size base T B ns hs many w1 hu hk (h.below hb) b1 b2 b3 (Nat.le_refl _)
    rwa [← List.length_map (f := Nd.ent)] at this
theorem all_nil (w : World) : Calls Try.prog 17 #[.pointer none, .slice none 0 0, .slice none 0 0] w fun r w' => ∃ A c, r = .returned (.slice A 0 c) ∧ Below w.heap.size w w' := by
  refine (all_core none [] w (by simp) fun w1 B hb b1 b2 b3 => fun l J W hW hJ hY h0 => ?_).mono ?_
  · refine (iter_nil l B W (boxed_below b1 hW)).mono ?_
    rintro e W' ⟨hv, rfl⟩
    exact ⟨hv, [], ⟨rfl, fun x hx => by simp at hx⟩, h0⟩
  · rintro r w' ⟨v, rfl, ⟨ys, hrow, _⟩, hb⟩
    rcases hrow.2 with ⟨rfl, _⟩ | ⟨g, cap, cur, rfl, _⟩
    · exact ⟨_, _, rfl, hb⟩
    · exact ⟨_, _, rfl, hb⟩
end Go.Proofs.Ytelbidknefkaiaa
end
