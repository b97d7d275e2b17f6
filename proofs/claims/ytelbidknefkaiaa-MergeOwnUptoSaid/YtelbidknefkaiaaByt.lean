/-
Slices of bytes: how they read, and the contracts of the small functions on them: bytes.Compare, slices.Clone at []byte, usanceref05.Less, cmp.Or at two numbers.
-/
import Derived.Test.YtelbidknefkaiaaRow
import Derived.Test.YtelbidknefkaiaaEntP
import Derived.Test.YtelbidknefkaiaaShelf
import Derived.Lib.BytesEntry
import Derived.Shelf.Bytes.SlSmallAll
import Derived.Laws.IdiomStrings
import Derived.Laws.Externs
import Derived.LoopTactic
import Derived.Deep.LoopGhost
import Derived.Laws.AppendOwn
import Derived.Maps.AppendAt
namespace Go.Proofs.Ytelbidknefkaiaa
open Go.RowKit

def bcell (b : UInt8) : Value := .int .u8 (b.toNat : Int)
/-- a slice value of bytes. -/
def Byt (w : World) (S : Nat → Prop) (v : Value) (bs : List UInt8) : Prop :=
  ∃ A c, v = .slice A bs.length c ∧ bs.length ≤ c ∧ c ≤ 9223372036854775807 ∧ bs.length ≤ 140737488355328 ∧ Row w S A bs.length 1 (bs.map bcell)
theorem Byt.nil (w : World) (S : Nat → Prop) : Byt w S (.slice none 0 0) [] := ⟨none, 0, rfl, by simp, by simp, by simp, Row.nil _ _ _ _⟩
theorem Byt.below {w w' : World} {S : Nat → Prop} {v : Value} {bs : List UInt8} (h : Byt w S v bs) (hb : Below w.heap.size w w') : Byt w' S v bs := by
  obtain ⟨A, c, e, h1, h2, h3, h4⟩ := h
  exact ⟨A, c, e, h1, h2, h3, h4.below hb⟩
theorem Byt.keep {w w' : World} {S : Nat → Prop} {v : Value} {bs : List UInt8} (h : Byt w S v bs) (hz : w.heap.size ≤ w'.heap.size) (hk : ∀ i, i < w.heap.size → S i → w'.heap[i]? = w.heap[i]?) : Byt w' S v bs := by
  obtain ⟨A, c, e, h1, h2, h3, h4⟩ := h
  exact ⟨A, c, e, h1, h2, h3, h4.keep hz hk⟩
theorem Byt.mono {w : World} {S S' : Nat → Prop} {v : Value} {bs : List UInt8} (h : Byt w S v bs) (hS : ∀ i, S i → S' i) : Byt w S' v bs := by
  obtain ⟨A, c, e, h1, h2, h3, h4⟩ := h
  exact ⟨A, c, e, h1, h2, h3, h4.mono hS⟩
theorem Byt.drewN {w : World} {S : Nat → Prop} {v : Value} {bs : List UInt8} (h : Byt w S v bs) (k : Nat) : Byt (w.drewN k) S v bs := h
theorem byte_back (b : UInt8) : UInt8.ofNat (b.toNat : Int).toNat = b := by simp
theorem bytesOf_bcell (bs : List UInt8) : Lib.bytesOf (bs.map fun b => (b.toNat : Int)) = bs := by
  unfold Lib.bytesOf
  rw [List.map_map]
  conv => rhs; rw [← List.map_id bs]
  apply List.map_congr_left
  intro b _
  simp

/-- 'string(b)' -/
theorem Byt.convert {w : World} {S : Nat → Prop} {v : Value} {bs : List UInt8} (h : Byt w S v bs) : (convert 23 9 v).run Try.prog w = .ok (.string ⟨bs.toArray⟩) w := by
  obtain ⟨A, c, rfl, h1, h2, h3, hr⟩ := h
  rcases Nat.eq_zero_or_pos bs.length with h0 | h0
  · have : bs = [] := List.eq_nil_of_length_eq_zero h0
    subst this
    exact run_convert_bytes_zero w 23 5 Try.underlying23 Try.underlying5 A c 9 Try.underlying9
  · obtain ⟨b, o, rfl, _, _, hc⟩ := hr.2 h0
    exact run_convert_bytes_back w 23 9 5 ⟨b, o, none⟩ c bs Try.underlying23 Try.underlying5 Try.underlying9 (fun j hj => by
      rw [Addr.add_lit]
      exact hc j _ (by rw [List.getElem?_map, List.getElem?_eq_getElem hj]; rfl))

/-- what the model's entries read -/
theorem Byt.bytesOf {w : World} {S : Nat → Prop} {v : Value} {bs : List UInt8} (h : Byt w S v bs) : (Extern.Bytes.bytesOf v).run Try.prog w = .ok ⟨bs.toArray⟩ w := by
  obtain ⟨A, c, rfl, h1, h2, h3, hr⟩ := h
  rcases Nat.eq_zero_or_pos bs.length with h0 | h0
  · have : bs = [] := List.eq_nil_of_length_eq_zero h0
    subst this
    rcases A with _ | a
    · rfl
    · rfl
  · obtain ⟨b, o, rfl, _, _, hc⟩ := hr.2 h0
    have hl := Lib.run_loadBytesX (P := Try.prog) w (bs.map fun b => (b.toNat : Int)) ⟨b, o, none⟩ .empty (fun j x hj => by
      rw [Addr.add_lit]
      rw [List.getElem?_map] at hj
      rcases hb : bs[j]? with _ | y
      · rw [hb] at hj; cases hj
      · rw [hb] at hj
        injection hj with hj
        subst hj
        exact hc j _ (by rw [List.getElem?_map, hb]; rfl))
    rw [List.length_map, bytesOf_bcell] at hl
    show (Extern.Bytes.loadBytes ⟨b, o, none⟩ bs.length .empty).run Try.prog w = _
    rw [hl]
    congr 1
    apply ByteArray.ext
    show (#[] : Array UInt8) ++ bs.toArray = bs.toArray
    simp

theorem ba_get (l : List UInt8) (i : Nat) : (⟨l.toArray⟩ : ByteArray)[i]! = l.getD i default := by
  by_cases h : i < l.length
  · have h' : i < (⟨l.toArray⟩ : ByteArray).size := by simpa [ByteArray.size] using h
    rw [getElem!_pos (⟨l.toArray⟩ : ByteArray) i h', List.getD_eq_getElem?_getD, List.getElem?_eq_getElem h]
    rfl
  · have h' : ¬ i < (⟨l.toArray⟩ : ByteArray).size := by simpa [ByteArray.size] using h
    rw [getElem!_neg (⟨l.toArray⟩ : ByteArray) i h', List.getD_eq_getElem?_getD, List.getElem?_eq_none (by omega)]
    rfl
theorem ba_size (l : List UInt8) : (⟨l.toArray⟩ : ByteArray).size = l.length := by simp [ByteArray.size]
theorem cmp_lists (l m : List UInt8) : Extern.BytealgCompare.cmp ⟨l.toArray⟩ ⟨m.toArray⟩ = cmpB l m := by
  unfold Extern.BytealgCompare.cmp
  simp only [ba_get, ba_size]
  induction l generalizing m with
  | nil => cases m <;> simp [cmpB]
  | cons x l ih =>
    cases m with
    | nil => simp [cmpB]
    | cons y m =>
      have ih := ih m
      have e : min (x :: l).length (y :: m).length = min l.length m.length + 1 := by simp
      rw [e, List.range_succ_eq_map, List.find?_cons]
      by_cases hxy : x = y
      · subst hxy
        have h0 : ((x :: l).getD 0 default != (x :: m).getD 0 default) = false := by simp
        rw [h0]
        simp only [List.find?_map, Function.comp_def, Nat.succ_eq_add_one, List.getD_cons_succ]
        simp only [cmpB, UInt8.lt_irrefl, if_false]
        rw [← ih]
        rcases (List.range (min l.length m.length)).find? (fun i => l.getD i default != m.getD i default) with _ | i
        · simp
        · simp
      · have h0 : ((x :: l).getD 0 default != (y :: m).getD 0 default) = true := by simpa using hxy
        rw [h0]
        simp only [cmpB, List.getD_cons_zero]
        by_cases h1 : x < y
        · simp [h1]
        · have h2 : y < x := by
            rcases UInt8.lt_or_lt_of_ne hxy with h | h
            · exact absurd h h1
            · exact h
          simp [h1, h2]

set_option maxHeartbeats 1000000 in
theorem bcompare_any (S S' : Nat → Prop) (v v' : Value) (xs ys : List UInt8) (w : World) (hx : Byt w S v xs) (hy : Byt w S' v' ys) :
    Calls Try.prog 49 #[v, v'] w fun e w' => e = .returned (.int .i64 (cmpB xs ys)) ∧ w = w' := by
  have h1 := hx.bytesOf
  have h2 := hy.bytesOf
  have hrun : (Extern.BytealgCompare.compare #[v, v']).run Try.prog w = .ok (.int .i64 (cmpB xs ys)) w := by
    show Sem.run Try.prog (do pure (goInt (Extern.BytealgCompare.cmp (← Extern.Bytes.bytesOf v) (← Extern.Bytes.bytesOf v')))) w = _
    simp only [Sem.run_bind, h1, h2, Result.andThen, Sem.run_pure, cmp_lists]
    rfl
  have HR := Lib.hid hrun
  clear hrun h1 h2 hx hy
  go_enter Try.func49, Try.ntmps49
  go_wp2
  rw [run_callFunc_extern Try.func53 (by kernel_rfl) (by kernel_rfl) (by kernel_rfl) (e := Extern.BytealgCompare.compare) (by kernel_rfl), HR.out]
  simp only [Result.andThen]
  rw [Oper.upon_value]
  go_wp2
  go_ret
  exact ⟨rfl, rfl⟩

theorem compareInt_eq (x y : Int) : Lib.compareInt x y = cmpI x y := by
  unfold Lib.compareInt cmpI
  split <;> (try split) <;> (try split) <;> (try split) <;> omega

/-- cmp.Or at two numbers -/
theorem info3 : (Try.prog.info? 3).map (fun i => (i.zero, i.size, i.bytes)) = some (some (.int .i64 0), 1, 8) := by kernel_rfl
def orI (a b : Int) : Int := if a = 0 then b else a
set_option maxHeartbeats 1000000 in
theorem or2_any (a b : Int) (g : Nat) (w : World) (h0 : w.cell? ⟨g, 0, none⟩ = some (.int .i64 a)) (h1 : w.cell? ⟨g, 1, none⟩ = some (.int .i64 b)) :
    Calls Try.prog 48 #[.slice (some ⟨g, 0, none⟩) 2 2] w fun e w' => e = .returned (.int .i64 (orI a b)) ∧ w = w' := by
  rcases ha : (a != 0) with _ | _
  · have e : a = 0 := by simpa using ha
    subst e
    rcases hb : (b != 0) with _ | _
    · have e : b = 0 := by simpa using hb
      subst e
      go_enter Try.func48, Try.ntmps48
      go_wp2
      refine wp_loop_rounds 3 ?_
      rw [rounds_succ]
      go_wp2
      rw [rounds_succ]
      go_wp2
      rw [rounds_succ]
      go_wp2
      go_ret
      exact ⟨rfl, rfl⟩
    · go_enter Try.func48, Try.ntmps48
      go_wp2
      refine wp_loop_rounds 2 ?_
      rw [rounds_succ]
      go_wp2
      rw [rounds_succ]
      go_wp2
      go_ret
      exact ⟨rfl, rfl⟩
  · have hn : ¬ a = 0 := by simpa using ha
    rw [show orI a b = a from if_neg hn]
    clear hn
    go_enter Try.func48, Try.ntmps48
    go_wp2
    refine wp_loop_rounds 1 ?_
    rw [rounds_succ]
    go_wp2
    go_ret
    exact ⟨rfl, rfl⟩

theorem drop_at (A : ByteArray) (k : Nat) (h : k < A.size) : A.data.toList.drop k = A[k] :: A.data.toList.drop (k + 1) := by
  rw [List.drop_eq_getElem_cons (by simpa using h)]; rfl

set_option maxHeartbeats 1000000 in
theorem less_ba (A B : ByteArray) (w : World) (hx : A.size ≤ 140737488355328) (hy : B.size ≤ 140737488355328) :
    Calls Try.prog 52 #[.string A, .string B] w fun e w' => e = .returned (.int .i64 (cmpB A.data.toList B.data.toList)) ∧ ∃ q, w' = w.drewN q := by
  go_enter Try.func52, Try.ntmps52
  go_wp2
  go_loopw [5] (fun t wr => ∃ k q : Nat, k ≤ A.size ∧ k ≤ B.size ∧ t = .int .i64 k ∧ cmpB A.data.toList B.data.toList = cmpB (A.data.toList.drop k) (B.data.toList.drop k) ∧ wr = w.drewN q) (fun t _ => A.size - (intOf t).toNat)
  case atStart => exact ⟨0, 0, by omega, by omega, rfl, rfl, rfl⟩
  case round =>
    obtain ⟨k, q, hk, hk', rfl, hpre, rfl⟩ := hrel
    have hp := Lib.hid hpre
    clear hpre
    by_cases h1 : k < A.size
    · by_cases h2 : k < B.size
      · have ea := Lib.hid (drop_at A k h1)
        have eb := Lib.hid (drop_at B k h2)
        by_cases h3 : (A[k].toNat : Int) < (B[k].toNat : Int)
        · go_wp2
          go_quiet (fail)
          go_wp2
          go_ret
          refine ⟨ret_int ?_, _, World.drewN_drewN _ _ _⟩
          rw [hp.out, ea.out, eb.out]
          simp only [cmpB]
          rw [if_pos (UInt8.lt_iff_toNat_lt.2 (by omega))]
        · by_cases h4 : (B[k].toNat : Int) < (A[k].toNat : Int)
          · go_wp2
            go_quiet (fail)
            go_wp2
            go_quiet (fail)
            go_wp2
            go_ret
            refine ⟨ret_int ?_, _, (World.drewN_drewN _ _ _).trans (World.drewN_drewN _ _ _)⟩
            rw [hp.out, ea.out, eb.out]
            simp only [cmpB]
            rw [if_neg (fun h => by have := UInt8.lt_iff_toNat_lt.1 h; omega), if_pos (UInt8.lt_iff_toNat_lt.2 (by omega))]
          · go_wp2
            go_quiet (fail)
            go_wp2
            go_quiet (fail)
            go_wp2
            refine ⟨⟨k + 1, _, by omega, by omega, by go_num, ?_, rfl⟩, by simp [intOf]; omega⟩
            rw [hp.out, ea.out, eb.out]
            simp only [cmpB]
            rw [if_neg (fun h => by have := UInt8.lt_iff_toNat_lt.1 h; omega), if_neg (fun h => by have := UInt8.lt_iff_toNat_lt.1 h; omega)]
      · have h2' : B.size = k := by omega
        have eb : B.data.toList.drop k = [] := List.drop_eq_nil_of_le (by simp; omega)
        have ea := Lib.hid (drop_at A k h1)
        have EB := Lib.hid eb
        clear eb h2'
        go_wp2
        go_ret
        refine ⟨ret_int ?_, q, rfl⟩
        rw [hp.out, ea.out, EB.out]
        rfl
    · have h1' : k = A.size := by omega
      have ea : A.data.toList.drop k = [] := List.drop_eq_nil_of_le (by simp; omega)
      have EA := Lib.hid ea
      clear ea h1'
      by_cases h2 : k < B.size
      · have eb := Lib.hid (drop_at B k h2)
        go_wp2
        go_ret
        refine ⟨ret_int ?_, q, rfl⟩
        rw [hp.out, EA.out, eb.out]
        rfl
      · have eb : B.data.toList.drop k = [] := List.drop_eq_nil_of_le (by simp; omega)
        have EB := Lib.hid eb
        clear eb
        go_wp2
        go_ret
        refine ⟨ret_int ?_, q, rfl⟩
        rw [hp.out, EA.out, EB.out]
        rfl
theorem less_any (xs ys : List UInt8) (w : World) (hx : xs.length ≤ 140737488355328) (hy : ys.length ≤ 140737488355328) :
    Calls Try.prog 52 #[.string ⟨xs.toArray⟩, .string ⟨ys.toArray⟩] w fun e w' => e = .returned (.int .i64 (cmpB xs ys)) ∧ ∃ q, w' = w.drewN q := by
  have h := less_ba ⟨xs.toArray⟩ ⟨ys.toArray⟩ w (by rw [ba_size]; exact hx) (by rw [ba_size]; exact hy)
  simpa using h
end Go.Proofs.Ytelbidknefkaiaa
