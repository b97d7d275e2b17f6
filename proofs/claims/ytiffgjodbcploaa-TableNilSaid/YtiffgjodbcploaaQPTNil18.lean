/-
law TableNil.
-/
import Derived.Test.YtiffgjodbcploaaQPTNil17
import Derived.Test.YtiffgjodbcploaaQPTNil5
import Derived.Deep.Slices
import Derived.Lib.SmallJoins
import Derived.OpenShut
import Derived.SizedLaws
import Derived.Test.YtiffgjodbcploaaQPTNil6
section
namespace Go.Proofs.Ytiffgjodbcploaa
open Go.RowKit Go.BigFrame Go.Shelf
attribute [local go_sem ↓] Go.wp_at_zero Go.wp_at_succ
attribute [local go_sem] Oper.semAt_some
abbrev zeroE : Value := .agg #[.slice none 0 0, .int .i64 0, .bool false, .slice none 0 0]
set_option maxRecDepth 100000 in
set_option maxHeartbeats 1000000 in
theorem tget_nil (A : Option Addr) (nk ck : Nat) (s : Int) (w : World) : Calls Try.prog 9 #[.pointer none, .slice A nk ck, .int .i64 s] w fun r w' => r = .returned (.tuple #[zeroE, .bool false, .int .i64 1]) ∧ fr w w' := by
  refine (callsIn_wide (n := 1)).1 ?_
  refine callsIn_of_wp_marks Try.func9 rfl trivial ?_
  simp only [Try.ntmps9, List.size_toArray, List.length_cons, List.length_nil, Nat.reduceAdd, Nat.reduceSub, Array.replicate_succ, Array.replicate_zero, List.push_toArray, List.append_toArray, List.nil_append, List.cons_append]
  refine wpIn_wide.2 ?_
  go_wp2
  have p6 := fr.hp (fr.alloc (fr.alloc fr.refl _) _) (heap_alloc_new ((w.alloc (.cells #[.slice A nk ck] 23)).alloc (.cells #[.int .i64 s] 3)) (.cells #[.slice none 0 0, .int .i64 0, .bool false, .slice none 0 0] 34)) (w' := ((((w.alloc (.cells #[.slice A nk ck] 23)).alloc (.cells #[.int .i64 s] 3)).alloc (.cells #[.slice none 0 0, .int .i64 0, .bool false, .slice none 0 0] 34)).alloc (.cells #[.bool false] 4)).alloc (.cells #[.int .i64 1] 35))
  have p7 := ((Boxed.new (((w.alloc (.cells #[.slice A nk ck] 23)).alloc (.cells #[.int .i64 s] 3)).alloc (.cells #[.slice none 0 0, .int .i64 0, .bool false, .slice none 0 0] 34)) 4 (.bool false)).alloc (.cells #[.int .i64 1] 35)).cell
  have p8 := (Boxed.new ((((w.alloc (.cells #[.slice A nk ck] 23)).alloc (.cells #[.int .i64 s] 3)).alloc (.cells #[.slice none 0 0, .int .i64 0, .bool false, .slice none 0 0] 34)).alloc (.cells #[.bool false] 4)) 35 (.int .i64 1)).cell
  simp only [World.size_alloc] at p6 p7 p8
  have q0 := cell_of_row _ _ 0 _ _ _ p6
  have q1 := cell_of_row _ _ 1 _ _ _ p6
  have q2 := cell_of_row _ _ 2 _ _ _ p6
  have q3 := cell_of_row _ _ 3 _ _ _ p6
  exact ⟨.tuple #[zeroE, .bool false, .int .i64 1], by simp [results, Try.results9, go_sem, q0, q1, q2, q3, p7, p8], rfl, fr.alloc (fr.alloc (fr.alloc (fr.alloc (fr.alloc fr.refl _) _) _) _) _⟩
set_option maxRecDepth 100000 in
set_option maxHeartbeats 1000000 in
theorem entries_nil (w : World) : Calls Try.prog 22 #[.pointer none, .slice none 0 0, .slice none 0 0] w fun r w' => r = .returned (.func (.func 43) #[] #[]) ∧ fr w w' := by
  go_enter Try.func22, Try.ntmps22
  go_wp2
  go_ret
  exact ⟨rfl, fr.alloc (fr.alloc (fr.alloc fr.refl _) _) _⟩
set_option maxRecDepth 100000 in
set_option maxHeartbeats 1000000 in
theorem nil_tells (nn : Nat) (w : World) : Tells Fence.wide nn Try.prog 43 #[] (fun _ : Unit => #[zeroE, .int .i64 1]) (fun pre _ _ _ => pre = []) (fun xs _ => xs.length = 1) (fun _ _ => True) (fun _ => False) (fun _ => False) w := by
  intro l J Jx T0 W hW hT0 hJ hJx hJT hY h0
  refine callsIn_wide.2 ?_
  obtain ⟨fn, tmps, assign, body, hy, hR⟩ := hY [] T0 () W h0 rfl
  dsimp only at hy
  have HR := Lib.hid hR
  clear hW hT0 hJ hJx hJT hY h0 hR
  go_enter Try.func43, Try.ntmps43
  refine (wpIn_wide (n := nn)).1 ?_
  gi_wp2
  refine ⟨fun h => absurd h (by decide), HR.out.mono ?_⟩
  rintro e w6 ⟨T6, gT, oT, (⟨rfl, hj6⟩ | ⟨rfl, hj6⟩)⟩
  · have HJ6 := Lib.hid hj6
    clear hy hj6 gT oT
    gi_wp2
    go_wp2
    go_end0
    exact ⟨⟨_, rfl⟩, .inl ⟨[()], T6, rfl, HJ6.out⟩⟩
  · have HJ6 := Lib.hid hj6
    clear hy hj6 gT oT
    gi_wp2
    go_wp2
    go_end0
    exact ⟨⟨_, rfl⟩, .inr ⟨[()], T6, trivial, HJ6.out⟩⟩
abbrev nFrame (z Bx : Nat) : Array Value :=
  #[.pointer none, .slice none 0 0, .slice none 0 0, undef, undef, undef, .pointer (some ⟨z, 0, none⟩), .pointer (some ⟨z + 1, 0, none⟩), .pointer (some ⟨z + 1 + 1, 0, none⟩), .pointer (some ⟨Bx, 0, none⟩), .int .i64 1, .pointer none, .slice none 0 0, .slice none 0 0, .func (.func 43) #[] #[], zeroE, .int .i64 1, undef, undef, undef, undef, undef, undef, undef, undef, undef]
abbrev T2 (R : Nat) (i : Nat) : Prop := i = R ∨ i = R + 1
set_option maxRecDepth 100000 in
set_option maxHeartbeats 4000000 in
theorem tall_nil (w : World) : Calls Try.prog 11 #[.pointer none, .slice none 0 0, .slice none 0 0] w fun r w' => r = .returned (.tuple #[.slice none 0 0, .int .i64 1]) ∧ fr w w' := by
  have p6 := ((Boxed.new w 22 (.slice none 0 0)).alloc (.cells #[.int .i64 0] 35)).alloc (.cells #[.slice none 0 0] 22)
  have p7 := (Boxed.new (w.alloc (.cells #[.slice none 0 0] 22)) 35 (.int .i64 0)).alloc (.cells #[.slice none 0 0] 22)
  have p8 := Boxed.new ((w.alloc (.cells #[.slice none 0 0] 22)).alloc (.cells #[.int .i64 0] 35)) 22 (.slice none 0 0)
  simp only [World.size_alloc] at p7 p8
  have fA : fr w (((w.alloc (.cells #[.slice none 0 0] 22)).alloc (.cells #[.int .i64 0] 35)).alloc (.cells #[.slice none 0 0] 22)) := fr.alloc (fr.alloc (fr.alloc fr.refl _) _) _
  refine (callsIn_wide (n := 1)).1 ?_
  refine callsIn_of_wp_marks Try.func11 rfl trivial ?_
  simp only [Try.ntmps11, List.size_toArray, List.length_cons, List.length_nil, Nat.reduceAdd, Nat.reduceSub, Array.replicate_succ, Array.replicate_zero, List.push_toArray, List.append_toArray, List.nil_append, List.cons_append]
  refine wpIn_wide.2 ?_
  go_wp2_with (go_at_call 22; refine (entries_nil _).mono ?_; rintro r w1 ⟨rfl, f1⟩)
  have P6 := Lib.hid (boxedFr p6 f1)
  have P7 := Lib.hid (boxedFr p7 f1)
  have P8 := Lib.hid (boxedFr p8 f1)
  have HF1 := Lib.hid (fr.step fA f1)
  have hz3 := (boxedFr p8 f1).lt
  clear p6 p7 p8 fA f1
  refine (wpIn_wide (n := 1)).1 ?_
  refine range_tells rfl (by omega) (gf := 43) (lb := #[]) rfl trivial (enters_of Try.func43 (by kernel_rfl) rfl) (nil_tells 0 w1)
    (fun i h => h.elim) (fun i h => h.elim) (fun pre T T' x A hT h => h) (fun _ _ _ h _ => h) (fun _ _ _ h _ => h) (fun _ => rfl)
    (fun pre T W => pre = [] ∧ T = T2 w.heap.size ∧ fr w1 W) (fun c pre T W => c = .ret ∧ T = T2 w.heap.size ∧ Only (T2 w.heap.size) w1 W ∧ Boxed W w.heap.size 22 (.slice none 0 0) ∧ Boxed W (w.heap.size + 1) 35 (.int .i64 1)) ?still ?stillX (T2 w.heap.size) (fun i hi => ⟨by rcases hi with rfl | rfl <;> omega, fun h => h⟩) ⟨rfl, rfl, fr.refl⟩
    (fun pre T x a W => ∃ Bx, a = { tmps := nFrame w.heap.size Bx, defers := [] }) (fun _ _ _ _ _ _ h _ => h) ?assign ?body ?done ?stop ?lt ?ltx
  case assign =>
    rintro l pre T x W K hi' hok hK
    obtain ⟨h1, h2, h3⟩ := hi'
    gi_wp2
    exact hK _ _ (fr.alloc fr.refl _) ⟨h1, h2, fr.alloc h3 _⟩ ⟨_, rfl⟩
  case still =>
    rintro pre T A B ⟨h1, h2, h3⟩ hi
    exact ⟨h1, h2, hi.os.trans h3.os, hi.tape.trans h3.tape, hi.output.trans h3.output, Nat.le_trans h3.size hi.size, fun i hlt => (hi.block i (Nat.lt_of_lt_of_le hlt h3.size) fun hk => by rcases hk with hk | hk; exact hk; omega).trans (h3.block i hlt)⟩
  case stillX =>
    rintro c pre T A B ⟨h1, h2, h3, a1, a2⟩ hi
    exact ⟨h1, h2, ⟨hi.os.trans h3.os, hi.tape.trans h3.tape, hi.output.trans h3.output, Nat.le_trans h3.size hi.size, fun i hlt hn => (hi.block i (Nat.lt_of_lt_of_le hlt h3.size) fun hk => by rcases hk with hk | hk; exact hk; omega).trans (h3.block i hlt hn)⟩, hi.cells (fun h => h) a1 rfl, hi.cells (fun h => h) a2 rfl⟩
  case lt =>
    rintro pre T W i ⟨h1, rfl, h3⟩ hT
    have := h3.size
    rcases hT with rfl | rfl <;> omega
  case ltx =>
    rintro c pre T W i ⟨h1, rfl, h3, _⟩ hT
    have := h3.size
    rcases hT with rfl | rfl <;> omega
  case body =>
    rintro l pre T x a' sA W hl hlA hrec hTs hsA ⟨rfl, rfl, h3⟩ ⟨Bx, rfl⟩
    have Q6 := boxedFr P6.out h3
    have Q7 := boxedFr P7.out h3
    have c6 := Q6.cell
    have z6 := Q6.frozen
    have c7 := Q7.cell
    have z7 := Q7.frozen
    have c8 := (boxedFr P8.out h3).cell
    have HQ6 := Lib.hid Q6
    have HQ7 := Lib.hid Q7
    have HH3 := Lib.hid h3
    clear hrec hTs hl hlA Q6 Q7 h3
    gi_wp2
    have o2 : Only (T2 w.heap.size) W ((W.setCell ⟨w.heap.size, 0, none⟩ (.slice none 0 0)).setCell ⟨w.heap.size + 1, 0, none⟩ (.int .i64 1)) := Only.setCell (S := T2 w.heap.size) (Only.setCell (S := T2 w.heap.size) (Only.refl _ _) (p := ⟨w.heap.size, 0, none⟩) (.inl rfl) _) (p := ⟨w.heap.size + 1, 0, none⟩) (.inr rfl) _
    exact ⟨T2 _, fun i h => .inl h, Only.mono o2 fun i h => .inl h, rfl, rfl, Only.trans (Only.of_below HH3.out) o2, (HQ6.out.set _).other (by omega) _, (HQ7.out.other (by omega) _).set _⟩
  case done =>
    rintro D' xs T W hD' hTs hxs ⟨rfl, rfl, h3⟩ hK
    simp at hxs
  case stop =>
    rintro D' c xs T W hD' hTs _ ⟨rfl, rfl, h3, a1, a2⟩ hK
    have o4 : Only (fun i => i = D') W (W.putObj D' (.deferred none)) := ⟨rfl, rfl, rfl, by simp, fun i _ hi => World.putObj_heap_other hi⟩
    have s0 := (boxedOnly a1 o4 (by omega)).cell
    have s1 := (boxedOnly a2 o4 (by omega)).cell
    gi_wp2
    refine ⟨by simp, .inl ⟨_, _, rfl, run_takeDeferred hK, ?_⟩⟩
    have h0 := HF1.out
    have o5 := Only.trans (Only.mono h3 fun i h => (Or.inl h : T2 w.heap.size i ∨ i = D')) (Only.mono o4 fun i h => Or.inr h)
    exact ⟨.tuple #[.slice none 0 0, .int .i64 1], by simp [results, Try.results11, go_sem, s0, s1], rfl, o5.os.trans h0.os, o5.tape.trans h0.tape, o5.output.trans h0.output, Nat.le_trans h0.size o5.size, fun i hi => (o5.block i (by have := h0.size; omega) (by rintro ((h | h) | h) <;> omega)).trans (h0.block i hi)⟩
end Go.Proofs.Ytiffgjodbcploaa
end
section
namespace Go.Proofs.Ytiffgjodbcploaa
open Go.RowKit Go.ChangeShapes Go.WideShapes Go.Deep
theorem cells_u8 : Try.prog.cellsOf 5 = 1 := by kernel_rfl
theorem cells_bs : Try.prog.cellsOf 23 = 1 := by kernel_rfl
theorem cells_i : Try.prog.cellsOf 3 = 1 := by kernel_rfl
theorem cells_b : Try.prog.cellsOf 4 = 1 := by kernel_rfl
theorem cells_e : Try.prog.cellsOf 34 = 4 := by kernel_rfl
theorem cells_es : Try.prog.cellsOf 22 = 1 := by kernel_rfl
theorem bytes_u8 : Try.prog.bytesOf 5 = 1 := by kernel_rfl
theorem bytes_e : Try.prog.bytesOf 34 = 64 := by kernel_rfl
theorem bytes_es : Try.prog.bytesOf 22 = 24 := by kernel_rfl
theorem cell_spot {w : World} {a : Addr} {v : Value} (h : w.cell? a = some v) : a = ⟨a.block, a.off, none⟩ := by
  obtain ⟨b, o, s⟩ := a
  cases s with
  | none => rfl
  | some s =>
    unfold World.cell? at h
    split at h <;> simp at h
theorem add_block (a : Addr) (n : Nat) : (a.add n).block = a.block := by unfold Addr.add; split <;> rfl
theorem add_off (a : Addr) (n : Nat) : (a.add n).off = a.off + n := by
  unfold Addr.add
  split
  · rename_i h; rw [h]; rfl
  · rfl
theorem weightsAll_mem {H : Type} {P : Program} {e : TypeId} : ∀ {l : List (DataW H)} {d : DataW H}, d ∈ l → ∀ n ∈ d.weights P e, n ∈ DataW.weightsAll P e l
  | d' :: r, d, hd, n, hn => by
    simp only [DataW.weightsAll, List.mem_append]
    rcases List.mem_cons.1 hd with rfl | h
    · exact Or.inl hn
    · exact Or.inr (weightsAll_mem h n hn)
section
variable {H : Type} {enc : TypeId × Value → H} {w : World} {base : Nat} {held : Bool} {spare : Nat → Bool}
set_option maxRecDepth 10000 in
theorem open_byt {fuel : Nat} {v : Value} {x : DataW H × List MemPlace} (h : DataW.trod enc Try.prog w base spare held fuel 23 [v] = some x) (hw : ∀ n ∈ x.1.weights Try.prog 23, n ≤ reachBytes) :
    ∃ bs, Byt w (fun _ => True) v bs := by
  rcases open_ints Try.underlying23 Try.underlying5 cells_u8 h with ⟨hv, _⟩ | ⟨a, len, cap, zs, hv, _, hl, hm, hz, hx, hc, hwf⟩
  · obtain rfl : v = .slice none 0 0 := by simpa using hv
    exact ⟨[], Byt.nil _ _⟩
  · obtain rfl : v = .slice (some a) len cap := by simpa using hv
    have hlen : len ≤ zs.length := by rw [hz]; split <;> omega
    subst hx
    have hr := hw _ (by simp only [DataW.weights, Try.underlying23]; exact List.mem_cons_self)
    rw [bytes_u8] at hr
    simp only [lits, List.length_map, List.length_take, List.length_drop, reachBytes] at hr
    have e1 : ((zs.take len).map fun z => UInt8.ofNat z.toNat).length = len := by simp; omega
    unfold maxLen at hm
    refine ⟨(zs.take len).map fun z => UInt8.ofNat z.toNat, some a, cap, by rw [e1], by omega, by omega, by omega, ?_⟩
    rw [e1]
    refine ⟨by simp; omega, fun h0 => ?_⟩
    have hs := hc 0 (by omega)
    have hsp : a = ⟨a.block, a.off, none⟩ := cell_spot (a := a) (by simpa [Addr.add] using hs)
    refine ⟨a.block, a.off, by rw [← hsp], trivial, ?_, fun j u hu => ?_⟩
    · have := World.block_lt_of_cell? w _ hs
      simpa [Addr.add] using this
    · rw [List.getElem?_map, List.getElem?_map, List.getElem?_take] at hu
      split at hu
      · rename_i hj
        have hcj := hc j (by omega)
        rw [hsp, Addr.add_lit] at hcj
        rw [hcj]
        obtain ⟨z, hzj⟩ : ∃ z, zs[j]? = some z := ⟨_, List.getElem?_eq_getElem (by omega)⟩
        have hb := bounds_u8 (hwf z (List.mem_of_getElem? hzj))
        rw [hzj] at hu
        simp only [Option.map_some, Option.some.injEq] at hu
        rw [← hu, List.getD_eq_getElem?_getD, hzj]
        unfold bcell
        simp
        omega
      · simp at hu
set_option maxRecDepth 10000 in
theorem open_ent {fuel : Nat} {cs : List Value} {x : DataW H × List MemPlace} (h : DataW.trod enc Try.prog w base spare held fuel 34 cs = some x) (hw : ∀ n ∈ x.1.weights Try.prog 34, n ≤ reachBytes) :
    ∃ e : Ent, EntCells w (fun _ => True) cs [e] := by
  obtain ⟨y0, y1, y2, y3, n, rfl, hl, h0, h1, h2, h3⟩ := Joins.trod_struct4 Try.underlying34 h
  rw [cells_e] at hl
  match cs, hl with
  | [c0, c1, c2, c3], _ =>
    simp only [cells_bs, cells_i, cells_b, List.drop_zero, List.drop_succ_cons, List.take_succ_cons, List.take_zero] at h0 h1 h2 h3
    simp only [DataW.weights, Try.underlying34, List.map_cons, List.map_nil, DataW.weightsEach, List.append_nil, List.mem_append] at hw
    obtain ⟨k, hk⟩ := open_byt h0 (fun n hn => hw n (.inl hn))
    obtain ⟨u, hu⟩ := open_byt h3 (fun n hn => hw n (.inr (.inr (.inr hn))))
    obtain ⟨s, hs, _, _⟩ := DataW.trod_int Try.underlying3 h1
    obtain ⟨d, hd, _⟩ := DataW.trod_bool Try.underlying4 h2
    exact ⟨⟨k, s, d, u⟩, by simpa using hs, by simpa using hd, hk, hu, trivial⟩
def entsLen : DataW H → Nat
  | .slice elems _ => elems.length
  | _ => 0
def listsLen : DataW H → Nat
  | .slice elems _ => (elems.map entsLen).sum
  | _ => 0
set_option maxRecDepth 10000 in
theorem open_entries {fuel : Nat} {v : Value} {x : DataW H × List MemPlace} (h : DataW.trod enc Try.prog w base spare held fuel 22 [v] = some x) (hw : ∀ n ∈ x.1.weights Try.prog 22, n ≤ reachBytes) :
    ∃ es, Ents w (fun _ => True) v es ∧ es.length = entsLen x.1 := by
  rcases open_slice Try.underlying22 h with ⟨hv, hx⟩ | ⟨a, len, cap, m, n, D, Pl, hv, _, hl, hm, hmm, hx, hc⟩
  · obtain rfl : v = .slice none 0 0 := by simpa using hv
    exact ⟨[], Ents.nil _ _, by rw [hx]; rfl⟩
  · obtain rfl : v = .slice (some a) len cap := by simpa using hv
    have hlm : len ≤ m := by rw [hmm]; split <;> omega
    subst hx
    simp only [DataW.weights, Try.underlying22, List.mem_cons, List.mem_append] at hw
    have hr := hw _ (.inl rfl)
    rw [bytes_e] at hr
    simp only [List.length_map, List.length_range, reachBytes] at hr
    unfold maxLen at hm
    rw [cells_e] at hc
    have key : ∀ k, k ≤ len → ∃ (cs : List Value) (es : List Ent), es.length = k ∧ EntCells w (fun _ => True) cs es ∧ ∀ j u, cs[j]? = some u → w.cell? (a.add j) = some u := by
      intro k
      induction k with
      | zero => exact fun _ => ⟨[], [], rfl, trivial, fun j u hu => by simp at hu⟩
      | succ k ih =>
        intro hk
        obtain ⟨cs, es, hel, hce, hcc⟩ := ih (by omega)
        obtain ⟨cs', h1, h2⟩ := hc k (by omega)
        obtain ⟨e, he⟩ := open_ent h2 (fun n hn => hw n (.inr (.inl (weightsAll_mem (List.mem_map.2 ⟨k, List.mem_range.2 (by omega), rfl⟩) n hn))))
        obtain ⟨_, hl4, h4⟩ := World.cells?_some h1
        have hcl := hce.len
        refine ⟨cs ++ cs', es ++ [e], by simp [hel], hce.append he, fun j u hu => ?_⟩
        rw [List.getElem?_append] at hu
        split at hu
        · exact hcc j u hu
        · have hj : j - cs.length < 4 := by rw [← hl4]; exact (List.getElem?_eq_some_iff.1 hu).1
          have h5 := h4 _ hj
          rw [hu] at h5
          have h6 := h4 0 (by omega)
          have hsp : a.add (k * 4) = ⟨a.block, a.off + k * 4, none⟩ := by
            have h7 := cell_spot (w := w) (a := (a.add (k * 4))) (v := cs'[0]) (by
              rw [show (a.add (k * 4)).add 0 = a.add (k * 4) by simp [Addr.add]] at h6
              rw [h6, List.getElem?_eq_getElem (by omega)])
            rw [h7, add_block, add_off]
          rw [hsp, Addr.add_lit] at h5
          unfold Addr.add
          by_cases hj0 : j = 0
          · rw [if_pos hj0]
            subst hj0
            have hk0 : k = 0 := by omega
            subst hk0
            have : a = ⟨a.block, a.off, none⟩ := by simpa [Addr.add] using hsp
            rw [this]
            simpa using h5
          · rw [if_neg hj0, ← h5]
            congr 2
            omega
    obtain ⟨cs, es, hel, hce, hcc⟩ := key len (Nat.le_refl _)
    have hcl := hce.len
    refine ⟨es, ⟨some a, cap, cs, by rw [hel], by omega, by omega, by omega, ?_, hce⟩, by simp [entsLen, hel]⟩
    rw [hel]
    refine ⟨by omega, fun h0 => ?_⟩
    obtain ⟨u0, hu0⟩ : ∃ u, cs[0]? = some u := ⟨_, List.getElem?_eq_getElem (by omega)⟩
    have hs := hcc 0 u0 hu0
    have hsp : a = ⟨a.block, a.off, none⟩ := cell_spot (a := a) (by simpa [Addr.add] using hs)
    refine ⟨a.block, a.off, by rw [← hsp], trivial, ?_, fun j u hu => ?_⟩
    · have := World.block_lt_of_cell? w _ hs
      simpa [Addr.add] using this
    · have := hcc j u hu
      rwa [hsp, Addr.add_lit] at this
set_option maxRecDepth 10000 in
/-- an argument that is a slice: its reading at its own value. -/
theorem arg_slice {r : Reach} {b0 : Nat} {t e : TypeId} {v : Value} {d : DataW H} {ps : List MemPlace} (ht : Try.prog.underlying t = some (.slice e)) (hval : Value.okWide Try.prog w r b0 t v) (hd : DataW.Trod enc Try.prog w base spare held t v d ps) :
    ∃ fuel, DataW.trod enc Try.prog w base spare held fuel t [v] = some (d, ps) := by
  obtain ⟨a, l, c, rfl⟩ := okWide_slice ht hval
  obtain ⟨n, hn⟩ := hd
  exact ⟨n, hn⟩
set_option maxRecDepth 10000 in
theorem arg_entries {r : Reach} {b0 : Nat} {v : Value} {d : DataW H} {ps : List MemPlace} (hval : Value.okWide Try.prog w r b0 22 v) (hd : DataW.Trod enc Try.prog w base spare held 22 v d ps) (hw : ∀ n ∈ d.weights Try.prog 22, n ≤ reachBytes) :
    ∃ es, Ents w (fun _ => True) v es := by
  obtain ⟨n, hn⟩ := arg_slice Try.underlying22 hval hd
  obtain ⟨es, he, _⟩ := open_entries hn hw
  exact ⟨es, he⟩
set_option maxRecDepth 10000 in
theorem arg_bytes {r : Reach} {b0 : Nat} {v : Value} {d : DataW H} {ps : List MemPlace} (hval : Value.okWide Try.prog w r b0 23 v) (hd : DataW.Trod enc Try.prog w base spare held 23 v d ps) (hw : ∀ n ∈ d.weights Try.prog 23, n ≤ reachBytes) :
    ∃ bs, Byt w (fun _ => True) v bs := by
  obtain ⟨n, hn⟩ := arg_slice Try.underlying23 hval hd
  exact open_byt hn hw
end
end Go.Proofs.Ytiffgjodbcploaa
end
section
namespace Go.Proofs.Ytiffgjodbcploaa
open Go.RowKit Go.BigFrame Go.Shelf
attribute [local go_sem ↓] Go.wp_at_zero Go.wp_at_succ
set_option maxRecDepth 100000 in
set_option maxHeartbeats 600000 in
theorem tabNilLaw (v : Value) (es : List Ent) (kv : Value) (key : List UInt8) (w : World) (hv : Ents w (fun _ => True) v es) (hkv : Byt w (fun _ => True) kv key) :
    Calls Try.prog 4 #[v, kv] w fun r w' => r = .returned (.bool true) ∧ Below w.heap.size w w' := by
  have HKV := Lib.hid hkv
  have HV := Lib.hid hv
  obtain ⟨Ak, ck, rfl⟩ := slice_form hkv
  clear hkv hv
  go_enter Try.func4, Try.ntmps4
  go_wp2_with (fail)
  refine (twakes_any _).mono ?_
  rintro r w1 ⟨rfl, hb1⟩
  have HB1 := Lib.hid hb1
  have hba : Below w.heap.size w (w1.alloc (.cells #[] 5)) := hb1.alloc hb1.size _
  have HBA := Lib.hid hba
  have hz1 := hb1.size
  have HSZ := Lib.hid (show w1.heap.size ≤ (w1.alloc (.cells #[] 5)).heap.size by simp)
  clear hb1 hba
  go_upto_region 5 with (first
    | (at_builtin; refine wpList_append_byt rfl _ _ rfl w1.heap.size _ _ rfl rfl (fun _ => True) key (lit0 w1) (HKV.out.below HBA.out) HSZ.out ?_; intro v' w2 hown hgrow; obtain ⟨Av, cv, rfl⟩ := own_form hown; have HOWN := Lib.hid hown; have HGROW := Lib.hid hgrow; clear hown hgrow)
    | (go_at_call 9; refine (tget_nil _ _ _ _ _).mono ?_; rintro r w3 ⟨rfl, f3⟩; have HF3 := Lib.hid f3; clear f3))
  have hb3 : Below w.heap.size w (w3.alloc (.cells #[.slice none 0 0, .int .i64 0, .bool false, .slice none 0 0] 34)) := by
    have h2 := HBA.out.grown HGROW.out HBA.out.size (fun j e => by cases e; exact hz1)
    have h3 := h2.trans (Below.mono HF3.out h2.size)
    exact h3.alloc h3.size _
  have hbox := heap_alloc_new w3 (.cells #[.slice none 0 0, .int .i64 0, .bool false, .slice none 0 0] 34)
  generalize w3.alloc (.cells #[.slice none 0 0, .int .i64 0, .bool false, .slice none 0 0] 34) = W0 at hb3 hbox ⊢
  obtain ⟨X, hX⟩ : ∃ X, w3.heap.size = X := ⟨_, rfl⟩
  rw [hX] at hbox ⊢
  have HB3 := Lib.hid hb3
  have HBOX := Lib.hid hbox
  clear hb3 hbox hX HF3 HGROW HOWN HSZ HBA HB1 hz1
  go_upto_region 8 with (first
    | (go_at_call 11; refine (tall_nil _).mono ?_; rintro r w4 ⟨rfl, f4⟩; have HF4 := Lib.hid f4; clear f4)
    | (go_at_call 15; refine (bounds_nil _).mono ?_; rintro r w5 ⟨rfl, f5⟩; have HF5 := Lib.hid f5; clear f5)
    | (go_at_call 16; refine (topen_nil _ _).mono ?_; rintro r w6 ⟨rfl, f6⟩; have HF6 := Lib.hid f6; clear f6))
  have f06 := fr.step (fr.step HF4.out HF5.out) HF6.out
  have hbx := fr.hp f06 HBOX.out
  have y0 := cell_of_row w6 X 0 _ _ _ hbx
  have y1 := cell_of_row w6 X 1 _ _ _ hbx
  have y2 := cell_of_row w6 X 2 _ _ _ hbx
  have y3 := cell_of_row w6 X 3 _ _ _ hbx
  have hb6 : Below w.heap.size w w6 := HB3.out.trans (Below.mono f06 HB3.out.size)
  have HB6 := Lib.hid hb6
  clear f06 hbx hb6 HF4 HF5 HF6 HBOX HB3
  simp only [List.getElem?_toArray, List.getElem?_cons_zero, List.getElem?_cons_succ] at y0 y1 y2 y3
  go_wp2_with (first
    | (go_at_call 12; refine (sameone_any (fun _ => True) (fun _ => True) _ _ ⟨[], 0, false, []⟩ ⟨[], 0, false, []⟩ _ ⟨_, _, rfl, Byt.nil _ _, Byt.nil _ _⟩ ⟨_, _, rfl, Byt.nil _ _, Byt.nil _ _⟩).mono ?_; rintro r w7 ⟨rfl, hb7⟩; have HB7 := Lib.hid (HB6.out.trans (hb7.mono HB6.out.size)); clear hb7 y0 y1 y2 y3; rw [decide_eq_true rfl])
    | (go_at_call 17; refine (count_nil _).mono ?_; rintro r w8 ⟨rfl, f8⟩; have HB8 := Lib.hid (HB7.out.trans (Below.mono f8 HB7.out.size)); clear f8)
    | (go_at_call 19; refine (copy_any _ _ es _ (HV.out.below HB8.out)).mono ?_; rintro r w9 ⟨v9, rfl, _, hb9⟩; have HB9 := Lib.hid (HB8.out.trans (hb9.mono HB8.out.size)); clear hb9)
    | (go_at_call 18; refine (write_nil _ _ _ _).mono ?_; rintro r w10 ⟨rfl, f10⟩; have HB10 := Lib.hid (HB9.out.trans (Below.mono f10 HB9.out.size)); clear f10))
  refine bodyPost_ret (v := .bool true) (by simp [results, Try.results4, go_sem]) rfl ?_
  exact ⟨rfl, HB10.out⟩
end Go.Proofs.Ytiffgjodbcploaa
end
