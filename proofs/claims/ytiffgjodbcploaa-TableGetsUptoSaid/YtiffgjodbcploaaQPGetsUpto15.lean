/-
A nil table: Get, Entries, all.
-/
import Derived.Test.YtiffgjodbcploaaQPGetsUpto14
import Derived.Test.YtiffgjodbcploaaQPGetsUpto13
import Derived.Test.YtiffgjodbcploaaQPGetsUpto11
import Derived.Test.YtiffgjodbcploaaQPGetsUpto10
import Derived.Lib.SlBytesConst
section
namespace Go.Proofs.Ytiffgjodbcploaa
open Go.RowKit Go.BigFrame Go.Shelf
attribute [local go_sem ↓] Go.wp_at_zero Go.wp_at_succ
attribute [local go_sem] Oper.semAt_some
/-- what Get answers of the entries from its key on. -/
def getF (key : List UInt8) (s : Int) : List Ent → Option Ent
  | [] => none
  | e :: l => if e.key = key then (if e.seq ≤ s then some e else getF key s l) else none
theorem getF_skip {key : List UInt8} {s : Int} : ∀ {pre l : List Ent}, (∀ e ∈ pre, e.key = key ∧ s < e.seq) → getF key s (pre ++ l) = getF key s l
  | [], _, _ => rfl
  | e :: pre, l, h => by
    obtain ⟨h1, h2⟩ := h e (by simp)
    rw [List.cons_append, getF, if_pos h1, if_neg (by omega), getF_skip fun x hx => h x (by simp [hx])]
/-- an answer: an entry or none. -/
def GotV (w : World) (lo : Nat) (T : Nat → Prop) (k s d u : Value) (ok : Bool) : Option Ent → Prop
  | none => ok = false ∧ k = .slice none 0 0 ∧ s = .int .i64 0 ∧ d = .bool false ∧ u = .slice none 0 0
  | some e => ok = true ∧ s = .int .i64 e.seq ∧ d = .bool e.dead ∧ Byt w (fun i => (lo ≤ i ∧ ¬ T i) ∧ Loose w i) k e.key ∧ Byt w (fun i => (lo ≤ i ∧ ¬ T i) ∧ Loose w i) u e.val
abbrev T3 (R : Nat) (i : Nat) : Prop := i = R ∨ i = R + 1 ∨ i = R + 1 + 1
def GetI (w1 : World) (R : Nat) (key : List UInt8) (s : Int) (pre : List (Value × Ent)) (T : Nat → Prop) (W : World) : Prop :=
  (∀ e ∈ pre.map Prod.snd, e.key = key ∧ s < e.seq) ∧ T = T3 R ∧ fr w1 W
def GetX (w1 : World) (R : Nat) (lo : Nat) (key : List UInt8) (s : Int) (fs : List Ent) (c : Code) (T : Nat → Prop) (W : World) : Prop :=
  c = .ret ∧ T = T3 R ∧ Only (T3 R) w1 W ∧ ∃ k sq d u ok, W.heap[R]? = some (.cells #[k, sq, d, u] 34 (0, 0)) ∧ Boxed W (R + 1) 4 (.bool ok) ∧ Boxed W (R + 1 + 1) 35 (.int .i64 0) ∧ (∃ A n c, k = .slice A n c) ∧ (∃ A n c, u = .slice A n c) ∧ GotV W lo T k sq d u ok (getF key s fs)
def AxG (lo : Nat) (fs : List Ent) (f : Nat → Value → Array Value) (pre : List (Value × Ent)) (T : Nat → Prop) (x : Value × Ent) (a : Act) (W : World) : Prop :=
  ∃ Bx Ak nk ck Au nu cu, x.1 = .agg #[.slice Ak nk ck, .int .i64 x.2.seq, .bool x.2.dead, .slice Au nu cu] ∧ W.heap[Bx]? = some (.cells #[.slice Ak nk ck, .int .i64 x.2.seq, .bool x.2.dead, .slice Au nu cu] 34 (0, 0)) ∧ Byt W (fun i => (lo ≤ i ∧ ¬ T i) ∧ Loose W i) (.slice Ak nk ck) x.2.key ∧ Byt W (fun i => (lo ≤ i ∧ ¬ T i) ∧ Loose W i) (.slice Au nu cu) x.2.val ∧
    (∃ rest, pre.map Prod.snd ++ x.2 :: rest = fs) ∧ a = { tmps := f Bx x.1, defers := [] }
/-- the three results written. -/
abbrev putG (W : World) (R : Nat) (k sq d u ok er : Value) : World := (((((W.setCell ⟨R, 0, none⟩ k).setCell ⟨R, 1, none⟩ sq).setCell ⟨R, 2, none⟩ d).setCell ⟨R, 3, none⟩ u).setCell ⟨R + 1, 0, none⟩ ok).setCell ⟨R + 1 + 1, 0, none⟩ er
theorem putG_ok {W : World} {R : Nat} {k0 s0 d0 u0 ok0 er0 : Value} (k sq d u ok er : Value) (h0 : W.heap[R]? = some (.cells #[k0, s0, d0, u0] 34 (0, 0))) (h1 : Boxed W (R + 1) 4 ok0) (h2 : Boxed W (R + 1 + 1) 35 er0) :
    (putG W R k sq d u ok er).heap[R]? = some (.cells #[k, sq, d, u] 34 (0, 0)) ∧ Boxed (putG W R k sq d u ok er) (R + 1) 4 ok ∧ Boxed (putG W R k sq d u ok er) (R + 1 + 1) 35 er ∧ Only (T3 R) W (putG W R k sq d u ok er) := by
  have a1 := heap_setCell_same W R 0 _ _ k h0
  have a2 := heap_setCell_same _ R 1 _ _ sq a1
  have a3 := heap_setCell_same _ R 2 _ _ d a2
  have a4 := heap_setCell_same _ R 3 _ _ u a3
  have o4 : Only (fun i => i = R) W ((((W.setCell ⟨R, 0, none⟩ k).setCell ⟨R, 1, none⟩ sq).setCell ⟨R, 2, none⟩ d).setCell ⟨R, 3, none⟩ u) := (((only_set W R 0 _).trans (only_set _ R 1 _)).trans (only_set _ R 2 _)).trans (only_set _ R 3 _)
  have b1 := boxedOnly h1 o4 (by omega)
  have b2 := boxedOnly h2 o4 (by omega)
  refine ⟨?_, ((b1.set ok).other (by omega) er), ((b2.other (by omega) ok).set er), ?_⟩
  · exact (heap_setCell_other _ ⟨R + 1 + 1, 0, none⟩ R er (by show ¬ R = R + 1 + 1; omega)).trans ((heap_setCell_other _ ⟨R + 1, 0, none⟩ R ok (by show ¬ R = R + 1; omega)).trans a4)
  · exact Only.setCell (S := T3 R) (Only.setCell (S := T3 R) (Only.mono o4 fun i h => .inl h) (p := ⟨R + 1, 0, none⟩) (.inr (.inl rfl)) _) (p := ⟨R + 1 + 1, 0, none⟩) (.inr (.inr rfl)) _
abbrev gFrame (Tb z nk ck : Nat) (A : Option Addr) (s : Int) (Bx : Nat) (x : Value) : Array Value :=
  #[.pointer (some ⟨Tb, 0, none⟩), .slice A nk ck, .int .i64 s, undef, .pointer (some ⟨z, 0, none⟩), .pointer (some ⟨z + 1, 0, none⟩), .pointer (some ⟨z + 1 + 1, 0, none⟩), .pointer (some ⟨z + 1 + 1 + 1, 0, none⟩), .pointer (some ⟨z + 1 + 1 + 1 + 1, 0, none⟩), .pointer (some ⟨Bx, 0, none⟩), .int .i64 0, .pointer (some ⟨Tb, 0, none⟩), .bool false, undef, .pointer (some ⟨Tb, 0, none⟩), .slice A nk ck,
    .func (.func 46) #[] #[.pointer (some ⟨z + 5, 0, none⟩), .pointer (some ⟨z + 5 + 1, 0, none⟩)], x, .int .i64 0, undef, undef, undef, undef, undef, undef, undef, undef, undef, undef, undef, undef, undef, undef, undef, undef, undef, undef, undef]
set_option maxRecDepth 100000 in
set_option maxHeartbeats 4000000 in
theorem tget_any (Tb N nk ck : Nat) (A : Option Addr) (s : Int) (S0 S1 : Nat → Prop) (key : List UInt8) (es : List Ent) (ps : List (List Ent)) (w : World) (hkey : Byt w S1 (.slice A nk ck) key) (htab : TabS w S0 Tb N es ps) (hpo : PartsOk es ps) (hN : es.length = N) (hN0 : 0 < N) (hN2 : N ≤ 16777216) (hB2 : bytesE es ≤ 16777216) (hord : orderedE es = true) (hS : ∀ i, S0 i ∨ S1 i → i < w.heap.size) :
    Calls Try.prog 9 #[.pointer (some ⟨Tb, 0, none⟩), .slice A nk ck, .int .i64 s] w fun r w' => ∃ k sq d u ok, r = .returned (.tuple #[.agg #[k, sq, d, u], .bool ok, .int .i64 0]) ∧ GotV w' w.heap.size (fun _ => False) k sq d u ok (getF key s (fromE key es)) ∧ fr w w' := by
  have hz1 : (((((w.alloc (.cells #[.slice A nk ck] 23)).alloc (.cells #[.int .i64 s] 3)).alloc (.cells #[.slice none 0 0, .int .i64 0, .bool false, .slice none 0 0] 34)).alloc (.cells #[.bool false] 4)).alloc (.cells #[.int .i64 0] 35)).heap.size = w.heap.size + 5 := by simp
  obtain ⟨wA, hwA⟩ : ∃ x, ((((w.alloc (.cells #[.slice A nk ck] 23)).alloc (.cells #[.int .i64 s] 3)).alloc (.cells #[.slice none 0 0, .int .i64 0, .bool false, .slice none 0 0] 34)).alloc (.cells #[.bool false] 4)).alloc (.cells #[.int .i64 0] 35) = x := ⟨_, rfl⟩
  rw [hwA] at hz1
  have fA : fr w wA := by rw [← hwA]; exact fr.alloc (fr.alloc (fr.alloc (fr.alloc (fr.alloc fr.refl _) _) _) _) _
  have p4 : Boxed wA w.heap.size 23 (.slice A nk ck) := by rw [← hwA]; exact ((((Boxed.new w 23 (.slice A nk ck)).alloc _).alloc _).alloc _).alloc _
  have p5 : Boxed wA (w.heap.size + 1) 3 (.int .i64 s) := by
    rw [← hwA]
    have := (((Boxed.new (w.alloc (.cells #[.slice A nk ck] 23)) 3 (.int .i64 s)).alloc (.cells #[.slice none 0 0, .int .i64 0, .bool false, .slice none 0 0] 34)).alloc (.cells #[.bool false] 4)).alloc (.cells #[.int .i64 0] 35)
    rwa [World.size_alloc] at this
  have p6 : wA.heap[w.heap.size + 1 + 1]? = some (.cells #[.slice none 0 0, .int .i64 0, .bool false, .slice none 0 0] 34 (0, 0)) := by
    rw [← hwA]
    have := heap_alloc_new ((w.alloc (.cells #[.slice A nk ck] 23)).alloc (.cells #[.int .i64 s] 3)) (.cells #[.slice none 0 0, .int .i64 0, .bool false, .slice none 0 0] 34)
    simp only [World.size_alloc] at this
    exact fr.hp (fr.alloc (fr.alloc fr.refl _) _) this
  have p7 : Boxed wA (w.heap.size + 1 + 1 + 1) 4 (.bool false) := by
    rw [← hwA]
    have := (Boxed.new (((w.alloc (.cells #[.slice A nk ck] 23)).alloc (.cells #[.int .i64 s] 3)).alloc (.cells #[.slice none 0 0, .int .i64 0, .bool false, .slice none 0 0] 34)) 4 (.bool false)).alloc (.cells #[.int .i64 0] 35)
    simp only [World.size_alloc] at this
    exact this
  have p8 : Boxed wA (w.heap.size + 1 + 1 + 1 + 1) 35 (.int .i64 0) := by
    rw [← hwA]
    have := Boxed.new ((((w.alloc (.cells #[.slice A nk ck] 23)).alloc (.cells #[.int .i64 s] 3)).alloc (.cells #[.slice none 0 0, .int .i64 0, .bool false, .slice none 0 0] 34)).alloc (.cells #[.bool false] 4)) 35 (.int .i64 0)
    simp only [World.size_alloc] at this
    exact this
  have c4 := p4.cell
  have HFA := Lib.hid fA
  have HWA := Lib.hid hwA
  have P4 := Lib.hid p4
  have P5 := Lib.hid p5
  have P6 := Lib.hid p6
  have P7 := Lib.hid p7
  have P8 := Lib.hid p8
  have HKEY := Lib.hid hkey
  have HTAB := Lib.hid htab
  have HS := Lib.hid hS
  have HPO := Lib.hid hpo
  have HN := Lib.hid hN
  have HORD := Lib.hid hord
  clear fA hwA p4 p5 p6 p7 p8 hkey htab hS hpo hN hord
  refine (callsIn_wide (n := 1)).1 ?_
  refine callsIn_of_wp_marks Try.func9 rfl trivial ?_
  simp only [Try.ntmps9, List.size_toArray, List.length_cons, List.length_nil, Nat.reduceAdd, Nat.reduceSub, Array.replicate_succ, Array.replicate_zero, List.push_toArray, List.append_toArray, List.nil_append, List.cons_append]
  refine wpIn_wide.2 ?_
  go_wp2_with (first | rw [HWA.out] | (go_at_call 26; refine (tfrom_any Tb nk ck A wA).mono ?_; rintro r w1 ⟨rfl, b1, b2, f1, hz2⟩))
  rw [hz1] at b1 b2
  have HTI := Lib.hid (from_tells 0 w1 (w.heap.size + 5) Tb N nk ck A S0 S1 key es ps ⟨b1, b2, (HKEY.out.below HFA.out).below f1, (HTAB.out.fr HFA.out).fr f1⟩ HPO.out HN.out hN0 hN2 hB2 HORD.out (fun i h => by have := HS.out i h; omega))
  have HF1 := Lib.hid f1
  have HB1 := Lib.hid b1
  have hzz : w1.heap.size = w.heap.size + 7 := by omega
  clear b1 b2 f1 c4
  have HEND : ∀ (W' : World) (D' : Nat) (k sq d u : Value) (ok : Bool), w1.heap.size ≤ D' → W'.heap[D']? = some (.deferred (some [])) → W'.heap[w.heap.size + 1 + 1]? = some (.cells #[k, sq, d, u] 34 (0, 0)) → Boxed W' (w.heap.size + 1 + 1 + 1) 4 (.bool ok) → Boxed W' (w.heap.size + 1 + 1 + 1 + 1) 35 (.int .i64 0) → Only (T3 (w.heap.size + 1 + 1)) w1 W' → GotV W' w1.heap.size (T3 (w.heap.size + 1 + 1)) k sq d u ok (getF key s (fromE key es)) →
      ((W'.putObj D' (.deferred none)).cell? ⟨w.heap.size + 1 + 1, 0, none⟩ = some k ∧ (W'.putObj D' (.deferred none)).cell? ⟨w.heap.size + 1 + 1, 1, none⟩ = some sq ∧ (W'.putObj D' (.deferred none)).cell? ⟨w.heap.size + 1 + 1, 2, none⟩ = some d ∧ (W'.putObj D' (.deferred none)).cell? ⟨w.heap.size + 1 + 1, 3, none⟩ = some u ∧ (W'.putObj D' (.deferred none)).cell? ⟨w.heap.size + 1 + 1 + 1, 0, none⟩ = some (.bool ok) ∧ (W'.putObj D' (.deferred none)).cell? ⟨w.heap.size + 1 + 1 + 1 + 1, 0, none⟩ = some (.int .i64 0)) ∧
      GotV (W'.putObj D' (.deferred none)) w.heap.size (fun _ => False) k sq d u ok (getF key s (fromE key es)) ∧ fr w (W'.putObj D' (.deferred none)) := fun W' D' k sq d u ok hD hk a1 a2 a3 ho hg => by
    have o4 : Only (fun i => i = D') W' (W'.putObj D' (.deferred none)) := ⟨rfl, rfl, rfl, by simp, fun i _ hi => World.putObj_heap_other hi⟩
    have a1' := (o4.block _ (Array.getElem?_eq_some_iff.1 a1).1 (by show ¬ w.heap.size + 1 + 1 = D'; omega)).trans a1
    have hwz := HFA.out.size
    refine ⟨⟨cell_of_row _ _ 0 _ _ _ a1', cell_of_row _ _ 1 _ _ _ a1', cell_of_row _ _ 2 _ _ _ a1', cell_of_row _ _ 3 _ _ _ a1', (boxedOnly a2 o4 (by omega)).cell, (boxedOnly a3 o4 (by omega)).cell⟩, ?_, ?_⟩
    · have hno : ∀ i, Loose W' i → ¬ i = D' := fun i ⟨cs, hl⟩ e => by
        subst e
        rw [hk] at hl
        cases hl
      have hb : ∀ v bs, Byt W' (fun i => (w1.heap.size ≤ i ∧ ¬ T3 (w.heap.size + 1 + 1) i) ∧ Loose W' i) v bs → Byt (W'.putObj D' (.deferred none)) (fun i => (w.heap.size ≤ i ∧ ¬ False) ∧ Loose (W'.putObj D' (.deferred none)) i) v bs := fun v bs h =>
        Byt.mono (S := fun i => (w1.heap.size ≤ i ∧ ¬ T3 (w.heap.size + 1 + 1) i) ∧ Loose W' i) (Byt.only h o4 fun i _ hi => hno i hi.2) fun i hi => ⟨⟨by have := hi.1.1; omega, fun h => h⟩, hi.2.only o4 (hno i hi.2)⟩
      cases hgf : getF key s (fromE key es) with
      | none => rw [hgf] at hg; exact hg
      | some e =>
        rw [hgf] at hg
        obtain ⟨b1, b2, b3, b4, b5⟩ := hg
        exact ⟨b1, b2, b3, hb _ _ b4, hb _ _ b5⟩
    · have h0 := fr.step HFA.out HF1.out
      have o5 := Only.trans (Only.mono ho fun i h => (Or.inl h : T3 (w.heap.size + 1 + 1) i ∨ i = D')) (Only.mono o4 fun i h => Or.inr h)
      exact ⟨o5.os.trans h0.os, o5.tape.trans h0.tape, o5.output.trans h0.output, Nat.le_trans h0.size o5.size, fun i hi => (o5.block i (by omega) (by rintro ((h | h | h) | h) <;> omega)).trans (h0.block i hi)⟩
  refine (wpIn_wide (n := 1)).1 ?_
  refine range_tells rfl (by omega) (gf := 46) (lb := #[.pointer (some ⟨w.heap.size + 5, 0, none⟩), .pointer (some ⟨w.heap.size + 5 + 1, 0, none⟩)]) rfl trivial (enters_of Try.func46 (by kernel_rfl) rfl) HTI.out
    ?hD (fun i h => h.elim) (fun pre T T' x A hT h => h.anti hT) (fun _ _ _ h _ => h) (fun _ _ _ h _ => h) (fun _ => rfl)
    (GetI w1 (w.heap.size + 1 + 1) key s) (fun c pre T W => GetX w1 (w.heap.size + 1 + 1) w1.heap.size key s (fromE key es) c T W) ?still ?stillX (T3 (w.heap.size + 1 + 1)) ?t0 ⟨fun e h => by simp at h, rfl, fr.refl⟩
    (AxG w1.heap.size (fromE key es) (gFrame Tb w.heap.size nk ck A s)) ?ax ?assign ?body ?done ?stop ?lt ?ltx
  case assign =>
    rintro l pre T ⟨x1, x2⟩ W K hi' ⟨⟨k, u, hx, hk1, hu1⟩, hrest⟩ hK
    obtain ⟨Ak, ck', rfl⟩ := slice_form hk1
    obtain ⟨Au, cu, rfl⟩ := slice_form hu1
    simp only at hx
    subst hx
    have HK := Lib.hid hk1
    have HU := Lib.hid hu1
    have HI := Lib.hid hi'
    have HR := Lib.hid hrest
    clear hk1 hu1 hi' hrest
    gi_wp2
    have hal : fr W (W.alloc (.cells #[.slice Ak x2.key.length ck', .int .i64 x2.seq, .bool x2.dead, .slice Au x2.val.length cu] 34)) := fr.alloc fr.refl _
    have hI := HI.out
    refine hK _ _ hal ⟨hI.1, hI.2.1, fr.step hI.2.2 hal⟩ ⟨W.heap.size, Ak, _, ck', Au, _, cu, rfl, heap_alloc_new W _, HK.out.idle (Idle.of_below (Z := fun _ => False) (base := 0) hal) (fun _ _ h => h), HU.out.idle (Idle.of_below (Z := fun _ => False) (base := 0) hal) (fun _ _ h => h), HR.out, rfl⟩
  case hD =>
    rintro i (rfl | rfl | h | h)
    · omega
    · omega
    · have := HS.out i (.inl h); omega
    · have := HS.out i (.inr h); omega
  case t0 =>
    intro i hi
    refine ⟨by rcases hi with rfl | rfl | rfl <;> omega, fun h => ?_⟩
    have h1 : i < w.heap.size + 5 ∧ w.heap.size ≤ i := by rcases hi with rfl | rfl | rfl <;> omega
    rcases h with h | h | h | h
    · omega
    · omega
    · have := HS.out i (.inl h); omega
    · have := HS.out i (.inr h); omega
  case still =>
    rintro pre T A B ⟨h1, h2, h3⟩ hi
    exact ⟨h1, h2, hi.os.trans h3.os, hi.tape.trans h3.tape, hi.output.trans h3.output, Nat.le_trans h3.size hi.size, fun i hlt => (hi.block i (Nat.lt_of_lt_of_le hlt h3.size) fun hk => by rcases hk with hk | hk; exact hk; omega).trans (h3.block i hlt)⟩
  case stillX =>
    rintro c pre T A B ⟨h1, h2, h3, k, sq, d, u, ok, a1, a2, a3, a4, a5, a6⟩ hi
    refine ⟨h1, h2, ⟨hi.os.trans h3.os, hi.tape.trans h3.tape, hi.output.trans h3.output, Nat.le_trans h3.size hi.size, fun i hlt hn => (hi.block i (Nat.lt_of_lt_of_le hlt h3.size) fun hk => by rcases hk with hk | hk; exact hk; omega).trans (h3.block i hlt hn)⟩, k, sq, d, u, ok, hi.cells (fun h => h) a1 rfl, hi.cells (fun h => h) a2 rfl, hi.cells (fun h => h) a3 rfl, a4, a5, ?_⟩
    cases hg : getF key s (fromE key es) with
    | none => rw [hg] at a6; exact a6
    | some e =>
      rw [hg] at a6
      obtain ⟨b1, b2, b3, b4, b5⟩ := a6
      exact ⟨b1, b2, b3, b4.idle hi (fun _ _ h => h), b5.idle hi (fun _ _ h => h)⟩
  case ax =>
    rintro pre T x a' A B ⟨Bx, Ak, nk', ck', Au, nu, cu, hx, hbx, hk, hu, hr, rfl⟩ hi
    exact ⟨Bx, Ak, nk', ck', Au, nu, cu, hx, hi.cells (fun h => h) hbx rfl, hk.idle hi (fun _ _ h => h), hu.idle hi (fun _ _ h => h), hr, rfl⟩
  case lt =>
    rintro pre T W i ⟨h1, rfl, h3⟩ hT
    have := h3.size
    rcases hT with rfl | rfl | rfl <;> omega
  case ltx =>
    rintro c pre T W i ⟨h1, rfl, h3, _⟩ hT
    have := h3.size
    rcases hT with rfl | rfl | rfl <;> omega
  case body =>
    rintro l pre T x a' sA W hl hlA hrec hTs hsA ⟨h1, rfl, h3⟩ ⟨Bx, Ak, nk', ck', Au, nu, cu, hx, hbx, hk, hu, hr, rfl⟩
    have P4W := boxedFr (boxedFr P4.out HF1.out) h3
    have P5W := boxedFr (boxedFr P5.out HF1.out) h3
    have P6W := fr.hp h3 (fr.hp HF1.out P6.out)
    have P7W := boxedFr (boxedFr P7.out HF1.out) h3
    have P8W := boxedFr (boxedFr P8.out HF1.out) h3
    have c4 := P4W.cell
    have c5 := P5W.cell
    have x0 := cell_of_row W _ 0 _ _ _ hbx
    have x1 := cell_of_row W _ 1 _ _ _ hbx
    have x2 := cell_of_row W _ 2 _ _ _ hbx
    have x3 := cell_of_row W _ 3 _ _ _ hbx
    have q0 := cell_of_row W _ 0 _ _ _ P6W
    have q1 := cell_of_row W _ 1 _ _ _ P6W
    have q2 := cell_of_row W _ 2 _ _ _ P6W
    have q3 := cell_of_row W _ 3 _ _ _ P6W
    have z0 := frozen_of_row W _ 0 _ _ P6W
    have z1 := frozen_of_row W _ 1 _ _ P6W
    have z2 := frozen_of_row W _ 2 _ _ P6W
    have z3 := frozen_of_row W _ 3 _ _ P6W
    have q4 := P7W.cell
    have z4 := P7W.frozen
    have q5 := P8W.cell
    have z5 := P8W.frozen
    have HQ := fun k sq d u ok er => putG_ok k sq d u ok er P6W P7W P8W
    have HHQ := Lib.hid HQ
    have HBE := Lib.hid (bequal_any _ _ _ _ x.2.key key W hk (((HKEY.out.below HFA.out).below HF1.out).below h3))
    have HK := Lib.hid hk
    have HU := Lib.hid hu
    have HX := Lib.hid hx
    have HRR := Lib.hid hr
    have HH1 := Lib.hid h1
    have HH3 := Lib.hid h3
    clear hrec hTs P4W P5W P6W P7W P8W HQ hk hu hx hr h1 h3 hbx hl hlA
    by_cases hkk : x.2.key = key
    · rw [decide_eq_true hkk] at HBE
      have HKK := Lib.hid hkk
      clear hkk
      by_cases hsq : x.2.seq ≤ s
      · have HSQ := Lib.hid hsq
        gi_wp2_with (refine ⟨trivial, rfl, ?_⟩; gi_at_call 27; refine (CallsIn.inRound l (callsIn_wide.2 HBE.out)).mono ?_; rintro r w' ⟨rfl, hw'⟩; have hw2 : W = w' := hw'; subst hw2)
        obtain ⟨g1, g2, g3, g4⟩ := HHQ.out (.slice Ak nk' ck') (.int .i64 x.2.seq) (.bool x.2.dead) (.slice Au nu cu) (.bool true) (.int .i64 0)
        obtain ⟨rest, hrr⟩ := HRR.out
        refine ⟨T3 _, fun i h => .inl h, Only.mono g4 fun i h => .inl h, rfl, rfl, Only.trans (Only.of_below HH3.out) g4, _, _, _, _, true, g1, g2, g3, ⟨_, _, _, rfl⟩, ⟨_, _, _, rfl⟩, ?_⟩
        rw [← hrr, getF_skip HH1.out, getF, if_pos HKK.out, if_pos HSQ.out]
        exact ⟨rfl, rfl, rfl, Byt.looseOnly HK.out g4 fun i hi => hi.2, Byt.looseOnly HU.out g4 fun i hi => hi.2⟩
      · have HSQ := Lib.hid hsq
        gi_wp2_with (refine ⟨trivial, rfl, ?_⟩; gi_at_call 27; refine (CallsIn.inRound l (callsIn_wide.2 HBE.out)).mono ?_; rintro r w' ⟨rfl, hw'⟩; have hw2 : W = w' := hw'; subst hw2)
        refine ⟨T3 _, fun i h => .inl h, Only.refl _ _, fun e he => ?_, rfl, HH3.out⟩
        rw [List.map_append, List.mem_append] at he
        rcases he with he | he
        · exact HH1.out e he
        · obtain rfl : e = x.2 := by simpa using he
          exact ⟨HKK.out, by have := HSQ.out; omega⟩
    · rw [decide_eq_false hkk] at HBE
      have HKK := Lib.hid hkk
      gi_wp2_with (refine ⟨trivial, rfl, ?_⟩; gi_at_call 27; refine (CallsIn.inRound l (callsIn_wide.2 HBE.out)).mono ?_; rintro r w' ⟨rfl, hw'⟩; have hw2 : W = w' := hw'; subst hw2)
      obtain ⟨g1, g2, g3, g4⟩ := HHQ.out (.slice none 0 0) (.int .i64 0) (.bool false) (.slice none 0 0) (.bool false) (.int .i64 0)
      obtain ⟨rest, hrr⟩ := HRR.out
      refine ⟨T3 _, fun i h => .inl h, Only.mono g4 fun i h => .inl h, rfl, rfl, Only.trans (Only.of_below HH3.out) g4, _, _, _, _, false, g1, g2, g3, ⟨_, _, _, rfl⟩, ⟨_, _, _, rfl⟩, ?_⟩
      rw [← hrr, getF_skip HH1.out, getF, if_neg HKK.out]
      exact ⟨rfl, rfl, rfl, rfl, rfl⟩
  case done =>
    rintro D' xs T W hD' hTs hxs ⟨h1, rfl, h3⟩ hK
    have P6W := fr.hp h3 (fr.hp HF1.out P6.out)
    have P7W := boxedFr (boxedFr P7.out HF1.out) h3
    have P8W := boxedFr (boxedFr P8.out HF1.out) h3
    have q0 := cell_of_row W _ 0 _ _ _ P6W
    have q1 := cell_of_row W _ 1 _ _ _ P6W
    have q2 := cell_of_row W _ 2 _ _ _ P6W
    have q3 := cell_of_row W _ 3 _ _ _ P6W
    have z0 := frozen_of_row W _ 0 _ _ P6W
    have z1 := frozen_of_row W _ 1 _ _ P6W
    have z2 := frozen_of_row W _ 2 _ _ P6W
    have z3 := frozen_of_row W _ 3 _ _ P6W
    have q4 := P7W.cell
    have z4 := P7W.frozen
    have q5 := P8W.cell
    have z5 := P8W.frozen
    have HQ := putG_ok (.slice none 0 0) (.int .i64 0) (.bool false) (.slice none 0 0) (.bool false) (.int .i64 0) P6W P7W P8W
    have HHQ := Lib.hid HQ
    have HH3 := Lib.hid h3
    have hgn : getF key s (fromE key es) = none := by rw [← hxs, ← List.append_nil (xs.map _), getF_skip h1]; rfl
    have HGN := Lib.hid hgn
    have HKD := Lib.hid hK
    clear P6W P7W P8W HQ h3 hTs hxs h1 hgn hK
    go_wp2
    obtain ⟨g1, g2, g3, g4⟩ := HHQ.out
    have hkd := (g4.block D' (Array.getElem?_eq_some_iff.1 HKD.out).1 (by rintro (h | h | h) <;> omega)).trans HKD.out
    obtain ⟨e1, e2, e3⟩ := HEND _ D' _ _ _ _ false hD' hkd g1 g2 g3 (Only.trans (Only.of_below HH3.out) g4) (by rw [HGN.out]; exact ⟨rfl, rfl, rfl, rfl, rfl⟩)
    obtain ⟨s0, s1, s2, s3, s4, s5⟩ := e1
    refine ⟨by simp, .inl ⟨_, _, rfl, run_takeDeferred hkd, ?_⟩⟩
    exact ⟨.tuple #[.agg #[.slice none 0 0, .int .i64 0, .bool false, .slice none 0 0], .bool false, .int .i64 0], by simp [results, Try.results9, go_sem, s0, s1, s2, s3, s4, s5], _, _, _, _, false, rfl, e2, e3⟩
  case stop =>
    rintro D' c xs T W hD' hTs _ ⟨rfl, rfl, h3, k, sq, d, u, ok, a1, a2, a3, ⟨Ax, nx, cx, rfl⟩, ⟨Ay, ny, cy, rfl⟩, a6⟩ hK
    obtain ⟨e1, e2, e3⟩ := HEND _ D' _ _ _ _ ok hD' hK a1 a2 a3 h3 a6
    obtain ⟨s0, s1, s2, s3, s4, s5⟩ := e1
    gi_wp2
    try go_wp2
    refine ⟨by simp, .inl ⟨_, _, rfl, run_takeDeferred hK, ?_⟩⟩
    exact ⟨.tuple #[.agg #[.slice Ax nx cx, sq, d, .slice Ay ny cy], .bool ok, .int .i64 0], by simp [results, Try.results9, go_sem, s0, s1, s2, s3, s4, s5], _, _, _, _, ok, rfl, e2, e3⟩
end Go.Proofs.Ytiffgjodbcploaa
end
section
namespace Go.Proofs.Ytiffgjodbcploaa
open Go.RowKit Go.BigFrame Go.Shelf
attribute [local go_sem ↓] Go.wp_at_zero Go.wp_at_succ
attribute [local go_sem] Oper.semAt_some
set_option maxRecDepth 100000 in
set_option maxHeartbeats 1000000 in
theorem count_nil (w : World) : Calls Try.prog 17 #[.pointer none] w fun r w' => r = .returned (.int .i64 0) ∧ fr w w' := by
  go_enter Try.func17, Try.ntmps17
  go_wp2
  go_ret
  exact ⟨rfl, fr.refl⟩
set_option maxRecDepth 100000 in
set_option maxHeartbeats 1000000 in
theorem count_any (S : Nat → Prop) (Tb N : Nat) (es : List Ent) (ps : List (List Ent)) (w : World) (h : TabS w S Tb N es ps) : Calls Try.prog 17 #[.pointer (some ⟨Tb, 0, none⟩)] w fun r w' => r = .returned (.int .i64 N) ∧ fr w w' := by
  obtain ⟨b, o, n, c, gp, pc, A, ll, lc, ys, h1, _⟩ := h
  have c2 := cell_of_row w Tb 2 _ _ _ h1
  clear h1
  go_enter Try.func17, Try.ntmps17
  go_wp2
  go_ret
  exact ⟨rfl, fr.refl⟩
set_option maxRecDepth 100000 in
set_option maxHeartbeats 1000000 in
theorem bounds_nil (w : World) : Calls Try.prog 15 #[.pointer none] w fun r w' => r = .returned (.tuple #[.slice none 0 0, .slice none 0 0]) ∧ fr w w' := by
  go_enter Try.func15, Try.ntmps15
  go_wp2
  refine bodyPost_ret (v := .tuple #[.slice none 0 0, .slice none 0 0]) (by simp [results, Try.results15, go_sem]) rfl ?_
  exact ⟨rfl, fr.refl⟩
set_option maxRecDepth 100000 in
set_option maxHeartbeats 1000000 in
theorem topen_nil (x : Value) (w : World) : Calls Try.prog 16 #[.pointer none, x] w fun r w' => r = .returned (.tuple #[.pointer none, .int .i64 1]) ∧ fr w w' := by
  go_enter Try.func16, Try.ntmps16
  go_wp2
  refine bodyPost_ret (v := .tuple #[.pointer none, .int .i64 1]) (by simp [results, Try.results16, go_sem]) rfl ?_
  exact ⟨rfl, fr.refl⟩
set_option maxRecDepth 100000 in
set_option maxHeartbeats 1000000 in
theorem write_nil (x v s : Value) (w : World) : Calls Try.prog 18 #[.pointer none, x, v, s] w fun r w' => r = .returned (.int .i64 1) ∧ fr w w' := by
  have b8 := Boxed.new w 35 (.int .i64 0)
  have hf8 : fr w (w.alloc (.cells #[.int .i64 0] 35)) := fr.alloc fr.refl _
  refine (callsIn_wide (n := 1)).1 ?_
  refine callsIn_of_wp_marks Try.func18 rfl trivial ?_
  simp only [Try.ntmps18, List.size_toArray, List.length_cons, List.length_nil, Nat.reduceAdd, Nat.reduceSub, Array.replicate_succ, Array.replicate_zero, List.push_toArray, List.append_toArray, List.nil_append, List.cons_append]
  refine wpIn_wide.2 ?_
  go_wp2
  have b9 := (Boxed.new w 35 (.int .i64 1)).cell
  exact ⟨.int .i64 1, by simp [results, Try.results18, go_sem, b9], rfl, fr.alloc fr.refl _⟩
set_option maxRecDepth 100000 in
set_option maxHeartbeats 1000000 in
theorem write_none (x : Value) (p size : Nat) (w : World) (hsz : 1 ≤ size ∧ size ≤ 1024) : Calls Try.prog 18 #[.pointer (some ⟨p, 0, none⟩), x, .slice none 0 0, .int .i64 size] w fun r w' => r = .returned (.int .i64 30) ∧ fr w w' := by
  obtain ⟨hsz1, hsz2⟩ := hsz
  have hb1 : decide ((size : Int) < 1) = false := by simp; omega
  have hb2 : decide ((1024 : Int) < (size : Int)) = false := by simp; omega
  refine (callsIn_wide (n := 1)).1 ?_
  refine callsIn_of_wp_marks Try.func18 rfl trivial ?_
  simp only [Try.ntmps18, List.size_toArray, List.length_cons, List.length_nil, Nat.reduceAdd, Nat.reduceSub, Array.replicate_succ, Array.replicate_zero, List.push_toArray, List.append_toArray, List.nil_append, List.cons_append]
  refine wpIn_wide.2 ?_
  go_wp2
  have b9 := (Boxed.new w 35 (.int .i64 30)).cell
  exact ⟨.int .i64 30, by simp [results, Try.results18, go_sem, b9], rfl, fr.alloc fr.refl _⟩
set_option maxRecDepth 100000 in
set_option maxHeartbeats 1000000 in
theorem write_twice (F : Nat → Prop) (p : Nat) (k : Pk) (x : Nm) (S0 : Nat → Prop) (g o N c size : Nat) (es : List Ent) (w : World) (hd : DiskP w F p k) (hv : Ents w S0 (.slice (some ⟨g, o, none⟩) N c) es) (hx : x.length ≤ 140737488355328) (hsz : 1 ≤ size ∧ size ≤ 1024) (hord : orderedE es = true) (hN0 : 0 < N) (hr : readyE k [x] = 0) :
    Calls Try.prog 18 #[.pointer (some ⟨p, 0, none⟩), .string ⟨x.toArray⟩, .slice (some ⟨g, o, none⟩) N c, .int .i64 size] w fun r w' => r = .returned (.int .i64 31) ∧ fr w w' := by
  obtain ⟨hsz1, hsz2⟩ := hsz
  have hb1 : decide ((size : Int) < 1) = false := by simp; omega
  have hb2 : decide ((1024 : Int) < (size : Int)) = false := by simp; omega
  have R0 : ∀ wx, fr w wx → Calls Try.prog 33 #[.slice (some ⟨g, o, none⟩) N c] wx fun r w' => r = .returned (.bool true) ∧ fr wx w' := fun wx hx => by
    refine (ordered_any S0 _ es wx (hv.below hx)).mono ?_
    rintro r w' ⟨rfl, h⟩
    rw [hord]
    exact ⟨rfl, h⟩
  have HR0 := Lib.hid R0
  have HR1 := Lib.hid (fun wx (hx : fr w wx) => read_any F p k x wx (hd.below hx) (by assumption))
  rw [hr] at HR1
  have b8 := Boxed.new w 35 (.int .i64 0)
  have hf8 : fr w (w.alloc (.cells #[.int .i64 0] 35)) := fr.alloc fr.refl _
  clear R0 hv hd hr
  refine (callsIn_wide (n := 1)).1 ?_
  refine callsIn_of_wp_marks Try.func18 rfl trivial ?_
  simp only [Try.ntmps18, List.size_toArray, List.length_cons, List.length_nil, Nat.reduceAdd, Nat.reduceSub, Array.replicate_succ, Array.replicate_zero, List.push_toArray, List.append_toArray, List.nil_append, List.cons_append]
  refine wpIn_wide.2 ?_
  go_wp2_with (first
    | (go_at_call 33; refine (HR0.out _ hf8).mono ?_; rintro r w1 ⟨rfl, f1⟩)
    | (go_at_call 30; refine (HR1.out _ (fr.step hf8 f1)).mono ?_; rintro r w2 ⟨v2, rfl, hv2, f2⟩; have h8 := boxedFr (boxedFr b8 f1) f2; have c8 := h8.cell; have z8 := h8.frozen; have HB8 := Lib.hid h8; have HF2 := Lib.hid (fr.step (fr.step hf8 f1) f2); clear hv2 h8 f2 b8 hf8))
  have h9 := (HB8.out.set (.int .i64 31)).cell
  have f := HF2.out
  exact ⟨.int .i64 31, by simp [results, Try.results18, go_sem, h9], rfl, f.os, f.tape, f.output, by have := f.size; simp [World.setCell]; omega, fun i hi => (Below.heap_setCell w2 ⟨w.heap.size, 0, none⟩ _ i (by show ¬ i = w.heap.size; omega)).trans (f.block i hi)⟩
end Go.Proofs.Ytiffgjodbcploaa
end
section
namespace Go.Proofs.Ytiffgjodbcploaa
open Go.RowKit Go.BigFrame Go.Shelf
attribute [local go_sem ↓] Go.wp_at_zero Go.wp_at_succ
/-- a calm disk; with one file. -/
def calm0 : Pk := ⟨[], -1, -1, [], 0, 0, false⟩
def calm1 (x : Nm) (b : List UInt8) : Pk := ⟨[⟨x, b, b.length⟩], -1, -1, [], 2, wrap64 b.length, false⟩
theorem calm_ready : readyE calm0 [[116]] = 22 := by decide
theorem calm_append (b : List UInt8) : appendE calm0 [116] b = 0 := by
  unfold appendE
  rw [calm_ready]
  rfl
theorem calm_appendK (b : List UInt8) : appendK calm0 [116] b = ⟨[⟨[116], b, 0⟩], -1, -1, [], 1, wrap64 b.length, false⟩ := by
  have h1 : crashes calm0 = false := by decide
  have h2 : fullP calm0 b.length = false := rfl
  have h3 : appFs [116] b calm0.fs = [⟨[116], b, 0⟩] := rfl
  unfold appendK
  have h4 : changeK calm0 = ⟨[], -1, -1, [], 1, 0, false⟩ := rfl
  rw [calm_ready, if_pos (.inr rfl), h2, h1, h3, h4]
  simp [calm0]
theorem calm_sync (b : List UInt8) : syncE (appendK calm0 [116] b) [116] = 0 ∧ syncK (appendK calm0 [116] b) [116] = calm1 [116] b := by
  rw [calm_appendK]
  have h1 : readyE ⟨[⟨[116], b, 0⟩], -1, -1, [], 1, wrap64 b.length, false⟩ [[116]] = 0 := rfl
  have h2 : crashes ⟨[⟨[116], b, 0⟩], -1, -1, [], 1, wrap64 b.length, false⟩ = false := rfl
  refine ⟨?_, ?_⟩
  · unfold syncE
    rw [if_pos h1]
    rfl
  · unfold syncK
    rw [if_pos h1, h2]
    rfl
theorem calm_ready1 (b : List UInt8) : readyE (calm1 [116] b) [[116]] = 0 := rfl
theorem calm_read1 (b : List UInt8) : readD (calm1 [116] b) [116] = b := rfl
/-- Write on a calm disk. -/
theorem write_calm (F : Nat → Prop) (p : Nat) (S0 : Nat → Prop) (g o N c size : Nat) (es : List Ent) (w : World) (h : DiskP w F p calm0) (hv : Ents w S0 (.slice (some ⟨g, o, none⟩) N c) es) (hN : es.length = N) (hS0 : ∀ i, S0 i → i < w.heap.size) (hsz : 1 ≤ size ∧ size ≤ 1024) (hord : orderedE es = true) (hN0 : 0 < N) (hN2 : N ≤ 16777216) (hB2 : bytesE es ≤ 16777216) :
    Calls Try.prog 18 #[.pointer (some ⟨p, 0, none⟩), .string ⟨#[116]⟩, .slice (some ⟨g, o, none⟩) N c, .int .i64 size] w fun r w' => ∃ ps, PartsOk es ps ∧ r = .returned (.int .i64 0) ∧ DiskP w' (orNew F w.heap.size) p (calm1 [116] (sealF (fileF N ps))) ∧ Only F w w' := by
  refine (write_ok F p calm0 [116] S0 g o N c size es w h hv hN hS0 (by simp) hsz hord ((ordered_iff es).1 hord).1 hN0 hN2 hB2 calm_ready (by decide) (by decide) (by decide)).mono ?_
  rintro r w' ⟨ps, hps, rfl, h', ho⟩
  obtain ⟨s1, s2⟩ := calm_sync (sealF (fileF N ps))
  rw [calm_append, if_pos rfl, s1]
  rw [calm_append, if_pos rfl, s2] at h'
  exact ⟨ps, hps, rfl, h', ho⟩
set_option maxRecDepth 100000 in
set_option maxHeartbeats 1000000 in
theorem calm_any (w : World) : Calls Try.prog 21 #[] w fun r w' => r = .returned (.agg #[.int .i64 (-1), .int .i64 (-1), .slice none 0 0]) ∧ fr w w' := by
  go_enter Try.func21, Try.ntmps21
  go_wp2
  have hb := heap_alloc_new w (.cells #[.int .i64 (-1), .int .i64 (-1), .slice none 0 0] 57)
  have c0 := cell_of_row _ _ 0 _ _ _ hb
  have c1 := cell_of_row _ _ 1 _ _ _ hb
  have c2 := cell_of_row _ _ 2 _ _ _ hb
  refine bodyPost_ret (v := .agg #[.int .i64 (-1), .int .i64 (-1), .slice none 0 0]) (by simp [results, Try.results21, go_sem, c0, c1, c2]) rfl ?_
  exact ⟨rfl, fr.alloc fr.refl _⟩
def tk1 : Ent := ⟨[98], 5, false, [120]⟩
def tk2 : Ent := ⟨[98], 3, false, []⟩
def tk3 : Ent := ⟨[99], 4, true, []⟩
theorem Byt.one {w : World} {S : Nat → Prop} {g c : Nat} {b : UInt8} {v : Value} (h : w.cell? ⟨g, 0, none⟩ = some v) (hv : v = bcell b) (hS : S g) (hc : 1 ≤ c) (hc' : c ≤ 9223372036854775807) : Byt w S (.slice (some ⟨g, 0, none⟩) 1 c) [b] := by
  subst hv
  refine ⟨_, _, rfl, hc, hc', by simp, ⟨by simp, fun _ => ⟨g, 0, rfl, hS, World.block_lt_of_cell? w _ h, fun j u hu => ?_⟩⟩⟩
  match j, hu with
  | 0, hu => simp at hu; subst hu; simpa using h
theorem cell_marked (w : World) (cs : Array Value) (t : TypeId) (fr : Nat × Nat) (g j : Nat) (hg : g = w.heap.size) : (w.alloc (.cells cs t fr)).cell? ⟨g, j, none⟩ = cs[j]? := by
  subst hg; exact cell_of_row _ _ j cs t fr (heap_alloc_new w _)
/-- the literal of three. -/
theorem tlit3 (w : World) (T : TypeId) (W : World) (sz : Nat) (hsz : sz = w.heap.size)
    (hW : W = (((((w.alloc (.cells #[.int .u8 98] T (1, 2))).alloc (.cells #[.int .u8 120] T (1, 2))).alloc (.cells #[.int .u8 98] T (1, 2))).alloc (.cells #[.int .u8 99] T (1, 2))).alloc
      (.cells #[.slice (some ⟨sz, 0, none⟩) 1 1, .int .i64 5, .bool false, .slice (some ⟨sz + 1, 0, none⟩) 1 1, .slice (some ⟨sz + 1 + 1, 0, none⟩) 1 1, .int .i64 3, .bool false, .slice none 0 0, .slice (some ⟨sz + 1 + 1 + 1, 0, none⟩) 1 1, .int .i64 4, .bool true, .slice none 0 0] 34))) :
    Ents W (fun i => w.heap.size ≤ i ∧ i < W.heap.size) (.slice (some ⟨sz + 1 + 1 + 1 + 1, 0, none⟩) 3 3) [tk1, tk2, tk3] ∧ Below w.heap.size w W := by
  subst hW hsz
  have hb : Below w.heap.size w (((((w.alloc (.cells #[.int .u8 98] T (1, 2))).alloc (.cells #[.int .u8 120] T (1, 2))).alloc (.cells #[.int .u8 98] T (1, 2))).alloc (.cells #[.int .u8 99] T (1, 2))).alloc
      (.cells #[.slice (some ⟨w.heap.size, 0, none⟩) 1 1, .int .i64 5, .bool false, .slice (some ⟨w.heap.size + 1, 0, none⟩) 1 1, .slice (some ⟨w.heap.size + 1 + 1, 0, none⟩) 1 1, .int .i64 3, .bool false, .slice none 0 0, .slice (some ⟨w.heap.size + 1 + 1 + 1, 0, none⟩) 1 1, .int .i64 4, .bool true, .slice none 0 0] 34)) :=
    (((((Below.refl _ _).alloc (Nat.le_refl _) _).alloc (by simp) _).alloc (by simp; omega) _).alloc (by simp; omega) _).alloc (by simp; omega) _
  refine ⟨?_, hb⟩
  refine ⟨_, _, [.slice (some ⟨w.heap.size, 0, none⟩) 1 1, .int .i64 5, .bool false, .slice (some ⟨w.heap.size + 1, 0, none⟩) 1 1, .slice (some ⟨w.heap.size + 1 + 1, 0, none⟩) 1 1, .int .i64 3, .bool false, .slice none 0 0, .slice (some ⟨w.heap.size + 1 + 1 + 1, 0, none⟩) 1 1, .int .i64 4, .bool true, .slice none 0 0], rfl, by simp, by simp, by simp, ⟨by simp, fun _ => ⟨_, 0, rfl, ⟨by first | omega | (simp; done) | (simp; omega), by first | (simp; done) | (simp; omega)⟩, by simp, fun j u hu => ?_⟩⟩, ?_⟩
  · rw [World.cell?_alloc_at _ _ _ _ (by simp)]
    simpa using hu
  · refine ⟨rfl, rfl, Byt.one (v := .int .u8 98) ?_ rfl ⟨by first | omega | (simp; done) | (simp; omega), by first | (simp; done) | (simp; omega)⟩ (by omega) (by omega), Byt.one (v := .int .u8 120) ?_ rfl ⟨by first | omega | (simp; done) | (simp; omega), by first | (simp; done) | (simp; omega)⟩ (by omega) (by omega), rfl, rfl, Byt.one (v := .int .u8 98) ?_ rfl ⟨by first | omega | (simp; done) | (simp; omega), by first | (simp; done) | (simp; omega)⟩ (by omega) (by omega), Byt.nil _ _, rfl, rfl, Byt.one (v := .int .u8 99) ?_ rfl ⟨by first | omega | (simp; done) | (simp; omega), by first | (simp; done) | (simp; omega)⟩ (by omega) (by omega), Byt.nil _ _, trivial⟩
    · exact Lib.cell?_alloc_marked _ (Lib.cell?_alloc_marked _ (Lib.cell?_alloc_marked _ (Lib.cell?_alloc_marked _ (cell_marked _ _ _ _ _ _ rfl))))
    · exact Lib.cell?_alloc_marked _ (Lib.cell?_alloc_marked _ (Lib.cell?_alloc_marked _ (cell_marked _ _ _ _ _ _ (by simp))))
    · exact Lib.cell?_alloc_marked _ (Lib.cell?_alloc_marked _ (cell_marked _ _ _ _ _ _ (by simp)))
    · exact Lib.cell?_alloc_marked _ (cell_marked _ _ _ _ _ _ (by simp))
end Go.Proofs.Ytiffgjodbcploaa
end
section
namespace Go.Proofs.Ytiffgjodbcploaa
open Go.RowKit Go.BigFrame Go.Shelf
attribute [local go_sem ↓] Go.wp_at_zero Go.wp_at_succ
theorem tfrom_lit {w : World} {sz : Nat} (hsz : sz = w.heap.size) {Q : World → Prop} (h : ∀ W, Hid (Ents W (fun i => w.heap.size ≤ i ∧ i < W.heap.size) (.slice (some ⟨sz + 1 + 1 + 1 + 1, 0, none⟩) 3 3) [tk1, tk2, tk3]) → Hid (Below w.heap.size w W) → Q W) :
    Q (((((w.alloc (.cells #[.int .u8 98] 5 (1, 2))).alloc (.cells #[.int .u8 120] 5 (1, 2))).alloc (.cells #[.int .u8 98] 5 (1, 2))).alloc (.cells #[.int .u8 99] 5 (1, 2))).alloc
      (.cells #[.slice (some ⟨sz, 0, none⟩) 1 1, .int .i64 5, .bool false, .slice (some ⟨sz + 1, 0, none⟩) 1 1, .slice (some ⟨sz + 1 + 1, 0, none⟩) 1 1, .int .i64 3, .bool false, .slice none 0 0, .slice (some ⟨sz + 1 + 1 + 1, 0, none⟩) 1 1, .int .i64 4, .bool true, .slice none 0 0] 34)) :=
  h _ (Lib.hid (tlit3 w 5 _ sz hsz rfl).1) (Lib.hid (tlit3 w 5 _ sz hsz rfl).2)
theorem tk_ord : orderedE [tk1, tk2, tk3] = true := by decide
theorem tk_bytes : bytesE [tk1, tk2, tk3] ≤ 16777216 := by decide
theorem tk_get : getF [98] 4 (fromE [98] [tk1, tk2, tk3]) = some tk2 := by decide
set_option maxRecDepth 100000 in
set_option maxHeartbeats 4000000 in
theorem twakes_any (w : World) : Calls Try.prog 6 #[] w fun r w' => r = .returned (.bool true) ∧ Below w.heap.size w w' := by
  have kc : ∀ (W : World) (C : Array Value) (n c g : Nat), g = W.heap.size → (convert 23 23 (.slice (some ⟨g, 0, none⟩) n c)).run Try.prog (W.alloc (.cells C 5)) = .ok (.slice (some ⟨g, 0, none⟩) n c) (W.alloc (.cells C 5 (C.size, C.size + 1))) := fun W C n c g hg => hg ▸ Lib.run_convert_bytes_const (P := Try.prog) W 23 5 C n c Try.underlying23 Try.underlying5
  go_enter Try.func6, Try.ntmps6
  go_wp2_with (fail)
  refine (calm_any _).mono ?_
  rintro r w0 ⟨rfl, f0⟩
  have HF0 := Lib.hid f0
  clear f0
  go_wp2_with (fail)
  refine (new_dk (fun _ => True) (-1) (-1) _ [] w0 (IntsIn.nil _ _) (by simp) w.heap.size HF0.out.size).mono ?_
  rintro r w1 ⟨p, rfl, h1, hb1⟩
  obtain ⟨F, h1, hF⟩ := h1
  have H1 := Lib.hid (h1 : DiskP w1 F p calm0)
  have HFF := Lib.hid hF
  have HB1 := Lib.hid (HF0.out.trans (hb1.mono HF0.out.size))
  clear h1 hb1 hF
  go_wp2_with (fail)
  refine tfrom_lit (w := w1) (sz := w1.heap.size) rfl (Q := fun W => Calls Try.prog 18 #[.pointer (some ⟨p, 0, none⟩), .string ⟨#[116]⟩, .slice (some ⟨w1.heap.size + 1 + 1 + 1 + 1, 0, none⟩) 3 3, .int .i64 2] W _) ?_
  intro W HA HB
  obtain ⟨g, hg⟩ : ∃ g, w1.heap.size + 1 + 1 + 1 + 1 = g := ⟨_, rfl⟩
  rw [hg] at HA ⊢
  clear hg
  have HBW := Lib.hid (HB1.out.trans (HB.out.mono HB1.out.size))
  refine (write_calm F p _ g 0 3 3 2 _ W (H1.out.below HB.out) HA.out rfl (fun i h => h.2) (by omega) tk_ord (by omega) (by omega) tk_bytes).mono ?_
  rintro r w2 ⟨ps, hps, rfl, h2, o2⟩
  have HPS := Lib.hid hps
  have H2 := Lib.hid h2
  have HB2 := Lib.hid (HBW.out.trans (o2.below HBW.out.size fun i hi => (HFF.out i hi).1))
  have HA2 := Lib.hid (HA.out.only o2 fun i _ hi h => by have := (HFF.out i h).2; omega)
  have h2z := o2.size
  clear hps h2 o2
  go_wp2_with (fail)
  refine (write_twice _ p _ [116] _ g 0 3 3 2 _ w2 H2.out HA2.out (by simp) (by omega) tk_ord (by omega) (calm_ready1 _)).mono ?_
  rintro r w3 ⟨rfl, f3⟩
  have HF3 := Lib.hid f3
  have HB3 := Lib.hid (HB2.out.trans (f3.mono HB2.out.size))
  clear f3
  go_wp2_with (fail)
  refine (write_none _ p 2 w3 (by omega)).mono ?_
  rintro r w4 ⟨rfl, f4⟩
  have HF4 := Lib.hid f4
  have HB4 := Lib.hid (HB3.out.trans (f4.mono HB3.out.size))
  clear f4
  go_wp2_with (fail)
  refine (open_ok _ p _ [116] 3 [tk1, tk2, tk3] ps w4 ((H2.out.below HF3.out).below HF4.out) (by simp) (calm_ready1 _) (calm_read1 _) HPS.out rfl (by omega) (by omega) tk_bytes tk_ord).mono ?_
  rintro r w5 ⟨Tb, rfl, hT, f5⟩
  have hps0 : 0 < ps.length := by
    rcases Nat.eq_zero_or_pos ps.length with h | h
    · have h1 := HPS.out.all
      rw [List.eq_nil_of_length_eq_zero h] at h1
      simp at h1
    · exact h
  have HT := Lib.hid (hT.set hps0)
  have HB5 := Lib.hid (HB4.out.trans (f5.mono HB4.out.size))
  clear f5 hT hps0
  go_wp2_with (fail)
  have hby : Byt (w5.alloc (.cells #[.int .u8 98] 5 (1, 2))) (fun i => i = w5.heap.size) (.slice (some ⟨w5.heap.size, 0, none⟩) 1 1) [98] := Byt.one (v := .int .u8 98) (cell_marked _ _ _ _ _ _ rfl) rfl rfl (by omega) (by omega)
  have hbA : Below w5.heap.size w5 (w5.alloc (.cells #[.int .u8 98] 5 (1, 2))) := (Below.refl _ _).alloc (Nat.le_refl _) _
  refine (tget_any Tb 3 1 1 _ 4 _ _ [98] [tk1, tk2, tk3] ps _ hby (HT.out.fr hbA) HPS.out rfl (by omega) (by omega) tk_bytes tk_ord (by rintro i (h | h); (have := hbA.size; have := h.2; omega); (subst h; simp))).mono ?_
  rw [tk_get]
  rintro r w6 ⟨k, sq, d, u, ok, rfl, ⟨rfl, rfl, rfl, hk, hu⟩, f6⟩
  obtain ⟨Ak, ck, rfl⟩ := slice_form hk
  obtain ⟨Au, cu, rfl⟩ := slice_form hu
  have HT6 := Lib.hid ((HT.out.fr hbA).fr f6)
  have HB6 := Lib.hid ((HB5.out.trans (hbA.mono HB5.out.size)).trans (Below.mono f6 (by have := HB5.out.size; simp; omega)))
  clear hk hu hby hbA f6 kc
  go_wp2_with (go_at_call 17; refine (count_any _ Tb 3 _ ps _ (HT6.out.fr (fr.alloc fr.refl _))).mono ?_; rintro r w7 ⟨rfl, f7⟩)
  refine bodyPost_ret (v := .bool true) (by simp [results, Try.results6, go_sem]) rfl ?_
  have ha := HB6.out.alloc HB6.out.size (.cells #[.slice Ak tk2.key.length ck, .int .i64 tk2.seq, .bool tk2.dead, .slice Au tk2.val.length cu] 34)
  exact ⟨rfl, ha.trans (Below.mono f7 ha.size)⟩
end Go.Proofs.Ytiffgjodbcploaa
end
section
namespace Go.Proofs.Ytiffgjodbcploaa
open Go.RowKit Go.BigFrame Go.Shelf
attribute [local go_sem ↓] Go.wp_at_zero Go.wp_at_succ
attribute [local go_sem] Oper.semAt_some
abbrev zeroE : Value := .agg #[.slice none 0 0, .int .i64 0, .bool false, .slice none 0 0]
set_option maxRecDepth 100000 in
set_option maxHeartbeats 1000000 in
theorem tget_nil (A : Option Addr) (nk ck : Nat) (s : Int) (w : World) : Calls Try.prog 9 #[.pointer none, .slice A nk ck, .int .i64 s] w fun r w' => r = .returned (.tuple #[zeroE, .bool false, .int .i64 1]) ∧ fr w w' := by
  refine (callsIn_wide (n := 1)).1 ?_
  refine callsIn_of_wp_marks Try.func9 rfl trivial ?_
  simp only [Try.ntmps9, List.size_toArray, List.length_cons, List.length_nil, Nat.reduceAdd, Nat.reduceSub, Array.replicate_succ, Array.replicate_zero, List.push_toArray, List.append_toArray, List.nil_append, List.cons_append]
  refine wpIn_wide.2 ?_
  go_wp2
  have p6 := fr.hp (fr.alloc (fr.alloc fr.refl _) _) (heap_alloc_new ((w.alloc (.cells #[.slice A nk ck] 23)).alloc (.cells #[.int .i64 s] 3)) (.cells #[.slice none 0 0, .int .i64 0, .bool false, .slice none 0 0] 34)) (w' := ((((w.alloc (.cells #[.slice A nk ck] 23)).alloc (.cells #[.int .i64 s] 3)).alloc (.cells #[.slice none 0 0, .int .i64 0, .bool false, .slice none 0 0] 34)).alloc (.cells #[.bool false] 4)).alloc (.cells #[.int .i64 1] 35))
  have p7 := ((Boxed.new (((w.alloc (.cells #[.slice A nk ck] 23)).alloc (.cells #[.int .i64 s] 3)).alloc (.cells #[.slice none 0 0, .int .i64 0, .bool false, .slice none 0 0] 34)) 4 (.bool false)).alloc (.cells #[.int .i64 1] 35)).cell
  have p8 := (Boxed.new ((((w.alloc (.cells #[.slice A nk ck] 23)).alloc (.cells #[.int .i64 s] 3)).alloc (.cells #[.slice none 0 0, .int .i64 0, .bool false, .slice none 0 0] 34)).alloc (.cells #[.bool false] 4)) 35 (.int .i64 1)).cell
  simp only [World.size_alloc] at p6 p7 p8
  have q0 := cell_of_row _ _ 0 _ _ _ p6
  have q1 := cell_of_row _ _ 1 _ _ _ p6
  have q2 := cell_of_row _ _ 2 _ _ _ p6
  have q3 := cell_of_row _ _ 3 _ _ _ p6
  exact ⟨.tuple #[zeroE, .bool false, .int .i64 1], by simp [results, Try.results9, go_sem, q0, q1, q2, q3, p7, p8], rfl, fr.alloc (fr.alloc (fr.alloc (fr.alloc (fr.alloc fr.refl _) _) _) _) _⟩
set_option maxRecDepth 100000 in
set_option maxHeartbeats 1000000 in
theorem entries_nil (w : World) : Calls Try.prog 22 #[.pointer none, .slice none 0 0, .slice none 0 0] w fun r w' => r = .returned (.func (.func 43) #[] #[]) ∧ fr w w' := by
  go_enter Try.func22, Try.ntmps22
  go_wp2
  go_ret
  exact ⟨rfl, fr.alloc (fr.alloc (fr.alloc fr.refl _) _) _⟩
set_option maxRecDepth 100000 in
set_option maxHeartbeats 1000000 in
theorem nil_tells (nn : Nat) (w : World) : Tells Fence.wide nn Try.prog 43 #[] (fun _ : Unit => #[zeroE, .int .i64 1]) (fun pre _ _ _ => pre = []) (fun xs _ => xs.length = 1) (fun _ _ => True) (fun _ => False) (fun _ => False) w := by
  intro l J Jx T0 W hW hT0 hJ hJx hJT hY h0
  refine callsIn_wide.2 ?_
  obtain ⟨fn, tmps, assign, body, hy, hR⟩ := hY [] T0 () W h0 rfl
  dsimp only at hy
  have HR := Lib.hid hR
  clear hW hT0 hJ hJx hJT hY h0 hR
  go_enter Try.func43, Try.ntmps43
  refine (wpIn_wide (n := nn)).1 ?_
  gi_wp2
  refine ⟨fun h => absurd h (by decide), HR.out.mono ?_⟩
  rintro e w6 ⟨T6, gT, oT, (⟨rfl, hj6⟩ | ⟨rfl, hj6⟩)⟩
  · have HJ6 := Lib.hid hj6
    clear hy hj6 gT oT
    gi_wp2
    go_wp2
    go_end0
    exact ⟨⟨_, rfl⟩, .inl ⟨[()], T6, rfl, HJ6.out⟩⟩
  · have HJ6 := Lib.hid hj6
    clear hy hj6 gT oT
    gi_wp2
    go_wp2
    go_end0
    exact ⟨⟨_, rfl⟩, .inr ⟨[()], T6, trivial, HJ6.out⟩⟩
abbrev nFrame (z Bx : Nat) : Array Value :=
  #[.pointer none, .slice none 0 0, .slice none 0 0, undef, undef, undef, .pointer (some ⟨z, 0, none⟩), .pointer (some ⟨z + 1, 0, none⟩), .pointer (some ⟨z + 1 + 1, 0, none⟩), .pointer (some ⟨Bx, 0, none⟩), .int .i64 1, .pointer none, .slice none 0 0, .slice none 0 0, .func (.func 43) #[] #[], zeroE, .int .i64 1, undef, undef, undef, undef, undef, undef, undef, undef, undef]
abbrev T2 (R : Nat) (i : Nat) : Prop := i = R ∨ i = R + 1
set_option maxRecDepth 100000 in
set_option maxHeartbeats 4000000 in
theorem tall_nil (w : World) : Calls Try.prog 11 #[.pointer none, .slice none 0 0, .slice none 0 0] w fun r w' => r = .returned (.tuple #[.slice none 0 0, .int .i64 1]) ∧ fr w w' := by
  have p6 := ((Boxed.new w 22 (.slice none 0 0)).alloc (.cells #[.int .i64 0] 35)).alloc (.cells #[.slice none 0 0] 22)
  have p7 := (Boxed.new (w.alloc (.cells #[.slice none 0 0] 22)) 35 (.int .i64 0)).alloc (.cells #[.slice none 0 0] 22)
  have p8 := Boxed.new ((w.alloc (.cells #[.slice none 0 0] 22)).alloc (.cells #[.int .i64 0] 35)) 22 (.slice none 0 0)
  simp only [World.size_alloc] at p7 p8
  have fA : fr w (((w.alloc (.cells #[.slice none 0 0] 22)).alloc (.cells #[.int .i64 0] 35)).alloc (.cells #[.slice none 0 0] 22)) := fr.alloc (fr.alloc (fr.alloc fr.refl _) _) _
  refine (callsIn_wide (n := 1)).1 ?_
  refine callsIn_of_wp_marks Try.func11 rfl trivial ?_
  simp only [Try.ntmps11, List.size_toArray, List.length_cons, List.length_nil, Nat.reduceAdd, Nat.reduceSub, Array.replicate_succ, Array.replicate_zero, List.push_toArray, List.append_toArray, List.nil_append, List.cons_append]
  refine wpIn_wide.2 ?_
  go_wp2_with (go_at_call 22; refine (entries_nil _).mono ?_; rintro r w1 ⟨rfl, f1⟩)
  have P6 := Lib.hid (boxedFr p6 f1)
  have P7 := Lib.hid (boxedFr p7 f1)
  have P8 := Lib.hid (boxedFr p8 f1)
  have HF1 := Lib.hid (fr.step fA f1)
  have hz3 := (boxedFr p8 f1).lt
  clear p6 p7 p8 fA f1
  refine (wpIn_wide (n := 1)).1 ?_
  refine range_tells rfl (by omega) (gf := 43) (lb := #[]) rfl trivial (enters_of Try.func43 (by kernel_rfl) rfl) (nil_tells 0 w1)
    (fun i h => h.elim) (fun i h => h.elim) (fun pre T T' x A hT h => h) (fun _ _ _ h _ => h) (fun _ _ _ h _ => h) (fun _ => rfl)
    (fun pre T W => pre = [] ∧ T = T2 w.heap.size ∧ fr w1 W) (fun c pre T W => c = .ret ∧ T = T2 w.heap.size ∧ Only (T2 w.heap.size) w1 W ∧ Boxed W w.heap.size 22 (.slice none 0 0) ∧ Boxed W (w.heap.size + 1) 35 (.int .i64 1)) ?still ?stillX (T2 w.heap.size) (fun i hi => ⟨by rcases hi with rfl | rfl <;> omega, fun h => h⟩) ⟨rfl, rfl, fr.refl⟩
    (fun pre T x a W => ∃ Bx, a = { tmps := nFrame w.heap.size Bx, defers := [] }) (fun _ _ _ _ _ _ h _ => h) ?assign ?body ?done ?stop ?lt ?ltx
  case assign =>
    rintro l pre T x W K hi' hok hK
    obtain ⟨h1, h2, h3⟩ := hi'
    gi_wp2
    exact hK _ _ (fr.alloc fr.refl _) ⟨h1, h2, fr.alloc h3 _⟩ ⟨_, rfl⟩
  case still =>
    rintro pre T A B ⟨h1, h2, h3⟩ hi
    exact ⟨h1, h2, hi.os.trans h3.os, hi.tape.trans h3.tape, hi.output.trans h3.output, Nat.le_trans h3.size hi.size, fun i hlt => (hi.block i (Nat.lt_of_lt_of_le hlt h3.size) fun hk => by rcases hk with hk | hk; exact hk; omega).trans (h3.block i hlt)⟩
  case stillX =>
    rintro c pre T A B ⟨h1, h2, h3, a1, a2⟩ hi
    exact ⟨h1, h2, ⟨hi.os.trans h3.os, hi.tape.trans h3.tape, hi.output.trans h3.output, Nat.le_trans h3.size hi.size, fun i hlt hn => (hi.block i (Nat.lt_of_lt_of_le hlt h3.size) fun hk => by rcases hk with hk | hk; exact hk; omega).trans (h3.block i hlt hn)⟩, hi.cells (fun h => h) a1 rfl, hi.cells (fun h => h) a2 rfl⟩
  case lt =>
    rintro pre T W i ⟨h1, rfl, h3⟩ hT
    have := h3.size
    rcases hT with rfl | rfl <;> omega
  case ltx =>
    rintro c pre T W i ⟨h1, rfl, h3, _⟩ hT
    have := h3.size
    rcases hT with rfl | rfl <;> omega
  case body =>
    rintro l pre T x a' sA W hl hlA hrec hTs hsA ⟨rfl, rfl, h3⟩ ⟨Bx, rfl⟩
    have Q6 := boxedFr P6.out h3
    have Q7 := boxedFr P7.out h3
    have c6 := Q6.cell
    have z6 := Q6.frozen
    have c7 := Q7.cell
    have z7 := Q7.frozen
    have c8 := (boxedFr P8.out h3).cell
    have HQ6 := Lib.hid Q6
    have HQ7 := Lib.hid Q7
    have HH3 := Lib.hid h3
    clear hrec hTs hl hlA Q6 Q7 h3
    gi_wp2
    have o2 : Only (T2 w.heap.size) W ((W.setCell ⟨w.heap.size, 0, none⟩ (.slice none 0 0)).setCell ⟨w.heap.size + 1, 0, none⟩ (.int .i64 1)) := Only.setCell (S := T2 w.heap.size) (Only.setCell (S := T2 w.heap.size) (Only.refl _ _) (p := ⟨w.heap.size, 0, none⟩) (.inl rfl) _) (p := ⟨w.heap.size + 1, 0, none⟩) (.inr rfl) _
    exact ⟨T2 _, fun i h => .inl h, Only.mono o2 fun i h => .inl h, rfl, rfl, Only.trans (Only.of_below HH3.out) o2, (HQ6.out.set _).other (by omega) _, (HQ7.out.other (by omega) _).set _⟩
  case done =>
    rintro D' xs T W hD' hTs hxs ⟨rfl, rfl, h3⟩ hK
    simp at hxs
  case stop =>
    rintro D' c xs T W hD' hTs _ ⟨rfl, rfl, h3, a1, a2⟩ hK
    have o4 : Only (fun i => i = D') W (W.putObj D' (.deferred none)) := ⟨rfl, rfl, rfl, by simp, fun i _ hi => World.putObj_heap_other hi⟩
    have s0 := (boxedOnly a1 o4 (by omega)).cell
    have s1 := (boxedOnly a2 o4 (by omega)).cell
    gi_wp2
    refine ⟨by simp, .inl ⟨_, _, rfl, run_takeDeferred hK, ?_⟩⟩
    have h0 := HF1.out
    have o5 := Only.trans (Only.mono h3 fun i h => (Or.inl h : T2 w.heap.size i ∨ i = D')) (Only.mono o4 fun i h => Or.inr h)
    exact ⟨.tuple #[.slice none 0 0, .int .i64 1], by simp [results, Try.results11, go_sem, s0, s1], rfl, o5.os.trans h0.os, o5.tape.trans h0.tape, o5.output.trans h0.output, Nat.le_trans h0.size o5.size, fun i hi => (o5.block i (by have := h0.size; omega) (by rintro ((h | h) | h) <;> omega)).trans (h0.block i hi)⟩
end Go.Proofs.Ytiffgjodbcploaa
end
