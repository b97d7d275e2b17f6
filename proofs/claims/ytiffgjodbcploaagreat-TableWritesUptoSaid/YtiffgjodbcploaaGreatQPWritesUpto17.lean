/-
ref07's Name, find.
-/
import Derived.Test.YtiffgjodbcploaaGreatQPWritesUpto16
import Derived.Test.YtiffgjodbcploaaGreatQPWritesUpto15
import Derived.Test.YtiffgjodbcploaaGreatQPWritesUpto13
import Derived.Test.YtiffgjodbcploaaGreatQPWritesUpto5
import Derived.Test.YtiffgjodbcploaaGreatQPWritesUpto11
import Derived.Sort.Walk0
section
namespace Go.Proofs.YtiffgjodbcploaaGreat
set_option maxRecDepth 100000
open Go.RowKit Go.BigFrame Go.Shelf
attribute [local go_sem ↓] Go.wp_at_zero Go.wp_at_succ
attribute [local go_sem] Oper.semAt_some
theorem round_in {F : Fence} (hd : F.depth = none) (l' : Nat) {m m' : Nat} {P : Program} {l : Nat} {f : FuncId} {tmps : Array Value} {assign body : Code} {w : World} {R : Ending → World → Prop}
    (h : RoundIn F m P l f tmps assign body w R) : RoundIn (F.inRound l') m' P l f tmps assign body w R := ⟨h.1, fun c cs _ => h.2 c cs (fun d e => by rw [hd] at e; cases e)⟩
/-- is an entry below the range's end? -/
def below (hi : List UInt8) (e : Ent) : Bool := decide (hi = []) || decide (cmpB e.key hi < 0)
def rangeE (lo hi : List UInt8) (es : List Ent) : List Ent := (fromE lo es).filter (below hi)
theorem range_here {lo hi : List UInt8} {es pre rest : List Ent} {e : Ent} (h : pre ++ e :: rest = fromE lo es) (hp : ∀ x ∈ pre, below hi x = true) (he : below hi e = true) : ∃ rest', pre ++ e :: rest' = rangeE lo hi es := by
  refine ⟨rest.filter (below hi), ?_⟩
  unfold rangeE
  rw [← h, List.filter_append, List.filter_cons_of_pos he, List.filter_eq_self.2 hp]
theorem range_stop {lo hi : List UInt8} {es pre rest : List Ent} {e : Ent} (h : pre ++ e :: rest = fromE lo es) (hpw : es.Pairwise before) (hp : ∀ x ∈ pre, below hi x = true) (he : below hi e = false) : pre = rangeE lo hi es := by
  unfold rangeE
  have hpf : (fromE lo es).Pairwise before := List.Pairwise.sublist List.filter_sublist hpw
  rw [← h] at hpf ⊢
  have h2 := (List.pairwise_append.1 hpf).2.1
  rw [List.filter_append, List.filter_eq_self.2 hp]
  have h3 : (e :: rest).filter (below hi) = [] := by
    refine List.filter_eq_nil_iff.2 fun a ha => ?_
    unfold below at he ⊢
    simp only [Bool.or_eq_true, decide_eq_true_eq, Bool.or_eq_false_iff, decide_eq_false_iff_not] at he ⊢
    rcases List.mem_cons.1 ha with rfl | ha
    · exact fun h => h.elim he.1 he.2
    · have h4 := (List.pairwise_cons.1 h2).1 a ha
      rintro (h5 | h5)
      · exact he.1 h5
      · unfold before cmpE at h4
        split at h4
        · rename_i h0
          rw [← cmpB_eq.1 h0] at h5
          exact he.2 h5
        · exact he.2 (cmpB_trans h4 h5)
  rw [h3, List.append_nil]
theorem range_all {lo hi : List UInt8} {es pre : List Ent} (h : pre = fromE lo es) (hp : ∀ x ∈ pre, below hi x = true) : pre = rangeE lo hi es := by
  unfold rangeE
  rw [← h, List.filter_eq_self.2 hp]
theorem range_len {lo hi : List UInt8} {es : List Ent} : (rangeE lo hi es).length ≤ es.length := Nat.le_trans (List.length_filter_le _ _) (List.length_filter_le _ _)
/-- what Entries's function stands on. -/
structure EntK (w : World) (z Tb N nl cl nh ch : Nat) (Al Ah : Option Addr) (S0 S1 S2 : Nat → Prop) (lo hi : List UInt8) (es : List Ent) (ps : List (List Ent)) : Prop where
  b0 : Boxed w z 37 (.pointer (some ⟨Tb, 0, none⟩))
  b1 : Boxed w (z + 1) 42 (.slice Al nl cl)
  b2 : Boxed w (z + 1 + 1) 42 (.slice Ah nh ch)
  lo_ : Byt w S1 (.slice Al nl cl) lo
  hi_ : Byt w S2 (.slice Ah nh ch) hi
  tab : TabS w S0 Tb N es ps
abbrev entD (z : Nat) (S0 S1 S2 : Nat → Prop) (i : Nat) : Prop := i = z ∨ i = z + 1 ∨ i = z + 1 + 1 ∨ S0 i ∨ S1 i ∨ S2 i
section
variable {w w' : World} {z Tb N nl cl nh ch : Nat} {Al Ah : Option Addr} {S0 S1 S2 : Nat → Prop} {lo hi : List UInt8} {es : List Ent} {ps : List (List Ent)}
theorem EntK.only {T : Nat → Prop} (h : EntK w z Tb N nl cl nh ch Al Ah S0 S1 S2 lo hi es ps) (ho : Only T w w') (hT : ∀ i, T i → ¬ entD z S0 S1 S2 i) : EntK w' z Tb N nl cl nh ch Al Ah S0 S1 S2 lo hi es ps :=
  ⟨boxedOnly h.b0 ho fun t => hT _ t (.inl rfl), boxedOnly h.b1 ho fun t => hT _ t (.inr (.inl rfl)), boxedOnly h.b2 ho fun t => hT _ t (.inr (.inr (.inl rfl))), h.lo_.only ho fun i _ hi t => hT i t (.inr (.inr (.inr (.inr (.inl hi))))),
   h.hi_.only ho fun i _ hi t => hT i t (.inr (.inr (.inr (.inr (.inr hi))))), h.tab.only ho fun i hi t => hT i t (.inr (.inr (.inr (.inl hi))))⟩
theorem EntK.fr (h : EntK w z Tb N nl cl nh ch Al Ah S0 S1 S2 lo hi es ps) (hf : fr w w') : EntK w' z Tb N nl cl nh ch Al Ah S0 S1 S2 lo hi es ps := h.only (T := fun _ => False) (Only.of_below hf) fun _ h => h.elim
end
/-- between rounds: the box of yield and the range's end. -/
def EntY (yb z l nh ch : Nat) (Ah : Option Addr) (S2 : Nat → Prop) (hi : List UInt8) (W : World) : Prop :=
  Boxed W yb 128 (.func (.yield l) #[] #[]) ∧ Boxed W (z + 1 + 1) 42 (.slice Ah nh ch) ∧ Byt W S2 (.slice Ah nh ch) hi
theorem EntY.only {yb z l nh ch : Nat} {Ah : Option Addr} {S2 T : Nat → Prop} {hi : List UInt8} {W W' : World} (h : EntY yb z l nh ch Ah S2 hi W) (ho : Only T W W') (hT : ∀ i, T i → ¬ (i = yb ∨ i = z + 1 + 1 ∨ S2 i)) : EntY yb z l nh ch Ah S2 hi W' :=
  ⟨boxedOnly h.1 ho fun t => hT _ t (.inl rfl), boxedOnly h.2.1 ho fun t => hT _ t (.inr (.inl rfl)), h.2.2.only ho fun i _ hi t => hT i t (.inr (.inr hi))⟩
theorem EntY.idle {yb z l nh ch B : Nat} {Ah : Option Addr} {S2 : Nat → Prop} {hi : List UInt8} {W W' : World} (h : EntY yb z l nh ch Ah S2 hi W) (hb : Idle (fun _ => False) B W W') (hS : ∀ i, S2 i → i < B) : EntY yb z l nh ch Ah S2 hi W' :=
  ⟨hb.cells (fun h => h) h.1 rfl, hb.cells (fun h => h) h.2.1 rfl, h.2.2.only hb fun i _ hi hk => by have := hS i hi; rcases hk with hk | hk; exact hk; omega⟩
def EntI (J : List (Value × Ent) → (Nat → Prop) → World → Prop) (yb z l nh ch : Nat) (Ah : Option Addr) (S2 : Nat → Prop) (hi : List UInt8) (pre : List (Value × Ent)) (T : Nat → Prop) (W : World) : Prop :=
  J pre T W ∧ (∀ e ∈ pre.map Prod.snd, below hi e = true) ∧ EntY yb z l nh ch Ah S2 hi W
def EntX (J Jx : List (Value × Ent) → (Nat → Prop) → World → Prop) (fs : List Ent) (c : Code) (_ : List (Value × Ent)) (T : Nat → Prop) (W : World) : Prop :=
  c = .ret ∧ (∀ i, T i → i < W.heap.size) ∧ ((∃ pre T', J pre T' W ∧ pre.map Prod.snd = fs) ∨ ∃ pre T', Jx pre T' W)
abbrev eFrame (Tb z yb l nl cl : Nat) (Al : Option Addr) (Bx : Nat) (x : Value) : Array Value :=
  #[.func (.yield l) #[] #[], .pointer (some ⟨z, 0, none⟩), .pointer (some ⟨z + 1, 0, none⟩), .pointer (some ⟨z + 1 + 1, 0, none⟩), .pointer (some ⟨yb, 0, none⟩), .pointer (some ⟨Bx, 0, none⟩), .int .i64 0, .pointer (some ⟨Tb, 0, none⟩), .slice Al nl cl,
    .func (.func 76) #[] #[.pointer (some ⟨yb + 1, 0, none⟩), .pointer (some ⟨yb + 1 + 1, 0, none⟩)], x, .int .i64 0, undef, undef, undef, undef, undef, undef, undef, undef, undef, undef, undef, undef, undef, undef, undef, undef, undef, undef, undef, undef, undef]
set_option maxRecDepth 100000 in
set_option maxHeartbeats 1000000 in
theorem entries_tells (nn : Nat) (w : World) (z Tb N nl cl nh ch : Nat) (Al Ah : Option Addr) (S0 S1 S2 : Nat → Prop) (lo hi : List UInt8) (es : List Ent) (ps : List (List Ent)) (hK : EntK w z Tb N nl cl nh ch Al Ah S0 S1 S2 lo hi es ps) (hpo : PartsOk es ps) (hN : es.length = N) (hN0 : 0 < N) (hN2 : N ≤ 16777216) (hB2 : bytesE es ≤ 16777216) (hord : orderedE es = true) (hS : ∀ i, S0 i ∨ S1 i ∨ S2 i → i < w.heap.size) :
    Tells Fence.wide nn Tryz.prog 72 #[.pointer (some ⟨z, 0, none⟩), .pointer (some ⟨z + 1, 0, none⟩), .pointer (some ⟨z + 1 + 1, 0, none⟩)] (fun x : Value × Ent => #[x.1, .int .i64 0]) (fun pre T x A => OkF w.heap.size (rangeE lo hi es) pre T x A)
      (fun xs _ => xs.map Prod.snd = rangeE lo hi es) (fun _ _ => True) (entD z S0 S1 S2) (fun _ => False) w := by
  intro l J Jx T0 W hW hT0 hJ hJx hJT hY h0
  have hKW := hK.fr hW
  obtain ⟨wA, hwA⟩ : ∃ x, W.alloc (.cells #[.func (.yield l) #[] #[]] 128) = x := ⟨_, rfl⟩
  have fA : fr W wA := by rw [← hwA]; exact fr.alloc fr.refl _
  have zA : wA.heap.size = W.heap.size + 1 := by rw [← hwA]; simp
  have pA : Boxed wA W.heap.size 128 (.func (.yield l) #[] #[]) := by rw [← hwA]; exact Boxed.new W _ _
  have hKA := hKW.fr fA
  have c0 := hKA.b0.cell
  have c1 := hKA.b1.cell
  have HJ := Lib.hid hJ
  have HJX := Lib.hid hJx
  have HJT := Lib.hid hJT
  have HY := Lib.hid hY
  have HT0 := Lib.hid hT0
  have HPO := Lib.hid hpo
  have HN := Lib.hid hN
  have HORD := Lib.hid hord
  have HWZ := Lib.hid hW.size
  have HS := Lib.hid (show ∀ i, entD z S0 S1 S2 i → i < W.heap.size by
    have h1 := hKW.b0.lt
    have h2 := hKW.b1.lt
    have h3 := hKW.b2.lt
    have h4 := hW.size
    rintro i (rfl | rfl | rfl | h | h | h)
    · exact h1
    · exact h2
    · exact h3
    · have := hS i (.inl h); omega
    · have := hS i (.inr (.inl h)); omega
    · have := hS i (.inr (.inr h)); omega)
  have HJ0 := Lib.hid h0
  have HKA := Lib.hid hKA
  have HWA := Lib.hid hwA
  have HFA := Lib.hid fA
  have HPA := Lib.hid pA
  have HZA := Lib.hid zA
  clear hK hKW hKA hpo hN hord hS hW hT0 hJ hJx hJT hY h0 hwA fA pA zA
  refine callsIn_of_wp_marks Tryz.func72 rfl trivial ?_
  simp only [Tryz.ntmps72, List.size_toArray, List.length_cons, List.length_nil, Nat.reduceAdd, Nat.reduceSub, Array.replicate_succ, Array.replicate_zero, List.push_toArray, List.append_toArray, List.nil_append, List.cons_append]
  refine wpIn_wide.2 ?_
  go_wp2_with (first | rw [HWA.out] | (go_at_call 47; refine (tfrom_any Tb nl cl Al wA).mono ?_; rintro r w1 ⟨rfl, b1, b2, f1, hz2⟩))
  rw [HZA.out] at b1 b2 hz2 ⊢
  have HTI := Lib.hid (from_tells (nn + 1) w1 (W.heap.size + 1) Tb N nl cl Al S0 S1 lo es ps ⟨b1, b2, HKA.out.lo_.below f1, HKA.out.tab.fr f1⟩ HPO.out HN.out hN0 hN2 hB2 HORD.out (fun i h => by have := HS.out i (h.elim (fun h => .inr (.inr (.inr (.inl h)))) fun h => .inr (.inr (.inr (.inr (.inl h))))); omega))
  have HF1 := Lib.hid f1
  have HYW := Lib.hid (show EntY W.heap.size z l nh ch Ah S2 hi w1 from ⟨boxedFr HPA.out f1, boxedFr HKA.out.b2 f1, HKA.out.hi_.below f1⟩)
  have HID := Lib.hid (Idle.of_below (Z := fun _ => False) (base := W.heap.size) (Below.mono (fr.step HFA.out f1) (Nat.le_refl _)))
  clear b1 b2 f1 c0 c1
  have hT0' : ∀ i, T0 i → i < W.heap.size := fun i hi => HJT.out _ _ _ i HJ0.out hi
  have HT0' := Lib.hid hT0'
  clear hT0'
  refine (wpIn_wide (n := nn + 2)).1 ?_
  refine range_tells rfl (by omega) (gf := 76) (lb := #[.pointer (some ⟨W.heap.size + 1, 0, none⟩), .pointer (some ⟨W.heap.size + 1 + 1, 0, none⟩)]) rfl trivial (enters_of Tryz.func76 (by kernel_rfl) rfl) HTI.out
    ?hD (fun i h => h.elim) (fun pre T T' x A hT h => h.anti hT) (fun _ _ _ h _ => h) (fun _ _ _ h _ => h) (fun _ => rfl)
    (EntI J W.heap.size z l nh ch Ah S2 hi) (EntX J Jx (rangeE lo hi es)) ?still ?stillX T0 ?t0 ⟨HJ.out _ _ _ _ HJ0.out HID.out, fun e h => by simp at h, HYW.out⟩
    (AxG w1.heap.size (fromE lo es) (eFrame Tb z W.heap.size l nl cl Al)) ?ax ?assign ?body ?done ?stop ?lt ?ltx
  case assign =>
    rintro l' pre T ⟨x1, x2⟩ W' K hi' ⟨⟨k, u, hx, hk1, hu1⟩, hrest⟩ hK
    obtain ⟨Ak, ck', rfl⟩ := slice_form hk1
    obtain ⟨Au, cu, rfl⟩ := slice_form hu1
    simp only at hx
    subst hx
    have HK := Lib.hid hk1
    have HU := Lib.hid hu1
    have HI := Lib.hid hi'
    have HR := Lib.hid hrest
    clear hk1 hu1 hi' hrest
    gi_wp2
    have hal : fr W' (W'.alloc (.cells #[.slice Ak x2.key.length ck', .int .i64 x2.seq, .bool x2.dead, .slice Au x2.val.length cu] 48)) := fr.alloc fr.refl _
    have hid : Idle (fun _ => False) W.heap.size W' (W'.alloc (.cells #[.slice Ak x2.key.length ck', .int .i64 x2.seq, .bool x2.dead, .slice Au x2.val.length cu] 48)) := Idle.of_below hal
    have hI := HI.out
    refine hK _ _ hal ⟨HJ.out _ _ _ _ hI.1 hid, hI.2.1, hI.2.2.idle hid fun i hi => HS.out i (.inr (.inr (.inr (.inr (.inr hi)))))⟩ ⟨W'.heap.size, Ak, _, ck', Au, _, cu, rfl, heap_alloc_new W' _, HK.out.idle hid (fun _ _ h => h), HU.out.idle hid (fun _ _ h => h), HR.out, rfl⟩
  case hD =>
    rintro i (rfl | rfl | h | h)
    · omega
    · omega
    · have := HS.out i (.inr (.inr (.inr (.inl h)))); omega
    · have := HS.out i (.inr (.inr (.inr (.inr (.inl h))))); omega
  case t0 =>
    intro i hi
    have h1 := HT0'.out i hi
    refine ⟨by omega, fun h => ?_⟩
    rcases h with h | h | h | h
    · omega
    · omega
    · exact HT0.out i hi (.inr (.inr (.inr (.inl h))))
    · exact HT0.out i hi (.inr (.inr (.inr (.inr (.inl h)))))
  case still =>
    rintro pre T A B ⟨h1, h2, h3⟩ hid
    exact ⟨HJ.out _ _ _ _ h1 (hid.mono (by omega)), h2, h3.idle hid fun i h => by have := HS.out i (.inr (.inr (.inr (.inr (.inr h))))); omega⟩
  case stillX =>
    rintro c pre T A B ⟨h1, h2, h3⟩ hid
    refine ⟨h1, fun i hi => Nat.lt_of_lt_of_le (h2 i hi) hid.size, ?_⟩
    rcases h3 with ⟨pre', T', h3, h4⟩ | ⟨pre', T', h3⟩
    · exact .inl ⟨pre', T', HJ.out _ _ _ _ h3 (hid.mono (by omega)), h4⟩
    · exact .inr ⟨pre', T', HJX.out _ _ _ _ h3 (hid.mono (by omega))⟩
  case ax =>
    rintro pre T x a' A B ⟨Bx, Ak, nk', ck', Au, nu, cu, hx, hbx, hk, hu, hr, rfl⟩ hid
    exact ⟨Bx, Ak, nk', ck', Au, nu, cu, hx, hid.cells (fun h => h) hbx rfl, hk.idle hid (fun _ _ h => h), hu.idle hid (fun _ _ h => h), hr, rfl⟩
  case lt =>
    rintro pre T W' i ⟨h1, h2, h3⟩ hT
    exact HJT.out _ _ _ _ h1 hT
  case ltx =>
    rintro c pre T W' i ⟨h1, h2, h3⟩ hT
    exact h2 i hT
  case body =>
    rintro l' pre T x a' sA W' hl hlA hrec hTs hsA ⟨hj, hpr, hy⟩ ⟨Bx, Ak, nk', ck', Au, nu, cu, hx, hbx, hk, hu, hr, rfl⟩
    have c4 := hy.1.cell
    have c3 := hy.2.1.cell
    have x0 := cell_of_row W' _ 0 _ _ _ hbx
    have x1 := cell_of_row W' _ 1 _ _ _ hbx
    have x2 := cell_of_row W' _ 2 _ _ _ hbx
    have x3 := cell_of_row W' _ 3 _ _ _ hbx
    have hnh : nh = hi.length := by
      obtain ⟨A, c, h, _⟩ := hy.2.2
      simp only [Value.slice.injEq] at h
      exact h.2.1
    have HTD := Lib.hid (show ∀ i, T i → ¬ (i = W.heap.size ∨ i = z + 1 + 1 ∨ S2 i) from fun i hi h => by
      have h1 : i = W.heap.size ∨ entD z S0 S1 S2 i := by
        rcases h with h | h | h
        · exact .inl h
        · exact .inr (.inr (.inr (.inl h)))
        · exact .inr (.inr (.inr (.inr (.inr (.inr h)))))
      rcases hTs i hi with h2 | h2
      · have h3 := HT0'.out i h2
        rcases h1 with h1 | h1
        · omega
        · exact HT0.out i h2 h1
      · rcases h1 with h1 | h1
        · omega
        · have := HS.out i h1; omega)
    have HYI : Hid (below hi x.2 = true → YieldAt Fence.wide (nn - 1) Tryz.prog l #[x.1, .int .i64 0] W' fun e B => ∃ T', Grew W'.heap.size T T' ∧ Only T W' B ∧ ((e = .returned (.bool true) ∧ J (pre ++ [x]) T' B) ∨ (e = .returned (.bool false) ∧ Jx (pre ++ [x]) T' B))) := Lib.hid fun hb => by
      obtain ⟨rest, hr'⟩ := hr
      refine HY.out pre T x W' hj ⟨⟨_, _, hx, hk.mono fun i hi => ⟨⟨by have := hi.1.1; have := HWZ.out; omega, hi.1.2⟩, hi.2⟩, hu.mono fun i hi => ⟨⟨by have := hi.1.1; have := HWZ.out; omega, hi.1.2⟩, hi.2⟩⟩, range_here hr' hpr hb⟩
    have HCM := Lib.hid (bcompare_any _ _ _ _ x.2.key hi W' hk hy.2.2)
    have HFIN : Hid (∀ (T6 : Nat → Prop) (w6 : World), below hi x.2 = true → Grew W'.heap.size T T6 → Only T W' w6 → J (pre ++ [x]) T6 w6 → ∃ T', Grew sA T T' ∧ Only (fun i => T i ∨ sA ≤ i) W' w6 ∧ EntI J W.heap.size z l nh ch Ah S2 hi (pre ++ [x]) T' w6) := Lib.hid fun T6 w6 hb hg ho hj6 =>
      ⟨T6, fun i h => (hg i h).imp id fun h => Nat.le_trans hsA h, Only.mono ho fun i h => .inl h, hj6, fun e he => by
        rw [List.map_append, List.mem_append] at he
        rcases he with he | he
        · exact hpr e he
        · obtain rfl : e = x.2 := by simpa using he
          exact hb, hy.only ho HTD.out⟩
    have HFIX : Hid (∀ (T6 : Nat → Prop) (w6 : World), Only T W' w6 → Jx (pre ++ [x]) T6 w6 → ∃ T', Grew sA T T' ∧ Only (fun i => T i ∨ sA ≤ i) W' w6 ∧ EntX J Jx (rangeE lo hi es) .ret (pre ++ [x]) T' w6) := Lib.hid fun T6 w6 ho hj6 =>
      ⟨T, fun i h => .inl h, Only.mono ho fun i h => .inl h, rfl, fun i h => Nat.lt_of_lt_of_le (HJT.out _ _ _ _ hj h) ho.size, .inr ⟨_, _, hj6⟩⟩
    have HSTOP : Hid (below hi x.2 = false → ∃ T', Grew sA T T' ∧ Only (fun i => T i ∨ sA ≤ i) W' W' ∧ EntX J Jx (rangeE lo hi es) .ret (pre ++ [x]) T' W') := Lib.hid fun hb => by
      obtain ⟨rest, hr'⟩ := hr
      exact ⟨T, fun i h => .inl h, Only.refl _ _, rfl, fun i h => HJT.out _ _ _ _ hj h, .inl ⟨pre, T, hj, range_stop hr' ((ordered_iff es).1 HORD.out).2 hpr hb⟩⟩
    rw [hx] at HYI
    have HX := Lib.hid hx
    clear hrec hTs hl hlA hsA hj hpr hy hbx hk hu hr hx
    by_cases hn0 : 0 < nh
    · obtain ⟨q, hq⟩ : ∃ q, cmpB x.2.key hi = q := ⟨_, rfl⟩
      rw [hq] at HCM
      by_cases hq0 : 0 ≤ q
      · have hb : below hi x.2 = false := by
          unfold below
          rw [hq]
          have : hi ≠ [] := fun e => by rw [e] at hnh; simp at hnh; omega
          simp [this, hq0]
        have HB := Lib.hid hb
        clear hnh hq hb
        gi_wp2_with (refine ⟨trivial, fun h => absurd h Bool.false_ne_true, ?_⟩; gi_at_call 60; refine (CallsIn.inRound l' (callsIn_wide.2 HCM.out)).mono ?_; rintro r w' ⟨rfl, hw'⟩; have hw2 : W' = w' := hw'; subst hw2)
        refine ⟨fun f h => (by cases h), ?_⟩
        gi_wp2
        exact HSTOP.out HB.out
      · have hb : below hi x.2 = true := by
          unfold below
          rw [hq]
          simp
          omega
        have HB := Lib.hid hb
        obtain ⟨fn, tmps, assign, body, hyr, hR⟩ := HYI.out hb
        have HR := Lib.hid hR
        clear hnh hq hb hR
        gi_wp2_with (refine ⟨trivial, fun h => absurd h Bool.false_ne_true, ?_⟩; gi_at_call 60; refine (CallsIn.inRound l' (callsIn_wide.2 HCM.out)).mono ?_; rintro r w' ⟨rfl, hw'⟩; have hw2 : W' = w' := hw'; subst hw2)
        refine ⟨fun h => absurd h Bool.false_ne_true, (round_in rfl l' HR.out).mono ?_⟩
        rintro ee w6 ⟨T6, gT, oT, (⟨rfl, hj6⟩ | ⟨rfl, hj6⟩)⟩
        · have HE := Lib.hid (HFIN.out T6 w6 HB.out gT oT hj6)
          clear hyr gT oT hj6 x0 x1 x2 x3 c3 c4
          gi_wp2
          exact HE.out
        · have HE := Lib.hid (HFIX.out T6 w6 oT hj6)
          clear hyr gT oT hj6 x0 x1 x2 x3 c3 c4
          gi_wp2
          exact HE.out
    · have hb : below hi x.2 = true := by
        unfold below
        simp [List.eq_nil_of_length_eq_zero (hnh.symm.trans (by omega : nh = 0))]
      have hni : ¬ (0 : Int) < (nh : Int) := by omega
      have HB := Lib.hid hb
      obtain ⟨fn, tmps, assign, body, hyr, hR⟩ := HYI.out hb
      have HR := Lib.hid hR
      clear hnh hb hR
      gi_wp2
      refine ⟨trivial, ?_⟩
      gi_wp2
      refine ⟨fun h => absurd h Bool.false_ne_true, (round_in rfl l' HR.out).mono ?_⟩
      rintro ee w6 ⟨T6, gT, oT, (⟨rfl, hj6⟩ | ⟨rfl, hj6⟩)⟩
      · have HE := Lib.hid (HFIN.out T6 w6 HB.out gT oT hj6)
        clear hyr gT oT hj6 x0 x1 x2 x3 c3 c4
        gi_wp2
        exact HE.out
      · have HE := Lib.hid (HFIX.out T6 w6 oT hj6)
        clear hyr gT oT hj6 x0 x1 x2 x3 c3 c4
        gi_wp2
        exact HE.out
  case done =>
    rintro D' xs T W' hD' hTs hxs ⟨hj, hpr, hy⟩ hK
    have hj' := HJ.out _ _ _ _ hj (Idle.putObj (Z := fun _ => False) (base := W.heap.size) (o' := .deferred none) (by omega) hK rfl)
    try go_wp2
    refine ⟨by simp, .inl ⟨_, _, rfl, run_takeDeferred hK, ?_⟩⟩
    exact ⟨.tuple #[], by simp [results, Tryz.results72, go_sem], ⟨_, rfl⟩, .inl ⟨xs, T, range_all hxs hpr, hj'⟩⟩
  case stop =>
    rintro D' c xs T W' hD' hTs _ ⟨rfl, _, hor⟩ hK
    gi_wp2
    try go_wp2
    refine ⟨by simp, .inl ⟨_, _, rfl, run_takeDeferred hK, ?_⟩⟩
    refine ⟨.tuple #[], by simp [results, Tryz.results72, go_sem], ⟨_, rfl⟩, ?_⟩
    rcases hor with ⟨pre', T', h3, h4⟩ | ⟨pre', T', h3⟩
    · exact .inl ⟨pre', T', h4, HJ.out _ _ _ _ h3 (Idle.putObj (Z := fun _ => False) (base := W.heap.size) (by omega) hK rfl)⟩
    · exact .inr ⟨pre', T', trivial, HJX.out _ _ _ _ h3 (Idle.putObj (Z := fun _ => False) (base := W.heap.size) (by omega) hK rfl)⟩
end Go.Proofs.YtiffgjodbcploaaGreat
end
section
namespace Go.Proofs.YtiffgjodbcploaaGreat
set_option maxRecDepth 100000
open Go.RowKit Go.BigFrame Go.Shelf
attribute [local go_sem ↓] Go.wp_at_zero Go.wp_at_succ
attribute [local go_sem] Oper.semAt_some
/-- what the rounds have gathered. -/
def CollA (n₀ lo : Nat) (fs : List Ent) (w : World) (pre : List (Value × Ent)) (T : Nat → Prop) (W : World) : Prop :=
  ∃ v ys, Grows 22 48 4 n₀ n₀ T v pre.length ys W ∧ EntCells W (fun i => (lo ≤ i ∧ ¬ T i) ∧ Loose W i) ys (pre.map Prod.snd) ∧ fr w W ∧ ∃ rest, pre.map Prod.snd ++ rest = fs
abbrev aFrame (Tb R nl cl nh ch : Nat) (Al Ah : Option Addr) (Bx : Nat) (x : Value) : Array Value :=
  #[.pointer (some ⟨Tb, 0, none⟩), .slice Al nl cl, .slice Ah nh ch, undef, undef, undef, .pointer (some ⟨R, 0, none⟩), .pointer (some ⟨R + 1, 0, none⟩), .pointer (some ⟨R + 1 + 1, 0, none⟩), .pointer (some ⟨Bx, 0, none⟩), .int .i64 0, .pointer (some ⟨Tb, 0, none⟩), .slice Al nl cl, .slice Ah nh ch, entF (R + 3), x, .int .i64 0, undef, undef, undef, undef, undef, undef, undef, undef, undef]
set_option maxRecDepth 100000 in
set_option maxHeartbeats 1000000 in
theorem tall_any (Tb N nl cl nh ch : Nat) (Al Ah : Option Addr) (S0 S1 S2 : Nat → Prop) (lo hi : List UInt8) (es : List Ent) (ps : List (List Ent)) (w : World) (hl : Byt w S1 (.slice Al nl cl) lo) (hh : Byt w S2 (.slice Ah nh ch) hi) (htab : TabS w S0 Tb N es ps) (hpo : PartsOk es ps) (hN : es.length = N) (hN0 : 0 < N) (hN2 : N ≤ 16777216) (hB2 : bytesE es ≤ 16777216) (hord : orderedE es = true) (hS : ∀ i, S0 i → i < w.heap.size) :
    Calls Tryz.prog 15 #[.pointer (some ⟨Tb, 0, none⟩), .slice Al nl cl, .slice Ah nh ch] w fun r w' => ∃ (v : Value) (ys : List Value) (T : Nat → Prop), r = .returned (.tuple #[v, .int .i64 0]) ∧ w'.ownsRow w.heap.size 48 4 v (rangeE lo hi es).length ys ∧ EntCells w' (fun i => (w.heap.size ≤ i ∧ ¬ T i) ∧ Loose w' i) ys (rangeE lo hi es) ∧ (∀ g, v.ownBlock = some g → T g) ∧ fr w w' := by
  obtain ⟨i0, hi0, hz0, hz1, hz2⟩ := info_parts info26
  obtain ⟨fs, hfs⟩ : ∃ q, rangeE lo hi es = q := ⟨_, rfl⟩
  rw [hfs]
  obtain ⟨wP, hwP⟩ : ∃ x, (w.alloc (.cells #[.slice none 0 0] 22)).alloc (.cells #[.int .i64 0] 30) = x := ⟨_, rfl⟩
  obtain ⟨wA, hwA⟩ : ∃ x, wP.alloc (.cells #[.slice none 0 0] 22) = x := ⟨_, rfl⟩
  have zP : wP.heap.size = w.heap.size + 1 + 1 := by rw [← hwP]; simp
  have zA : wA.heap.size = w.heap.size + 3 := by rw [← hwA]; simp [zP]
  have fP : fr w wP := by rw [← hwP]; exact fr.alloc (fr.alloc fr.refl _) _
  have fPA : fr wP wA := by rw [← hwA]; exact fr.alloc fr.refl _
  have p0 : Boxed wP w.heap.size 22 (.slice none 0 0) := by rw [← hwP]; exact (Boxed.new w _ _).alloc _
  have p1 : Boxed wP (w.heap.size + 1) 30 (.int .i64 0) := by
    rw [← hwP]
    have := Boxed.new (w.alloc (.cells #[.slice none 0 0] 22)) 30 (.int .i64 0)
    rwa [World.size_alloc] at this
  have p2 : Boxed wA (w.heap.size + 1 + 1) 22 (.slice none 0 0) := by
    rw [← hwA, ← zP]
    exact Boxed.new wP _ _
  have hEN := entries_some Tb nl cl nh ch Al Ah S1 S2 lo hi wA (hl.below (fr.step fP fPA)) (hh.below (fr.step fP fPA))
  rw [zA] at hEN
  have HEN := Lib.hid hEN
  have HTA := Lib.hid (htab.fr (fr.step fP fPA))
  have HFP := Lib.hid fP
  have HPA := Lib.hid fPA
  have HWA : Hid (((w.alloc (.cells #[.slice none 0 0] 22)).alloc (.cells #[.int .i64 0] 30)).alloc (.cells #[.slice none 0 0] 22) = wA) := Lib.hid (by rw [hwP]; exact hwA)
  have HP0 := Lib.hid p0
  have HP1 := Lib.hid p1
  have HP2 := Lib.hid p2
  have HZP := Lib.hid zP
  have HZA := Lib.hid zA
  have HPO := Lib.hid hpo
  have HN := Lib.hid hN
  have HORD := Lib.hid hord
  have HS := Lib.hid hS
  clear hl hh htab hpo hN hord hS hEN fP fPA p0 p1 p2 zP zA hwP hwA
  refine (callsIn_wide (n := 1)).1 ?_
  refine callsIn_of_wp_marks Tryz.func15 rfl trivial ?_
  simp only [Tryz.ntmps15, List.size_toArray, List.length_cons, List.length_nil, Nat.reduceAdd, Nat.reduceSub, Array.replicate_succ, Array.replicate_zero, List.push_toArray, List.append_toArray, List.nil_append, List.cons_append]
  refine wpIn_wide.2 ?_
  go_wp2_with (first | rw [HWA.out] | (go_at_call 42; refine HEN.out.mono ?_; rintro r w1 ⟨rfl, e0, ⟨A, n, c, A', n', c', e1, e2, e3, e4⟩, f1⟩))
  have HF1 := Lib.hid f1
  have hw1 : w.heap.size + 6 ≤ w1.heap.size := e2.lt
  obtain ⟨S', hS'⟩ : ∃ S' : Nat → Prop, S' = fun i => w.heap.size + 3 + 3 ≤ i ∧ Loose w1 i := ⟨_, rfl⟩
  have hS1 : ∀ i, S' i → w.heap.size + 6 ≤ i ∧ i < w1.heap.size := fun i h => by rw [hS'] at h; exact ⟨h.1, h.2.lt⟩
  have HTI := Lib.hid (entries_tells 0 w1 (w.heap.size + 3) Tb N n c n' c' A A' S0 S' S' lo hi es ps ⟨e0, e1, e2, by rw [hS']; exact e3, by rw [hS']; exact e4, HTA.out.fr f1⟩ HPO.out HN.out hN0 hN2 hB2 HORD.out (fun i h => by
    rcases h with h | h | h
    · have := HS.out i h; omega
    · exact (hS1 i h).2
    · exact (hS1 i h).2))
  have HS1 := Lib.hid hS1
  have hP2 := boxedFr HP2.out f1
  have hfP1 : fr wP w1 := fr.step HPA.out f1
  have hfl : (rangeE lo hi es).length ≤ 16777216 := Nat.le_trans range_len (by rw [HN.out]; exact hN2)
  rw [hfs] at HTI
  rw [hfs] at hfl
  clear f1 e0 e1 e2 e3 e4 hS1 hS'
  refine (wpIn_wide (n := 1)).1 ?_
  refine range_tells rfl (by omega) (gf := 72) (lb := #[.pointer (some ⟨w.heap.size + 3, 0, none⟩), .pointer (some ⟨w.heap.size + 3 + 1, 0, none⟩), .pointer (some ⟨w.heap.size + 3 + 1 + 1, 0, none⟩)]) rfl trivial (enters_of Tryz.func72 (by kernel_rfl) rfl) HTI.out
    ?hD (fun i h => h.elim) (fun pre T T' x A hT h => h.anti hT) (fun _ _ _ h _ => h) (fun _ _ _ h _ => h) (fun _ => rfl)
    (CollA (w.heap.size + 1 + 1) w.heap.size fs wP) (fun _ _ _ _ => False) ?still (fun _ _ _ _ _ h => h.elim) (fun i => i = w.heap.size + 1 + 1) ?t0 ⟨.slice none 0 0, [], ⟨hP2, World.ownsRow_nil _ _ _ _, fun i => by simp [Value.ownBlock]⟩, (show EntCells w1 _ [] [] from trivial), hfP1, fs, rfl⟩
    (AxG w1.heap.size fs (aFrame Tb w.heap.size nl cl nh ch Al Ah)) ?ax ?assign ?body ?done (fun _ _ _ _ _ _ _ _ h => h.elim) ?lt (fun _ _ _ _ _ h => h.elim)
  case hD =>
    rintro i (rfl | rfl | rfl | h | h | h)
    · omega
    · omega
    · omega
    · have := HS.out i h; omega
    · exact (HS1.out i h).2
    · exact (HS1.out i h).2
  case t0 =>
    rintro i rfl
    refine ⟨by omega, fun h => ?_⟩
    rcases h with h | h | h | h | h | h
    · omega
    · omega
    · omega
    · have := HS.out _ h; omega
    · have := (HS1.out _ h).1; omega
    · have := (HS1.out _ h).1; omega
  case still =>
    rintro pre T A B ⟨v, ys, h1, h2, h3, h4⟩ hi'
    refine ⟨v, ys, h1.idle hi' (fun _ h => h.elim) (Nat.le_refl _), EntCells.imp h2 fun _ _ h => h.idle hi' (fun _ _ h => h), ?_, h4⟩
    exact ⟨hi'.os.trans h3.os, hi'.tape.trans h3.tape, hi'.output.trans h3.output, Nat.le_trans h3.size hi'.size, fun i hlt => (hi'.block i (Nat.lt_of_lt_of_le hlt h3.size) fun hk => by have := HZP.out; rcases hk with hk | hk; exact hk; omega).trans (h3.block i hlt)⟩
  case lt =>
    rintro pre T W i ⟨v, ys, h1, _⟩ hT
    exact h1.lt hT
  case ax =>
    rintro pre T x a' A B ⟨Bx, Ak, nk', ck', Au, nu, cu, hx, hbx, hk, hu, hr, rfl⟩ hid
    exact ⟨Bx, Ak, nk', ck', Au, nu, cu, hx, hid.cells (fun h => h) hbx rfl, hk.idle hid (fun _ _ h => h), hu.idle hid (fun _ _ h => h), hr, rfl⟩
  case assign =>
    rintro l' pre T ⟨x1, x2⟩ W' K hi' ⟨⟨k, u, hx, hk1, hu1⟩, hrest⟩ hK
    obtain ⟨Ak, ck', rfl⟩ := slice_form hk1
    obtain ⟨Au, cu, rfl⟩ := slice_form hu1
    simp only at hx
    subst hx
    have HK := Lib.hid hk1
    have HU := Lib.hid hu1
    have HI := Lib.hid hi'
    have HR := Lib.hid hrest
    clear hk1 hu1 hi' hrest
    gi_wp2
    have hal : fr W' (W'.alloc (.cells #[.slice Ak x2.key.length ck', .int .i64 x2.seq, .bool x2.dead, .slice Au x2.val.length cu] 48)) := fr.alloc fr.refl _
    have hid : Idle (fun _ => False) w.heap.size W' (W'.alloc (.cells #[.slice Ak x2.key.length ck', .int .i64 x2.seq, .bool x2.dead, .slice Au x2.val.length cu] 48)) := Idle.of_below hal
    obtain ⟨v, ys, h1, h2, h3, h4⟩ := HI.out
    exact hK _ _ hal ⟨v, ys, h1.below hal, EntCells.imp h2 fun _ _ h => h.idle hid (fun _ _ h => h), fr.step h3 hal, h4⟩ ⟨W'.heap.size, Ak, _, ck', Au, _, cu, rfl, heap_alloc_new W' _, HK.out.idle hid (fun _ _ h => h), HU.out.idle hid (fun _ _ h => h), HR.out, rfl⟩
  case body =>
    rintro l' pre T x a' sA W hl hlA hrec hTs hsA ⟨v, ys, hgr, hec, hf, _⟩ ⟨Bx, Ak, nk', ck', Au, nu, cu, hx, hbx, hk, hu, hr, rfl⟩
    obtain ⟨j, hj⟩ : ∃ j, pre.length = j := ⟨_, rfl⟩
    rw [hj] at hgr
    have hjl : j + 1 ≤ 16777216 := by
      obtain ⟨rest, hr'⟩ := hr
      have := congrArg List.length hr'
      simp at this
      omega
    have hrow := hgr.row
    obtain ⟨Ao, co, rfl⟩ := own_form hrow
    have hcO := hgr.box.cell
    have x0 := cell_of_row W _ 0 _ _ _ hbx
    have x1 := cell_of_row W _ 1 _ _ _ hbx
    have x2 := cell_of_row W _ 2 _ _ _ hbx
    have x3 := cell_of_row W _ 3 _ _ _ hbx
    have hsA2 : w.heap.size + 1 + 1 ≤ sA := by omega
    have hWz : w.heap.size + 1 + 1 ≤ W.heap.size := by have := hf.size; have := HZP.out; omega
    have HTs := Lib.hid hTs
    have HGR := Lib.hid hgr
    have HEC := Lib.hid hec
    have HF := Lib.hid hf
    have HJ := Lib.hid hj
    have HK := Lib.hid hk
    have HU := Lib.hid hu
    have HR := Lib.hid hr
    obtain ⟨sq, hsq⟩ : ∃ q, x.2.seq = q := ⟨_, rfl⟩
    obtain ⟨dd, hdd⟩ : ∃ q, x.2.dead = q := ⟨_, rfl⟩
    have HSQ := Lib.hid hsq
    have HDD := Lib.hid hdd
    rw [hx, hsq, hdd]
    rw [hsq, hdd] at x0 x1 x2 x3
    clear hrec hTs hl hlA hgr hec hf hj hk hu hr hx hbx hsq hdd hP2 hfP1
    gi_wp2_with (gi_at_builtin; refine wpListIn_append_at _ rfl _ _ 22 rfl (w.heap.size + 1 + 1) 48 i0 _ 4 64 Tryz.underlying22 hi0 hz0 hz1 hz2 rfl (by decide) _ _ _ rfl (hrow.alloc _) ⟨W.heap.size, 0, none⟩ 1 1 [.slice Ak nk' ck', .int .i64 sq, .bool dd, .slice Au nu cu] rfl rfl (cell_four_new _ _ _ _ _ _) (by simp [Value.oneCell']) (by unfold maxLen; omega) (by omega) (by simp; omega) ?_; intro v' w7 hown' hgrow hat; obtain ⟨g', cap', rfl⟩ := ownsRow_succ hown'; obtain ⟨hv1, hg7, hgT, ho2⟩ := HGR.out.push (by decide) (Nat.le_refl _) hWz hsA hown' hgrow hat; have hc1 := hv1.cell; have hf1 := hv1.frozen)
    have hgT' : Grew W.heap.size T _ := (HGR.out.push (sA := W.heap.size) (by decide) (Nat.le_refl _) hWz (Nat.le_refl _) hown' hgrow hat).2.2.1
    have ho2' := (HGR.out.push (sA := W.heap.size) (by decide) (Nat.le_refl _) hWz (Nat.le_refl _) hown' hgrow hat).2.2.2
    refine ⟨_, hgT, ho2, _, _, by rw [List.length_append, HJ.out]; exact hg7, ?_, ?_, ?_⟩
    · rw [List.map_append]
      have fix : ∀ {v bs}, Byt W (fun i => (w.heap.size ≤ i ∧ ¬ T i) ∧ Loose W i) v bs → Byt (w7.setCell ⟨w.heap.size + 1 + 1, 0, none⟩ (.slice (some ⟨g', 0, none⟩) (j + 1) cap')) (fun i => (w.heap.size ≤ i ∧ ¬ (i = w.heap.size + 1 + 1 ∨ (Value.slice (some ⟨g', 0, none⟩) (j + 1) cap').ownBlock = some i)) ∧ Loose (w7.setCell ⟨w.heap.size + 1 + 1, 0, none⟩ (.slice (some ⟨g', 0, none⟩) (j + 1) cap')) i) v bs := fun h => h.grewT hgT' ho2'
      refine EntCells.append (EntCells.imp HEC.out fun v bs h => fix h) ?_
      have h := EntCells.one (e := x.2) (fix (HK.out.mono fun i hi => ⟨⟨by have := hi.1.1; omega, hi.1.2⟩, hi.2⟩)) (fix (HU.out.mono fun i hi => ⟨⟨by have := hi.1.1; omega, hi.1.2⟩, hi.2⟩))
      rw [HSQ.out, HDD.out] at h
      exact h
    · have hf := HF.out
      exact ⟨ho2.os.trans hf.os, ho2.tape.trans hf.tape, ho2.output.trans hf.output, Nat.le_trans hf.size ho2.size, fun i h1 => (ho2.block i (Nat.lt_of_lt_of_le h1 hf.size) (fun h => by
        have := HZP.out
        rcases h with h | h
        · rcases HTs.out i h with h | h <;> omega
        · omega)).trans (hf.block i h1)⟩
    · obtain ⟨rest, hr'⟩ := HR.out
      exact ⟨rest, by rw [← hr']; simp⟩
  case done =>
    rintro D' xs T W hD' hTs hxs ⟨v, ys, hgr, hec, hf, _⟩ hK
    have hxs' : xs.map Prod.snd = fs := hxs
    have hlen : xs.length = fs.length := by rw [← hxs', List.length_map]
    rw [hxs'] at hec
    rw [hlen] at hgr
    obtain ⟨nf, hnf⟩ : ∃ q, fs.length = q := ⟨_, rfl⟩
    rw [hnf] at hgr
    obtain ⟨A, c', rfl⟩ := own_form hgr.row
    have hcO := hgr.box.cell
    have q0 := boxedFr HP0.out hf
    have q1 := boxedFr HP1.out hf
    have e0 := q0.cell
    have e1 := q1.cell
    have z0 := q0.frozen
    have z1 := q1.frozen
    have HQ0 := Lib.hid q0
    have HQ1 := Lib.hid q1
    have HGR := Lib.hid hgr
    have HEC := Lib.hid hec
    have HF := Lib.hid hf
    have HK := Lib.hid hK
    have HNF := Lib.hid hnf
    clear hgr hec hf hK q0 q1 hTs hxs hxs' hlen hnf hP2 hfP1
    go_wp2
    obtain ⟨W', hW'⟩ : ∃ x, (W.setCell ⟨w.heap.size, 0, none⟩ (.slice A nf c')).setCell ⟨w.heap.size + 1, 0, none⟩ (.int .i64 0) = x := ⟨_, rfl⟩
    have hK := HK.out
    have hwP := HZP.out
    have hwf := HFP.out.size
    have o3 : Only (fun i => i = w.heap.size ∨ i = w.heap.size + 1) W W' := by
      rw [← hW']
      exact Only.setCell (S := fun i => i = w.heap.size ∨ i = w.heap.size + 1) (Only.setCell (S := fun i => i = w.heap.size ∨ i = w.heap.size + 1) (Only.refl _ _) (p := ⟨w.heap.size, 0, none⟩) (.inl rfl) _) (p := ⟨w.heap.size + 1, 0, none⟩) (.inr rfl) _
    have r0 : Boxed W' w.heap.size 22 (.slice A nf c') := by rw [← hW']; exact (HQ0.out.set _).other (by omega) _
    have r1 : Boxed W' (w.heap.size + 1) 30 (.int .i64 0) := by rw [← hW']; exact (HQ1.out.other (by omega) _).set _
    have k1 : W'.heap[D']? = some (.deferred (some [])) := (o3.block D' (Array.getElem?_eq_some_iff.1 hK).1 (by omega)).trans hK
    have o4 : Only (fun i => i = D') W' (W'.putObj D' (.deferred none)) := ⟨rfl, rfl, rfl, by simp, fun i _ hi => World.putObj_heap_other hi⟩
    have s0 := (boxedOnly r0 o4 (by omega)).cell
    have s1 := (boxedOnly r1 o4 (by omega)).cell
    have o5 : Only (fun i => i = w.heap.size ∨ i = w.heap.size + 1 ∨ i = D') W (W'.putObj D' (.deferred none)) := Only.trans (Only.mono o3 fun i h => by omega) (Only.mono o4 fun i h => by omega)
    have hno : ∀ i, Loose W i → ¬ (i = w.heap.size ∨ i = w.heap.size + 1 ∨ i = D') := fun i hl h => by
      obtain ⟨cs, hl⟩ := hl
      rcases h with rfl | rfl | rfl
      · have := hl.symm.trans HQ0.out; injection this with this; injection this with _ this; exact absurd this (by decide)
      · have := hl.symm.trans HQ1.out; injection this with this; injection this with _ this; exact absurd this (by decide)
      · have := hl.symm.trans hK; injection this with this; cases this
    rw [hW']
    refine ⟨by simp, .inl ⟨_, _, rfl, run_takeDeferred k1, ?_⟩⟩
    refine ⟨.tuple #[.slice A nf c', .int .i64 0], by simp [results, Tryz.results15, go_sem, s0, s1], .slice A nf c', ys, T, rfl, ?_, ?_, fun g hg => (HGR.out.set g).2 (.inr hg), ?_⟩
    · rw [HNF.out]
      refine World.ownsRow.mono (own_only HGR.out.row o5 fun g hg h => ?_) (by omega)
      obtain ⟨h1, h2, cur, h3⟩ := HGR.out.blk hg
      rcases h with h | h | rfl
      · omega
      · omega
      · rw [hK] at h3
        cases h3
    · exact EntCells.imp HEC.out fun v bs h => Byt.mono (S := fun i => (w.heap.size ≤ i ∧ ¬ T i) ∧ Loose W i) (Byt.only h o5 fun i _ hi => hno i hi.2) fun i hi => ⟨hi.1, hi.2.only o5 (hno i hi.2)⟩
    · have h1 := HFP.out
      have h2 := HF.out
      exact ⟨o5.os.trans (h2.os.trans h1.os), o5.tape.trans (h2.tape.trans h1.tape), o5.output.trans (h2.output.trans h1.output), Nat.le_trans h1.size (Nat.le_trans h2.size o5.size), fun i hi => (o5.block i (by have := h2.size; omega) (by have := HF1.out.size; omega)).trans ((h2.block i (by omega)).trans (h1.block i hi))⟩
end Go.Proofs.YtiffgjodbcploaaGreat
end
section
namespace Go.Proofs.YtiffgjodbcploaaGreat
set_option maxRecDepth 100000
open Go.RowKit Go.BigFrame Go.Shelf
attribute [local go_sem ↓] Go.wp_at_zero Go.wp_at_succ
theorem Ents.monoLt {w : World} {S S' : Nat → Prop} {v : Value} {es : List Ent} (h : Ents w S v es) (hS : ∀ i, i < w.heap.size → S i → S' i) : Ents w S' v es := by
  obtain ⟨A, c, cs, e, h1, h2, h3, h4, h5⟩ := h
  exact ⟨A, c, cs, e, h1, h2, h3, ⟨h4.1, fun hn => by obtain ⟨b, o, e, k1, hb, hc⟩ := h4.2 hn; exact ⟨b, o, e, hS b hb k1, hb, hc⟩⟩, h5.imp fun v bs h => h.monoLt hS⟩
theorem Ents.some_form {w : World} {S : Nat → Prop} {v : Value} {es : List Ent} (h : Ents w S v es) (hp : 0 < es.length) : ∃ g o c, v = .slice (some ⟨g, o, none⟩) es.length c := by
  obtain ⟨A, c, cs, rfl, h1, h2, h3, h4, h5⟩ := h
  obtain ⟨b, o, rfl, _⟩ := h4.2 hp
  exact ⟨b, o, c, rfl⟩
theorem Ents.form {w : World} {S : Nat → Prop} {v : Value} {es : List Ent} (h : Ents w S v es) : ∃ A c, v = .slice A es.length c := by
  obtain ⟨A, c, cs, rfl, _⟩ := h
  exact ⟨A, c, rfl⟩
set_option maxRecDepth 100000 in
set_option maxHeartbeats 1000000 in
theorem made_any (S : Nat → Prop) (A : Option Addr) (N c size : Nat) (es : List Ent) (w : World) (hv : Ents w S (.slice A N c) es) (hN : es.length = N) (hsz : 1 ≤ size ∧ size ≤ 1024) (hord : orderedE es = true) (hN0 : 0 < N) (hN2 : N ≤ 16777216) (hB2 : bytesE es ≤ 16777216) :
    Calls Tryz.prog 19 #[.slice A N c, .int .i64 size] w fun r w' => ∃ Tb p ps, r = .returned (.tuple #[.pointer (some ⟨Tb, 0, none⟩), .pointer (some ⟨p, 0, none⟩)]) ∧ PartsOk es ps ∧ 0 < ps.length ∧ TabS w' (fun i => w.heap.size ≤ i ∧ i < w'.heap.size) Tb N es ps ∧
      (∃ F, DiskP w' F p (calm1 [116] (sealF (fileF N ps))) ∧ ∀ i, F i → w.heap.size ≤ i) ∧ fr w w' := by
  have HV := Lib.hid hv
  have HN := Lib.hid hN
  have HORD := Lib.hid hord
  clear hv hN hord
  go_enter Tryz.func19, Tryz.ntmps19
  go_wp2_with (fail)
  refine (calm_any _).mono ?_
  rintro r w0 ⟨rfl, f0⟩
  have HF0 := Lib.hid f0
  clear f0
  go_wp2_with (fail)
  refine (new_dk (fun _ => True) (-1) (-1) _ [] w0 (IntsIn.nil _ _) (by simp) w.heap.size HF0.out.size).mono ?_
  rintro r w1 ⟨p, rfl, h1, hb1⟩
  obtain ⟨F, h1, hF⟩ := h1
  have H1 := Lib.hid (h1 : DiskP w1 F p calm0)
  have HFF := Lib.hid hF
  have HB1 := Lib.hid (HF0.out.trans (hb1.mono HF0.out.size))
  clear h1 hb1 hF
  go_wp2_with (fail)
  refine (copy_any S _ es w1 (HV.out.below HB1.out)).mono ?_
  rintro r w2 ⟨v2, rfl, hv2, hb2⟩
  obtain ⟨g, o, c2, rfl⟩ := hv2.some_form (by rw [HN.out]; exact hN0)
  rw [HN.out] at hv2 ⊢
  have HV2 := Lib.hid (hv2.monoLt (S' := fun i => w1.heap.size ≤ i ∧ i < w2.heap.size) fun i hi h => ⟨h, hi⟩)
  have HB2 := Lib.hid (HB1.out.trans (hb2.mono HB1.out.size))
  have H2 := Lib.hid (H1.out.below hb2)
  clear hv2 hb2
  go_wp2_with (fail)
  refine (write_calm F p _ g o N c2 size es w2 H2.out HV2.out HN.out (fun i h => h.2) hsz HORD.out hN0 hN2 hB2).mono ?_
  rintro r w3 ⟨ps, hps, rfl, h3, o3⟩
  have HPS := Lib.hid hps
  have H3 := Lib.hid h3
  have hb3 : Below w.heap.size w w3 := HB2.out.trans (o3.below HB2.out.size fun i hi => (HFF.out i hi).1)
  have HB3 := Lib.hid hb3
  clear hps h3 o3 hb3
  go_wp2_with (fail)
  refine (open_ok _ p _ [116] N es ps w3 H3.out (by simp) (calm_ready1 _) (calm_read1 _) HPS.out HN.out hN0 hN2 hB2 HORD.out).mono ?_
  rintro r w4 ⟨Tb, rfl, hT, f4⟩
  have hps0 : 0 < ps.length := by
    rcases Nat.eq_zero_or_pos ps.length with h | h
    · have h1 := HPS.out.all
      rw [List.eq_nil_of_length_eq_zero h] at h1
      simp at h1
      rw [h1] at HN
      have := HN.out
      simp at this
      omega
    · exact h
  have HT := Lib.hid (hT.set hps0)
  have H4 := Lib.hid (H3.out.below f4)
  have HF4 := Lib.hid (HB3.out.trans (Below.mono f4 HB3.out.size))
  have hz := HB3.out.size
  have hz2 := HB2.out.size
  clear hT f4
  go_wp2
  refine bodyPost_ret (v := .tuple #[.pointer (some ⟨Tb, 0, none⟩), .pointer (some ⟨p, 0, none⟩)]) (by simp [results, Tryz.results19, go_sem]) rfl ?_
  refine ⟨Tb, p, ps, rfl, HPS.out, hps0, ?_, ⟨_, H4.out, fun i hi => ?_⟩, HF4.out⟩
  · obtain ⟨b, o, n, c, gp, pc, A, ll, lc, ys, k1, k2, k3, k4, k5, k6, k7, k8⟩ := HT.out
    have hm : ∀ i, w3.heap.size ≤ i ∧ i < w4.heap.size → w.heap.size ≤ i ∧ i < w4.heap.size := fun i h => ⟨by omega, h.2⟩
    exact ⟨b, o, n, c, gp, pc, A, ll, lc, ys, k1, k2, k3.mono hm, k4, fun i p e hp he => by obtain ⟨a1, k, a2, a3⟩ := k5 i p e hp he; exact ⟨a1, k, a2, a3.mono hm⟩, fun e he => (k6 e he).mono hm, hm _ k7, hm _ k8⟩
  · rcases hi with h | h
    · exact (HFF.out i h).1
    · omega
end Go.Proofs.YtiffgjodbcploaaGreat
end
section
namespace Go.Proofs.YtiffgjodbcploaaGreat
set_option maxRecDepth 100000
open Go.RowKit Go.BigFrame Go.Shelf
attribute [local go_sem ↓] Go.wp_at_zero Go.wp_at_succ
theorem fr.cells3 {W w' : World} {p q r : Addr} {x y z : Value} (h : fr W w') (c0 : W.cell? p = some x) (c1 : W.cell? q = some y) (c2 : W.cell? r = some z) : w'.cell? p = some x ∧ w'.cell? q = some y ∧ w'.cell? r = some z := ⟨h.cell c0, h.cell c1, h.cell c2⟩
theorem BytL.fr {w w' : World} {lo : Nat} {v : Value} {bs : List UInt8} (h : BytL w lo v bs) (f : Go.Proofs.YtiffgjodbcploaaGreat.fr w w') : BytL w' lo v bs := Byt.idle (Z := fun _ => False) (base := 0) (R := fun i => lo ≤ i) h (Idle.of_below f) fun _ _ h => h
set_option maxRecDepth 100000 in
set_option maxHeartbeats 1000000 in
theorem bounds_core (S : Nat → Prop) (Tb gp pc m nk ck nl cl : Nat) (A0 A1 : Option Addr) (k l : List UInt8) (w : World) (hm : 0 < m) (h1 : w.cell? ⟨Tb, 1, none⟩ = some (.slice (some ⟨gp, 0, none⟩) m pc)) (h3 : w.cell? ⟨Tb, 3, none⟩ = some (.slice A1 nl cl)) (hg : w.cell? ⟨gp, 1, none⟩ = some (.slice A0 nk ck)) (hk : Byt w S (.slice A0 nk ck) k) (hl : Byt w S (.slice A1 nl cl) l) :
    Calls Tryz.prog 16 #[.pointer (some ⟨Tb, 0, none⟩)] w fun r w' => ∃ v0 v1, r = .returned (.tuple #[v0, v1]) ∧ BytL w' w.heap.size v0 k ∧ BytL w' w.heap.size v1 l ∧ fr w w' := by
  have HC0 : Hid (∀ wx, fr w wx → Calls Tryz.prog 39 #[.slice A0 nk ck] wx fun r w' => ∃ A c, r = .returned (.slice A k.length c) ∧ BytL w' w.heap.size (.slice A k.length c) k ∧ fr wx w') := Lib.hid fun wx hx => by
    refine (bcloneL_any _ _ k wx (hk.below hx)).mono ?_
    rintro r w' ⟨v, rfl, h, f⟩
    obtain ⟨A, c, rfl⟩ := slice_form h
    exact ⟨A, c, rfl, BytL.mono h hx.size, f⟩
  have HC1 : Hid (∀ wx, fr w wx → Calls Tryz.prog 39 #[.slice A1 nl cl] wx fun r w' => ∃ A c, r = .returned (.slice A l.length c) ∧ BytL w' w.heap.size (.slice A l.length c) l ∧ fr wx w') := Lib.hid fun wx hx => by
    refine (bcloneL_any _ _ l wx (hl.below hx)).mono ?_
    rintro r w' ⟨v, rfl, h, f⟩
    obtain ⟨A, c, rfl⟩ := slice_form h
    exact ⟨A, c, rfl, BytL.mono h hx.size, f⟩
  clear hk hl
  have hmz : (0 : Int) < (m : Int) := by omega
  go_enter Tryz.func16, Tryz.ntmps16
  go_upto_region 3 with (fail)
  go_region_held3 (fun w' => w'.cell? ⟨Tb, 1, none⟩ = some (.slice (some ⟨gp, 0, none⟩) m pc) ∧ w'.cell? ⟨Tb, 3, none⟩ = some (.slice A1 nl cl) ∧ w'.cell? ⟨gp, 1, none⟩ = some (.slice A0 nk ck))
    ((refine fr.cells3 (W := w) ?_ h1 h3 hg; (focus ((repeat (first | with_reducible assumption | with_reducible exact fr.refl | with_reducible refine fr.alloc ?_ _ | with_reducible refine fr.drew ?_)))); done))
    (first
      | (go_split_ands; go_at_call 39; (with_reducible refine Calls.mono (HC0.out _ ?_) ?_); (focus ((repeat (first | with_reducible assumption | with_reducible exact fr.refl | with_reducible refine fr.alloc ?_ _ | with_reducible refine fr.drew ?_)))); rintro r w1 ⟨B0, e0, rfl, b0, g0⟩; (have f0 : fr w w1 := fr.step (by (repeat (first | with_reducible assumption | with_reducible exact fr.refl | with_reducible refine fr.alloc ?_ _ | with_reducible refine fr.drew ?_))) g0); (try (have k1 := BytL.fr b1 g0)))
      | (go_split_ands; go_at_call 39; (with_reducible refine Calls.mono (HC1.out _ ?_) ?_); (focus ((repeat (first | with_reducible assumption | with_reducible exact fr.refl | with_reducible refine fr.alloc ?_ _ | with_reducible refine fr.drew ?_)))); rintro r w2 ⟨B1, e1, rfl, b1, g1⟩; (have f1 : fr w w2 := fr.step (by (repeat (first | with_reducible assumption | with_reducible exact fr.refl | with_reducible refine fr.alloc ?_ _ | with_reducible refine fr.drew ?_))) g1); (try (have k0 := BytL.fr b0 g1))))
  all_goals
    go_wp2
    refine bodyPost_ret (v := .tuple #[.slice B0 k.length e0, .slice B1 l.length e1]) (by simp [results, Tryz.results16, go_sem]) rfl ?_
    first
      | exact ⟨_, _, rfl, b0, k1, f0⟩
      | exact ⟨_, _, rfl, k0, b1, f1⟩
/-- the least and the greatest key. -/
theorem bounds_any (S : Nat → Prop) (Tb N : Nat) (es : List Ent) (ps : List (List Ent)) (e0 e1 : Ent) (w : World) (ht : TabS w S Tb N es ps) (hpo : PartsOk es ps) (h0 : es[0]? = some e0) (h1 : es[N - 1]? = some e1) :
    Calls Tryz.prog 16 #[.pointer (some ⟨Tb, 0, none⟩)] w fun r w' => ∃ v0 v1, r = .returned (.tuple #[v0, v1]) ∧ BytL w' w.heap.size v0 e0.key ∧ BytL w' w.heap.size v1 e1.key ∧ fr w w' := by
  obtain ⟨b, o, n, c, gp, pc, A, ll, lc, ys, k1, k2, k3, k4, k5, k6, k7, k8⟩ := ht
  obtain ⟨p, hp⟩ : ∃ p, ps[0]? = some p := by
    rcases hps : ps with _ | ⟨p, ps'⟩
    · have := hpo.all
      rw [hps] at this
      simp only [List.flatten_nil] at this
      rw [← this] at h0
      simp at h0
    · exact ⟨p, rfl⟩
  have hl := (List.getElem?_eq_some_iff.1 hp).1
  have hp0 : p[0]? = some e0 := by
    have hpp := (hpo.part p (List.mem_of_getElem? hp)).1
    obtain ⟨e, he⟩ : ∃ e, p[0]? = some e := ⟨_, List.getElem?_eq_getElem hpp⟩
    have hall := hpo.all
    rcases hps : ps with _ | ⟨q, ps'⟩
    · rw [hps] at hp; simp at hp
    · rw [hps] at hp hall
      simp only [List.getElem?_cons_zero, Option.some.injEq] at hp
      subst hp
      rw [List.flatten_cons] at hall
      rw [← hall, List.getElem?_append_left hpp] at h0
      exact h0
  obtain ⟨_, k, hk1, hk2⟩ := k5 0 p e0 hp hp0
  obtain ⟨Ak, ck, rfl⟩ := slice_form hk2
  have hlast := k6 e1 h1
  obtain ⟨A', c', hE, _⟩ := hlast
  have hll : ll = e1.key.length := by simp only [Value.slice.injEq] at hE; exact hE.2.1
  have hc := k4.cells (g := gp) rfl 1 _ (by simpa using hk1)
  rw [Addr.add_lit, Nat.zero_add] at hc
  exact bounds_core S Tb gp pc ps.length _ _ _ _ _ _ e0.key e1.key w hl (cell_of_row w Tb 1 _ _ _ k1) (cell_of_row w Tb 3 _ _ _ k1) hc hk2 (k6 e1 h1)
end Go.Proofs.YtiffgjodbcploaaGreat
end
section
namespace Go.Proofs.YtiffgjodbcploaaGreat
set_option maxRecDepth 100000
open Go.RowKit Go.BigFrame
attribute [local go_sem ↓] Go.wp_at_zero Go.wp_at_succ
theorem ba_take (A : ByteArray) (k : Nat) (h : k < A.size) : A.data.toList.take (k + 1) = A.data.toList.take k ++ [A[k]] := by
  rw [List.take_add_one, List.getElem?_eq_getElem (by simpa using h)]; rfl
theorem ba_bad (A : ByteArray) (k : Nat) (h : k < A.size) (hb : okByte A[k] = false) : nameB A.data.toList = false := by
  have : A.data.toList.all okByte = false := by
    rw [List.all_eq_false]
    refine ⟨A[k], ?_, by rw [hb]; simp⟩
    have : A.data.toList[k]? = some A[k] := by rw [List.getElem?_eq_getElem (by simpa using h)]; rfl
    exact List.mem_of_getElem? this
  unfold nameB
  rw [this, Bool.and_false]
set_option maxRecDepth 100000 in
set_option maxHeartbeats 4000000 in
theorem rname_ba (A : ByteArray) (w : World) (hx : A.size ≤ 140737488355328) :
    Calls Tryz.prog 12 #[.string A] w fun e w' => e = .returned (.bool (nameB A.data.toList)) ∧ w = w' := by
  go_enter Tryz.func12, Tryz.ntmps12
  go_wp2
  go_loopw [3] (fun t wr => ∃ k : Nat, k ≤ A.size ∧ t = .int .i64 k ∧ (A.data.toList.take k).all okByte = true ∧ wr = w) (fun t _ => A.size - (intOf t).toNat)
  case atStart => exact ⟨0, by omega, rfl, rfl, rfl⟩
  case round =>
    obtain ⟨k, hk, rfl, hall, rfl⟩ := hrel
    have HALL := Lib.hid hall
    clear hall
    by_cases h1 : k < A.size
    · have HT := Lib.hid (ba_take A k h1)
      have HBAD := Lib.hid (ba_bad A k h1)
      have hok : Hid (okByte A[k] = !badRune A[k].toNat) := Lib.hid (by rw [badRune_byte, Bool.not_not])
      have hb := A[k].toNat_lt
      rcases (by omega : (A[k].toNat : Int) < 45 ∨ (A[k].toNat : Int) = 45 ∨ (A[k].toNat : Int) = 46 ∨ (A[k].toNat : Int) = 47 ∨ (48 ≤ (A[k].toNat : Int) ∧ (A[k].toNat : Int) ≤ 57) ∨ (58 ≤ (A[k].toNat : Int) ∧ (A[k].toNat : Int) < 97) ∨ (97 ≤ (A[k].toNat : Int) ∧ (A[k].toNat : Int) ≤ 122) ∨ 122 < (A[k].toNat : Int)) with h | h | h | h | h | h | h | h
      all_goals
        first
          | (have hg : okByte A[k] = true := by (rw [hok.out]; unfold badRune; generalize A[k].toNat = z at *; simp; omega)
             have HG := Lib.hid hg
             clear hg
             go_wp2
             all_goals first | (exfalso; omega) | skip
             refine ⟨⟨k + 1, by omega, by go_num, by rw [HT.out, List.all_append, HALL.out, List.all_cons, HG.out]; rfl, by trivial⟩, by simp [intOf]; omega⟩)
          | (have hg : okByte A[k] = false := by (rw [hok.out]; unfold badRune; generalize A[k].toNat = z at *; simp; omega)
             have HG := Lib.hid (HBAD.out hg)
             clear hg
             go_wp2
             all_goals first | (exfalso; omega) | (go_ret; exact ⟨ret_bool HG.out.symm, rfl⟩) | (exfalso; rename_i hh; revert hh; generalize (A[k].toNat : Int) = z at *; intro hh; simp at hh; omega))
    · have h1' : k = A.size := by omega
      have hlen : A.data.toList.length = A.size := by simp
      have hall' : A.data.toList.all okByte = true := by
        have := HALL.out
        rwa [List.take_of_length_le (by omega)] at this
      have HA' := Lib.hid hall'
      have HL := Lib.hid hlen
      clear hall' hlen
      by_cases h2 : A.size = 0
      · have h3 : Hid (nameB A.data.toList = false) := Lib.hid (by
          have : A.data.toList = [] := List.eq_nil_of_length_eq_zero (HL.out.trans h2)
          rw [this]; rfl)
        have g1 : decide (1 ≤ (A.size : Int)) = false := decide_eq_false (by omega)
        go_wp2
        go_ret
        exact ⟨ret_bool h3.out.symm, rfl⟩
      · by_cases h3 : A.size ≤ 32
        · have h4 : Hid (nameB A.data.toList = true) := Lib.hid (by
            unfold nameB
            rw [HA'.out, HL.out, decide_eq_true h3]
            rw [show A.data.toList.isEmpty = false from by rw [Bool.eq_false_iff]; intro e; exact h2 (by rw [← HL.out, List.isEmpty_iff.1 e]; rfl)]
            rfl)
          have g1 : decide (1 ≤ (A.size : Int)) = true := decide_eq_true (by omega)
          go_wp2
          go_ret
          exact ⟨ret_bool (by rw [h4.out, decide_eq_true (by omega)]), rfl⟩
        · have h4 : Hid (nameB A.data.toList = false) := Lib.hid (by
            unfold nameB
            rw [HL.out, decide_eq_false h3]
            simp)
          have g1 : decide (1 ≤ (A.size : Int)) = true := decide_eq_true (by omega)
          go_wp2
          go_ret
          exact ⟨ret_bool (by rw [h4.out, decide_eq_false (by omega)]), rfl⟩
theorem rname_any (s : Nm) (w : World) (hl : s.length ≤ 140737488355328) :
    Calls Tryz.prog 12 #[.string ⟨s.toArray⟩] w fun e w' => e = .returned (.bool (nameB s)) ∧ w = w' := by
  have h := rname_ba ⟨s.toArray⟩ w (by rw [ba_size]; exact hl)
  simpa using h
end Go.Proofs.YtiffgjodbcploaaGreat
end
