/-
The arguments of law 10: entries under the bound of the second form, a Look.
-/
import Derived.Test.YtiffgjodbcploaaQPOwnUpto16
import Derived.Test.YtiffgjodbcploaaQPOwnUpto15
import Derived.Test.YtiffgjodbcploaaQPOwnUpto2
import Derived.Deep.Slices
import Derived.Lib.SmallJoins
import Derived.OpenShut
import Derived.SizedLaws
import Derived.Test.YtiffgjodbcploaaRows
import Derived.Test.YtiffgjodbcploaaQPOwnUpto8
section
namespace Go.Proofs.Ytiffgjodbcploaa
open Go.RowKit Go.BigFrame Go.Shelf
attribute [local go_sem ↓] Go.wp_at_zero Go.wp_at_succ
def matchE (key : List UInt8) (s : Int) (e : Ent) : Bool := decide (e.key = key) && decide (e.seq ≤ s)
/-- what the loop of Get has found. -/
def AtR (key : List UInt8) (s : Int) (es : List Ent) (k : Nat) (a : Int) : Prop :=
  (a = -1 ∧ ∀ e ∈ es.take k, matchE key s e = false) ∨ ∃ (m : Nat) (e : Ent), a = m ∧ m < k ∧ es[m]? = some e ∧ matchE key s e = true ∧ ∀ e' ∈ es.take m, matchE key s e' = false
theorem findn {f : Ent → Bool} {es : List Ent} (h : ∀ e ∈ es, f e = false) : es.find? f = none := by
  rw [List.find?_eq_none]
  intro e he
  rw [h e he]
  decide
theorem finds {f : Ent → Bool} {es : List Ent} {m : Nat} {e : Ent} (he : es[m]? = some e) (hf : f e = true) (h : ∀ e' ∈ es.take m, f e' = false) : es.find? f = some e := by
  have hl := (List.getElem?_eq_some_iff.1 he).1
  have e1 : es = es.take m ++ e :: es.drop (m + 1) := by
    conv => lhs; rw [← List.take_append_drop m es, List.drop_eq_getElem_cons hl, (List.getElem?_eq_some_iff.1 he).2]
  rw [e1, List.find?_append, findn h, List.find?_cons, hf]
  rfl
/-- the first of a key is the one with the greatest number. -/
theorem get_first {key : List UInt8} {s : Int} : ∀ {es : List Ent}, es.Pairwise before → getF key s (fromE key es) = es.find? (matchE key s)
  | [], _ => rfl
  | e :: l, h => by
    obtain ⟨h1, h2⟩ := List.pairwise_cons.1 h
    have ih := get_first (key := key) (s := s) h2
    rw [List.find?_cons]
    by_cases hq : 0 ≤ cmpB e.key key
    · have hf : fromE key (e :: l) = e :: fromE key l := by unfold fromE; rw [List.filter_cons_of_pos]; unfold fromQ; simpa using hq
      rw [hf, getF]
      by_cases hk : e.key = key
      · rw [if_pos hk]
        by_cases hs : e.seq ≤ s
        · rw [if_pos hs]
          have : matchE key s e = true := by unfold matchE; simp [hk, hs]
          rw [this]
        · rw [if_neg hs]
          have : matchE key s e = false := by unfold matchE; simp [hs]
          rw [this]
          exact ih
      · rw [if_neg hk]
        have : matchE key s e = false := by unfold matchE; simp [hk]
        rw [this]
        refine (findn fun a ha => ?_).symm
        unfold matchE
        have h4 := h1 a ha
        have : a.key ≠ key := fun e1 => by
          unfold before cmpE at h4
          split at h4
          · rename_i h0
            exact hk ((cmpB_eq.1 h0).trans e1)
          · rw [e1] at h4
            omega
        simp [this]
    · have hf : fromE key (e :: l) = fromE key l := by unfold fromE; rw [List.filter_cons_of_neg]; unfold fromQ; simpa using hq
      rw [hf]
      have hk : e.key ≠ key := fun e1 => hq (by rw [e1, cmpB_eq.2 rfl]; exact Int.le_refl _)
      have : matchE key s e = false := by unfold matchE; simp [hk]
      rw [this]
      exact ih
theorem AtR.skip {key : List UInt8} {s : Int} {es : List Ent} {k : Nat} {a : Int} {e : Ent} (h : AtR key s es k a) (he : es[k]? = some e) (hm : matchE key s e = false) : AtR key s es (k + 1) a := by
  rcases h with ⟨h1, h2⟩ | ⟨m, e', h1, h2, h3⟩
  · refine .inl ⟨h1, fun x hx => ?_⟩
    rw [take_snoc he, List.mem_append] at hx
    rcases hx with hx | hx
    · exact h2 x hx
    · obtain rfl : x = e := by simpa using hx
      exact hm
  · exact .inr ⟨m, e', h1, by omega, h3⟩
theorem AtR.hit {key : List UInt8} {s : Int} {es : List Ent} {k : Nat} {a : Int} {e : Ent} (h : AtR key s es k a) (ha : a < 0) (he : es[k]? = some e) (hm : matchE key s e = true) : AtR key s es (k + 1) k := by
  rcases h with ⟨h1, h2⟩ | ⟨m, e', h1, h2, h3⟩
  · exact .inr ⟨k, e, rfl, by omega, he, hm, h2⟩
  · omega
theorem AtR.old {key : List UInt8} {s : Int} {es : List Ent} {k : Nat} {a : Int} (h : AtR key s es k a) (ha : ¬ a < 0) : ∃ (m : Nat) (e : Ent), a = m ∧ m < k ∧ es[m]? = some e ∧ matchE key s e = true := by
  rcases h with ⟨h1, h2⟩ | ⟨m, e', h1, h2, h3, h4, _⟩
  · omega
  · exact ⟨m, e', h1, h2, h3, h4⟩
theorem AtR.key {key : List UInt8} {s : Int} {es : List Ent} {k m : Nat} {e : Ent} (h : AtR key s es k m) (ha : ¬ (m : Int) < 0) (he : es[m]? = some e) : e.key = key := by
  obtain ⟨m', e', h1, _, h3, h4⟩ := h.old ha
  obtain rfl : m = m' := by omega
  rw [he] at h3
  injection h3 with h3
  subst h3
  unfold matchE at h4
  simp at h4
  exact h4.1
theorem AtR.keep {key : List UInt8} {s : Int} {es : List Ent} {k : Nat} {a : Int} {e : Ent} (h : AtR key s es k a) (_he : es[k]? = some e) (ha : ¬ a < 0) : AtR key s es (k + 1) a := by
  rcases h with ⟨h1, h2⟩ | ⟨m, e', h1, h2, h3⟩
  · omega
  · exact .inr ⟨m, e', h1, by omega, h3⟩
theorem later_lt {key : List UInt8} {es : List Ent} {m k : Nat} {e e' : Ent} (hpw : es.Pairwise before) (hm : es[m]? = some e') (hk : es[k]? = some e) (hmk : m < k) (h1 : e'.key = key) (h2 : e.key = key) : e.seq < e'.seq := by
  have l1 := (List.getElem?_eq_some_iff.1 hm).1
  have l2 := (List.getElem?_eq_some_iff.1 hk).1
  have h := List.pairwise_iff_getElem.1 hpw m k l1 l2 hmk
  rw [(List.getElem?_eq_some_iff.1 hm).2, (List.getElem?_eq_some_iff.1 hk).2] at h
  unfold before cmpE cmpI at h
  rw [h1, h2, if_pos (cmpB_eq.2 rfl)] at h
  split at h
  · assumption
  · split at h <;> omega
theorem put4E {w : World} {pb : Nat} {a b c d u0 u1 u2 u3 : Value} (h : w.heap[pb]? = some (.cells #[a, b, c, d] 34 (0, 0))) :
    ((((w.setCell ⟨pb, 0, none⟩ u0).setCell ⟨pb, 1, none⟩ u1).setCell ⟨pb, 2, none⟩ u2).setCell ⟨pb, 3, none⟩ u3).heap[pb]? = some (.cells #[u0, u1, u2, u3] 34 (0, 0)) :=
  heap_setCell_same _ _ _ _ _ _ (heap_setCell_same _ _ _ _ _ _ (heap_setCell_same _ _ _ _ _ _ (heap_setCell_same w _ _ _ _ _ h)))
/-- the answer of Get: an entry of the list, or none. -/
def GotR (w : World) (v : Value) (ok : Bool) : Option Ent → Prop
  | none => ok = false ∧ v = .agg #[.slice none 0 0, .int .i64 0, .bool false, .slice none 0 0]
  | some e => ok = true ∧ EntV w (fun _ => True) v e
set_option maxRecDepth 100000 in
set_option maxHeartbeats 1000000 in
theorem rget_any (S S1 : Nat → Prop) (v : Value) (nk ck : Nat) (Ak : Option Addr) (key : List UInt8) (s : Int) (es : List Ent) (w : World) (hv : Ents w S v es) (hk : Byt w S1 (.slice Ak nk ck) key) (hpw : es.Pairwise before) :
    Calls Try.prog 10 #[v, .slice Ak nk ck, .int .i64 s] w fun r w' => ∃ x ok, r = .returned (.tuple #[x, .bool ok]) ∧ GotR w' x ok (es.find? (matchE key s)) ∧ fr w w' := by
  obtain ⟨A, c, cs, rfl, hc, hcm, hle, hr, he⟩ := hv
  obtain ⟨n, hn⟩ : ∃ n, es.length = n := ⟨_, rfl⟩
  rw [hn] at hr hle ⊢
  have HN := Lib.hid hn
  have HK := Lib.hid hk
  have HPW := Lib.hid hpw
  have hZ := heap_alloc_new w (.cells #[.slice none 0 0, .int .i64 0, .bool false, .slice none 0 0] 34)
  obtain ⟨wB, hwB⟩ : ∃ x, w.alloc (.cells #[.slice none 0 0, .int .i64 0, .bool false, .slice none 0 0] 34) = x := ⟨_, rfl⟩
  rw [hwB] at hZ
  have hfB : fr w wB := by rw [← hwB]; exact fr.alloc fr.refl _
  have HFB := Lib.hid hfB
  have HWB := Lib.hid hwB
  have HZ := Lib.hid hZ
  clear hn hk hpw hwB hfB hZ
  go_enter Try.func10, Try.ntmps10
  go_wp2_with (rw [HWB.out])
  go_loopw [8, 12] (fun v t wr => ∃ (k : Nat) (a : Int), k ≤ n ∧ v = .int .i64 a ∧ t = .int .i64 k ∧ AtR key s es k a ∧ ∃ q, wr = wB.drewN q) (fun _ t _ => n - (intOf t).toNat)
  case atStart => exact ⟨0, -1, by omega, rfl, rfl, .inl ⟨rfl, fun e h => by simp at h⟩, 0, rfl⟩
  case round =>
    obtain ⟨k, a, hkn0, rfl, rfl, hat, q, rfl⟩ := hrel
    have hfq : fr w (wB.drewN q) := below_drewN HFB.out q
    have HFQ := Lib.hid hfq
    clear hfq
    by_cases hkn : k < n
    · obtain ⟨e, hek⟩ : ∃ e, es[k]? = some e := ⟨_, List.getElem?_eq_getElem (by rw [HN.out]; exact hkn)⟩
      obtain ⟨b, o, kk, uu, rfl, c0, c1, c2, c3, b1, b2, _, _⟩ := hr.ent he HN.out hek
      obtain ⟨Aj, cj, rfl⟩ := slice_form b1
      have d0 := fr.cell HFB.out c0
      have d1 := fr.cell HFB.out c1
      have k0 := fun n => (b1.below (below_drewN HFB.out n)).convert
      have k1 := fun n => (HK.out.below (below_drewN HFB.out n)).convert
      obtain ⟨X, hX⟩ : ∃ X : ByteArray, X = ⟨e.key.toArray⟩ := ⟨_, rfl⟩
      obtain ⟨Y, hY⟩ : ∃ Y : ByteArray, Y = ⟨key.toArray⟩ := ⟨_, rfl⟩
      rw [← hX] at k0
      rw [← hY] at k1
      have hXY : (X.toList == Y.toList) = decide (e.key = key) := by rw [hX, hY, Bool.eq_iff_iff]; simp [ByteArray.toList_eq]
      have HEK := Lib.hid hek
      have HAT := Lib.hid hat
      have HXY := Lib.hid hXY
      clear b1 b2 hat hek c0 c1 c2 c3 hX hY hXY
      by_cases hkey : e.key = key
      · have hb : (X.toList == Y.toList) = true := by rw [HXY.out]; exact decide_eq_true hkey
        have HKEY := Lib.hid hkey
        clear hkey
        by_cases hs : e.seq ≤ s
        · have hm : matchE key s e = true := by unfold matchE; simp [HKEY.out, hs]
          have HM := Lib.hid hm
          clear hm
          by_cases ha : a < 0
          · go_wp2
            go_quiet (fail)
            go_wp2
            exact ⟨⟨k + 1, k, by omega, by first | rfl | go_num, by go_num, HAT.out.hit ha HEK.out HM.out, _, rfl⟩, by simp [intOf]; omega⟩
          · obtain ⟨m, e', rfl, hmk, hem, hml⟩ := HAT.out.old ha
            have hlt := later_lt HPW.out hem HEK.out hmk (HAT.out.key ha hem) HKEY.out
            obtain ⟨b', o', kk', uu', hbo, _, c1', _, _, _, _, _, _⟩ := hr.ent he HN.out hem
            simp only [Option.some.injEq, Addr.mk.injEq, and_true] at hbo
            obtain ⟨rfl, rfl⟩ := hbo
            have d1' := fr.cell HFB.out c1'
            have hgt : ¬ e.seq > e'.seq := by omega
            have hmn : m < n := by omega
            have HAN := Lib.hid (HAT.out.keep HEK.out ha)
            clear c1' hem hml hlt ha HAT
            go_wp2
            go_quiet (fail)
            go_wp2
            exact ⟨⟨k + 1, m, by omega, rfl, by go_num, HAN.out, _, rfl⟩, by simp [intOf]; omega⟩
        · have hm : matchE key s e = false := by unfold matchE; simp [hs]
          have hsd : decide (e.seq ≤ s) = false := decide_eq_false hs
          have HM := Lib.hid hm
          clear hm
          go_wp2
          go_quiet (fail)
          go_wp2
          exact ⟨⟨k + 1, a, by omega, rfl, by go_num, HAT.out.skip HEK.out HM.out, _, rfl⟩, by simp [intOf]; omega⟩
      · have hb : (X.toList == Y.toList) = false := by rw [HXY.out]; exact decide_eq_false hkey
        have hm : matchE key s e = false := by unfold matchE; simp [hkey]
        have HM := Lib.hid hm
        clear hm hkey
        go_wp2
        go_quiet (fail)
        go_wp2
        exact ⟨⟨k + 1, a, by omega, rfl, by go_num, HAT.out.skip HEK.out HM.out, _, rfl⟩, by simp [intOf]; omega⟩
    · obtain rfl : k = n := by omega
      have hZ : (wB.drewN q).heap[w.heap.size]? = some (.cells #[.slice none 0 0, .int .i64 0, .bool false, .slice none 0 0] 34 (0, 0)) := fr.hp (below_drewN fr.refl q) HZ.out
      have q0 := cell_of_row _ _ 0 _ _ _ hZ
      have q1 := cell_of_row _ _ 1 _ _ _ hZ
      have q2 := cell_of_row _ _ 2 _ _ _ hZ
      have q3 := cell_of_row _ _ 3 _ _ _ hZ
      have z0 := frozen_of_row _ _ 0 _ _ hZ
      have z1 := frozen_of_row _ _ 1 _ _ hZ
      have z2 := frozen_of_row _ _ 2 _ _ hZ
      have z3 := frozen_of_row _ _ 3 _ _ hZ
      have e1 : es.take k = es := List.take_of_length_le (by rw [HN.out]; exact Nat.le_refl _)
      have HZQ := Lib.hid hZ
      obtain ⟨wq, hwq⟩ : ∃ x, wB.drewN q = x := ⟨_, rfl⟩
      rw [hwq] at q0 q1 q2 q3 z0 z1 z2 z3 HZQ HFQ ⊢
      clear hZ hwq
      rcases hat with ⟨rfl, hall⟩ | ⟨m, e, rfl, hmk, hem, hml, hfst⟩
      · have hfn : es.find? (matchE key s) = none := findn (by rw [← e1]; exact hall)
        have HFN := Lib.hid hfn
        clear hall hfn e1
        go_wp2
        have hX := put4E (u0 := .slice none 0 0) (u1 := .int .i64 0) (u2 := .bool false) (u3 := .slice none 0 0) HZQ.out
        have s0 := cell_of_row _ _ 0 _ _ _ hX
        have s1 := cell_of_row _ _ 1 _ _ _ hX
        have s2 := cell_of_row _ _ 2 _ _ _ hX
        have s3 := cell_of_row _ _ 3 _ _ _ hX
        refine bodyPost_ret (v := .tuple #[.agg #[.slice none 0 0, .int .i64 0, .bool false, .slice none 0 0], .bool false]) (by simp [results, Try.results10, go_sem, s0, s1, s2, s3]) rfl ?_
        rw [HFN.out]
        exact ⟨_, _, rfl, ⟨rfl, rfl⟩, fr.putE (fr.putE (fr.putE (fr.putE HFQ.out (Nat.le_refl _)) (Nat.le_refl _)) (Nat.le_refl _)) (Nat.le_refl _)⟩
      · have hfn : es.find? (matchE key s) = some e := finds hem hml hfst
        have HFN := Lib.hid hfn
        obtain ⟨b, o, kk, uu, rfl, c0, c1, c2, c3, b1, b2, _, _⟩ := hr.ent he HN.out hem
        obtain ⟨Aj, cj, rfl⟩ := slice_form b1
        obtain ⟨Au, cu, rfl⟩ := slice_form b2
        obtain ⟨lk, hlk⟩ : ∃ q, e.key.length = q := ⟨_, rfl⟩
        obtain ⟨lu, hlu⟩ : ∃ q, e.val.length = q := ⟨_, rfl⟩
        rw [hlk] at c0 b1
        rw [hlu] at c3 b2
        have d0 := fr.cell HFQ.out c0
        have d1 := fr.cell HFQ.out c1
        have d2 := fr.cell HFQ.out c2
        have d3 := fr.cell HFQ.out c3
        have HB1 := Lib.hid b1
        have HB2 := Lib.hid b2
        clear hem hml hfst hfn e1 c0 c1 c2 c3 b1 b2 hlk hlu
        go_wp2
        have hX := put4E (u0 := .slice Aj lk cj) (u1 := .int .i64 e.seq) (u2 := .bool e.dead) (u3 := .slice Au lu cu) HZQ.out
        have s0 := cell_of_row _ _ 0 _ _ _ hX
        have s1 := cell_of_row _ _ 1 _ _ _ hX
        have s2 := cell_of_row _ _ 2 _ _ _ hX
        have s3 := cell_of_row _ _ 3 _ _ _ hX
        have hfr : fr w ((((wq.setCell ⟨w.heap.size, 0, none⟩ (.slice Aj lk cj)).setCell ⟨w.heap.size, 1, none⟩ (.int .i64 e.seq)).setCell ⟨w.heap.size, 2, none⟩ (.bool e.dead)).setCell ⟨w.heap.size, 3, none⟩ (.slice Au lu cu)) := fr.putE (fr.putE (fr.putE (fr.putE HFQ.out (Nat.le_refl _)) (Nat.le_refl _)) (Nat.le_refl _)) (Nat.le_refl _)
        refine bodyPost_ret (v := .tuple #[.agg #[.slice Aj lk cj, .int .i64 e.seq, .bool e.dead, .slice Au lu cu], .bool true]) (by simp [results, Try.results10, go_sem, s0, s1, s2, s3]) rfl ?_
        rw [HFN.out]
        exact ⟨_, _, rfl, ⟨rfl, _, _, rfl, (HB1.out.below hfr).mono fun _ _ => trivial, (HB2.out.below hfr).mono fun _ _ => trivial⟩, hfr⟩
end Go.Proofs.Ytiffgjodbcploaa
end
section
namespace Go.Proofs.Ytiffgjodbcploaa
open Go.RowKit Go.BigFrame Go.Shelf
attribute [local go_sem ↓] Go.wp_at_zero Go.wp_at_succ
theorem Ents.monoLt {w : World} {S S' : Nat → Prop} {v : Value} {es : List Ent} (h : Ents w S v es) (hS : ∀ i, i < w.heap.size → S i → S' i) : Ents w S' v es := by
  obtain ⟨A, c, cs, e, h1, h2, h3, h4, h5⟩ := h
  exact ⟨A, c, cs, e, h1, h2, h3, ⟨h4.1, fun hn => by obtain ⟨b, o, e, k1, hb, hc⟩ := h4.2 hn; exact ⟨b, o, e, hS b hb k1, hb, hc⟩⟩, h5.imp fun v bs h => h.monoLt hS⟩
theorem Ents.some_form {w : World} {S : Nat → Prop} {v : Value} {es : List Ent} (h : Ents w S v es) (hp : 0 < es.length) : ∃ g o c, v = .slice (some ⟨g, o, none⟩) es.length c := by
  obtain ⟨A, c, cs, rfl, h1, h2, h3, h4, h5⟩ := h
  obtain ⟨b, o, rfl, _⟩ := h4.2 hp
  exact ⟨b, o, c, rfl⟩
theorem Ents.form {w : World} {S : Nat → Prop} {v : Value} {es : List Ent} (h : Ents w S v es) : ∃ A c, v = .slice A es.length c := by
  obtain ⟨A, c, cs, rfl, _⟩ := h
  exact ⟨A, c, rfl⟩
set_option maxRecDepth 100000 in
set_option maxHeartbeats 1000000 in
theorem made_any (S : Nat → Prop) (A : Option Addr) (N c size : Nat) (es : List Ent) (w : World) (hv : Ents w S (.slice A N c) es) (hN : es.length = N) (hsz : 1 ≤ size ∧ size ≤ 1024) (hord : orderedE es = true) (hN0 : 0 < N) (hN2 : N ≤ 16777216) (hB2 : bytesE es ≤ 16777216) :
    Calls Try.prog 8 #[.slice A N c, .int .i64 size] w fun r w' => ∃ Tb p ps, r = .returned (.tuple #[.pointer (some ⟨Tb, 0, none⟩), .pointer (some ⟨p, 0, none⟩)]) ∧ PartsOk es ps ∧ 0 < ps.length ∧ TabS w' (fun i => w.heap.size ≤ i ∧ i < w'.heap.size) Tb N es ps ∧
      (∃ F, DiskP w' F p (calm1 [116] (sealF (fileF N ps))) ∧ ∀ i, F i → w.heap.size ≤ i) ∧ fr w w' := by
  have HV := Lib.hid hv
  have HN := Lib.hid hN
  have HORD := Lib.hid hord
  clear hv hN hord
  go_enter Try.func8, Try.ntmps8
  go_wp2_with (fail)
  refine (calm_any _).mono ?_
  rintro r w0 ⟨rfl, f0⟩
  have HF0 := Lib.hid f0
  clear f0
  go_wp2_with (fail)
  refine (new_dk (fun _ => True) (-1) (-1) _ [] w0 (IntsIn.nil _ _) (by simp) w.heap.size HF0.out.size).mono ?_
  rintro r w1 ⟨p, rfl, h1, hb1⟩
  obtain ⟨F, h1, hF⟩ := h1
  have H1 := Lib.hid (h1 : DiskP w1 F p calm0)
  have HFF := Lib.hid hF
  have HB1 := Lib.hid (HF0.out.trans (hb1.mono HF0.out.size))
  clear h1 hb1 hF
  go_wp2_with (fail)
  refine (copy_any S _ es w1 (HV.out.below HB1.out)).mono ?_
  rintro r w2 ⟨v2, rfl, hv2, hb2⟩
  obtain ⟨g, o, c2, rfl⟩ := hv2.some_form (by rw [HN.out]; exact hN0)
  rw [HN.out] at hv2 ⊢
  have HV2 := Lib.hid (hv2.monoLt (S' := fun i => w1.heap.size ≤ i ∧ i < w2.heap.size) fun i hi h => ⟨h, hi⟩)
  have HB2 := Lib.hid (HB1.out.trans (hb2.mono HB1.out.size))
  have H2 := Lib.hid (H1.out.below hb2)
  clear hv2 hb2
  go_wp2_with (fail)
  refine (write_calm F p _ g o N c2 size es w2 H2.out HV2.out HN.out (fun i h => h.2) hsz HORD.out hN0 hN2 hB2).mono ?_
  rintro r w3 ⟨ps, hps, rfl, h3, o3⟩
  have HPS := Lib.hid hps
  have H3 := Lib.hid h3
  have hb3 : Below w.heap.size w w3 := HB2.out.trans (o3.below HB2.out.size fun i hi => (HFF.out i hi).1)
  have HB3 := Lib.hid hb3
  clear hps h3 o3 hb3
  go_wp2_with (fail)
  refine (open_ok _ p _ [116] N es ps w3 H3.out (by simp) (calm_ready1 _) (calm_read1 _) HPS.out HN.out hN0 hN2 hB2 HORD.out).mono ?_
  rintro r w4 ⟨Tb, rfl, hT, f4⟩
  have hps0 : 0 < ps.length := by
    rcases Nat.eq_zero_or_pos ps.length with h | h
    · have h1 := HPS.out.all
      rw [List.eq_nil_of_length_eq_zero h] at h1
      simp at h1
      rw [h1] at HN
      have := HN.out
      simp at this
      omega
    · exact h
  have HT := Lib.hid (hT.set hps0)
  have H4 := Lib.hid (H3.out.below f4)
  have HF4 := Lib.hid (HB3.out.trans (Below.mono f4 HB3.out.size))
  have hz := HB3.out.size
  have hz2 := HB2.out.size
  clear hT f4
  go_wp2
  refine bodyPost_ret (v := .tuple #[.pointer (some ⟨Tb, 0, none⟩), .pointer (some ⟨p, 0, none⟩)]) (by simp [results, Try.results8, go_sem]) rfl ?_
  refine ⟨Tb, p, ps, rfl, HPS.out, hps0, ?_, ⟨_, H4.out, fun i hi => ?_⟩, HF4.out⟩
  · obtain ⟨b, o, n, c, gp, pc, A, ll, lc, ys, k1, k2, k3, k4, k5, k6, k7, k8⟩ := HT.out
    have hm : ∀ i, w3.heap.size ≤ i ∧ i < w4.heap.size → w.heap.size ≤ i ∧ i < w4.heap.size := fun i h => ⟨by omega, h.2⟩
    exact ⟨b, o, n, c, gp, pc, A, ll, lc, ys, k1, k2, k3.mono hm, k4, fun i p e hp he => by obtain ⟨a1, k, a2, a3⟩ := k5 i p e hp he; exact ⟨a1, k, a2, a3.mono hm⟩, fun e he => (k6 e he).mono hm, hm _ k7, hm _ k8⟩
  · rcases hi with h | h
    · exact (HFF.out i h).1
    · omega
end Go.Proofs.Ytiffgjodbcploaa
end
section
namespace Go.Proofs.Ytiffgjodbcploaa
open Go.RowKit Go.ChangeShapes Go.WideShapes Go.Deep
theorem cells_u8 : Try.prog.cellsOf 5 = 1 := by kernel_rfl
theorem cells_bs : Try.prog.cellsOf 23 = 1 := by kernel_rfl
theorem cells_i : Try.prog.cellsOf 3 = 1 := by kernel_rfl
theorem cells_b : Try.prog.cellsOf 4 = 1 := by kernel_rfl
theorem cells_e : Try.prog.cellsOf 34 = 4 := by kernel_rfl
theorem cells_es : Try.prog.cellsOf 22 = 1 := by kernel_rfl
theorem bytes_u8 : Try.prog.bytesOf 5 = 1 := by kernel_rfl
theorem bytes_e : Try.prog.bytesOf 34 = 64 := by kernel_rfl
theorem bytes_es : Try.prog.bytesOf 22 = 24 := by kernel_rfl
theorem cell_spot {w : World} {a : Addr} {v : Value} (h : w.cell? a = some v) : a = ⟨a.block, a.off, none⟩ := by
  obtain ⟨b, o, s⟩ := a
  cases s with
  | none => rfl
  | some s =>
    unfold World.cell? at h
    split at h <;> simp at h
theorem add_block (a : Addr) (n : Nat) : (a.add n).block = a.block := by unfold Addr.add; split <;> rfl
theorem add_off (a : Addr) (n : Nat) : (a.add n).off = a.off + n := by
  unfold Addr.add
  split
  · rename_i h; rw [h]; rfl
  · rfl
theorem weightsAll_mem {H : Type} {P : Program} {e : TypeId} : ∀ {l : List (DataW H)} {d : DataW H}, d ∈ l → ∀ n ∈ d.weights P e, n ∈ DataW.weightsAll P e l
  | d' :: r, d, hd, n, hn => by
    simp only [DataW.weightsAll, List.mem_append]
    rcases List.mem_cons.1 hd with rfl | h
    · exact Or.inl hn
    · exact Or.inr (weightsAll_mem h n hn)
section
variable {H : Type} {enc : TypeId × Value → H} {w : World} {base : Nat} {held : Bool} {spare : Nat → Bool}
set_option maxRecDepth 10000 in
theorem open_byt {fuel : Nat} {v : Value} {x : DataW H × List MemPlace} (h : DataW.trod enc Try.prog w base spare held fuel 23 [v] = some x) (hw : ∀ n ∈ x.1.weights Try.prog 23, n ≤ reachBytes) :
    ∃ bs, Byt w (fun _ => True) v bs := by
  rcases open_ints Try.underlying23 Try.underlying5 cells_u8 h with ⟨hv, _⟩ | ⟨a, len, cap, zs, hv, _, hl, hm, hz, hx, hc, hwf⟩
  · obtain rfl : v = .slice none 0 0 := by simpa using hv
    exact ⟨[], Byt.nil _ _⟩
  · obtain rfl : v = .slice (some a) len cap := by simpa using hv
    have hlen : len ≤ zs.length := by rw [hz]; split <;> omega
    subst hx
    have hr := hw _ (by simp only [DataW.weights, Try.underlying23]; exact List.mem_cons_self)
    rw [bytes_u8] at hr
    simp only [lits, List.length_map, List.length_take, List.length_drop, reachBytes] at hr
    have e1 : ((zs.take len).map fun z => UInt8.ofNat z.toNat).length = len := by simp; omega
    unfold maxLen at hm
    refine ⟨(zs.take len).map fun z => UInt8.ofNat z.toNat, some a, cap, by rw [e1], by omega, by omega, by omega, ?_⟩
    rw [e1]
    refine ⟨by simp; omega, fun h0 => ?_⟩
    have hs := hc 0 (by omega)
    have hsp : a = ⟨a.block, a.off, none⟩ := cell_spot (a := a) (by simpa [Addr.add] using hs)
    refine ⟨a.block, a.off, by rw [← hsp], trivial, ?_, fun j u hu => ?_⟩
    · have := World.block_lt_of_cell? w _ hs
      simpa [Addr.add] using this
    · rw [List.getElem?_map, List.getElem?_map, List.getElem?_take] at hu
      split at hu
      · rename_i hj
        have hcj := hc j (by omega)
        rw [hsp, Addr.add_lit] at hcj
        rw [hcj]
        obtain ⟨z, hzj⟩ : ∃ z, zs[j]? = some z := ⟨_, List.getElem?_eq_getElem (by omega)⟩
        have hb := bounds_u8 (hwf z (List.mem_of_getElem? hzj))
        rw [hzj] at hu
        simp only [Option.map_some, Option.some.injEq] at hu
        rw [← hu, List.getD_eq_getElem?_getD, hzj]
        unfold bcell
        simp
        omega
      · simp at hu
set_option maxRecDepth 10000 in
theorem open_ent {fuel : Nat} {cs : List Value} {x : DataW H × List MemPlace} (h : DataW.trod enc Try.prog w base spare held fuel 34 cs = some x) (hw : ∀ n ∈ x.1.weights Try.prog 34, n ≤ reachBytes) :
    ∃ e : Ent, EntCells w (fun _ => True) cs [e] := by
  obtain ⟨y0, y1, y2, y3, n, rfl, hl, h0, h1, h2, h3⟩ := Joins.trod_struct4 Try.underlying34 h
  rw [cells_e] at hl
  match cs, hl with
  | [c0, c1, c2, c3], _ =>
    simp only [cells_bs, cells_i, cells_b, List.drop_zero, List.drop_succ_cons, List.take_succ_cons, List.take_zero] at h0 h1 h2 h3
    simp only [DataW.weights, Try.underlying34, List.map_cons, List.map_nil, DataW.weightsEach, List.append_nil, List.mem_append] at hw
    obtain ⟨k, hk⟩ := open_byt h0 (fun n hn => hw n (.inl hn))
    obtain ⟨u, hu⟩ := open_byt h3 (fun n hn => hw n (.inr (.inr (.inr hn))))
    obtain ⟨s, hs, _, _⟩ := DataW.trod_int Try.underlying3 h1
    obtain ⟨d, hd, _⟩ := DataW.trod_bool Try.underlying4 h2
    exact ⟨⟨k, s, d, u⟩, by simpa using hs, by simpa using hd, hk, hu, trivial⟩
def entsLen : DataW H → Nat
  | .slice elems _ => elems.length
  | _ => 0
def listsLen : DataW H → Nat
  | .slice elems _ => (elems.map entsLen).sum
  | _ => 0
set_option maxRecDepth 10000 in
theorem open_entries {fuel : Nat} {v : Value} {x : DataW H × List MemPlace} (h : DataW.trod enc Try.prog w base spare held fuel 22 [v] = some x) (hw : ∀ n ∈ x.1.weights Try.prog 22, n ≤ reachBytes) :
    ∃ es, Ents w (fun _ => True) v es ∧ es.length = entsLen x.1 := by
  rcases open_slice Try.underlying22 h with ⟨hv, hx⟩ | ⟨a, len, cap, m, n, D, Pl, hv, _, hl, hm, hmm, hx, hc⟩
  · obtain rfl : v = .slice none 0 0 := by simpa using hv
    exact ⟨[], Ents.nil _ _, by rw [hx]; rfl⟩
  · obtain rfl : v = .slice (some a) len cap := by simpa using hv
    have hlm : len ≤ m := by rw [hmm]; split <;> omega
    subst hx
    simp only [DataW.weights, Try.underlying22, List.mem_cons, List.mem_append] at hw
    have hr := hw _ (.inl rfl)
    rw [bytes_e] at hr
    simp only [List.length_map, List.length_range, reachBytes] at hr
    unfold maxLen at hm
    rw [cells_e] at hc
    have key : ∀ k, k ≤ len → ∃ (cs : List Value) (es : List Ent), es.length = k ∧ EntCells w (fun _ => True) cs es ∧ ∀ j u, cs[j]? = some u → w.cell? (a.add j) = some u := by
      intro k
      induction k with
      | zero => exact fun _ => ⟨[], [], rfl, trivial, fun j u hu => by simp at hu⟩
      | succ k ih =>
        intro hk
        obtain ⟨cs, es, hel, hce, hcc⟩ := ih (by omega)
        obtain ⟨cs', h1, h2⟩ := hc k (by omega)
        obtain ⟨e, he⟩ := open_ent h2 (fun n hn => hw n (.inr (.inl (weightsAll_mem (List.mem_map.2 ⟨k, List.mem_range.2 (by omega), rfl⟩) n hn))))
        obtain ⟨_, hl4, h4⟩ := World.cells?_some h1
        have hcl := hce.len
        refine ⟨cs ++ cs', es ++ [e], by simp [hel], hce.append he, fun j u hu => ?_⟩
        rw [List.getElem?_append] at hu
        split at hu
        · exact hcc j u hu
        · have hj : j - cs.length < 4 := by rw [← hl4]; exact (List.getElem?_eq_some_iff.1 hu).1
          have h5 := h4 _ hj
          rw [hu] at h5
          have h6 := h4 0 (by omega)
          have hsp : a.add (k * 4) = ⟨a.block, a.off + k * 4, none⟩ := by
            have h7 := cell_spot (w := w) (a := (a.add (k * 4))) (v := cs'[0]) (by
              rw [show (a.add (k * 4)).add 0 = a.add (k * 4) by simp [Addr.add]] at h6
              rw [h6, List.getElem?_eq_getElem (by omega)])
            rw [h7, add_block, add_off]
          rw [hsp, Addr.add_lit] at h5
          unfold Addr.add
          by_cases hj0 : j = 0
          · rw [if_pos hj0]
            subst hj0
            have hk0 : k = 0 := by omega
            subst hk0
            have : a = ⟨a.block, a.off, none⟩ := by simpa [Addr.add] using hsp
            rw [this]
            simpa using h5
          · rw [if_neg hj0, ← h5]
            congr 2
            omega
    obtain ⟨cs, es, hel, hce, hcc⟩ := key len (Nat.le_refl _)
    have hcl := hce.len
    refine ⟨es, ⟨some a, cap, cs, by rw [hel], by omega, by omega, by omega, ?_, hce⟩, by simp [entsLen, hel]⟩
    rw [hel]
    refine ⟨by omega, fun h0 => ?_⟩
    obtain ⟨u0, hu0⟩ : ∃ u, cs[0]? = some u := ⟨_, List.getElem?_eq_getElem (by omega)⟩
    have hs := hcc 0 u0 hu0
    have hsp : a = ⟨a.block, a.off, none⟩ := cell_spot (a := a) (by simpa [Addr.add] using hs)
    refine ⟨a.block, a.off, by rw [← hsp], trivial, ?_, fun j u hu => ?_⟩
    · have := World.block_lt_of_cell? w _ hs
      simpa [Addr.add] using this
    · have := hcc j u hu
      rwa [hsp, Addr.add_lit] at this
set_option maxRecDepth 10000 in
/-- an argument that is a slice: its reading at its own value. -/
theorem arg_slice {r : Reach} {b0 : Nat} {t e : TypeId} {v : Value} {d : DataW H} {ps : List MemPlace} (ht : Try.prog.underlying t = some (.slice e)) (hval : Value.okWide Try.prog w r b0 t v) (hd : DataW.Trod enc Try.prog w base spare held t v d ps) :
    ∃ fuel, DataW.trod enc Try.prog w base spare held fuel t [v] = some (d, ps) := by
  obtain ⟨a, l, c, rfl⟩ := okWide_slice ht hval
  obtain ⟨n, hn⟩ := hd
  exact ⟨n, hn⟩
set_option maxRecDepth 10000 in
theorem arg_entries {r : Reach} {b0 : Nat} {v : Value} {d : DataW H} {ps : List MemPlace} (hval : Value.okWide Try.prog w r b0 22 v) (hd : DataW.Trod enc Try.prog w base spare held 22 v d ps) (hw : ∀ n ∈ d.weights Try.prog 22, n ≤ reachBytes) :
    ∃ es, Ents w (fun _ => True) v es := by
  obtain ⟨n, hn⟩ := arg_slice Try.underlying22 hval hd
  obtain ⟨es, he, _⟩ := open_entries hn hw
  exact ⟨es, he⟩
set_option maxRecDepth 10000 in
theorem arg_bytes {r : Reach} {b0 : Nat} {v : Value} {d : DataW H} {ps : List MemPlace} (hval : Value.okWide Try.prog w r b0 23 v) (hd : DataW.Trod enc Try.prog w base spare held 23 v d ps) (hw : ∀ n ∈ d.weights Try.prog 23, n ≤ reachBytes) :
    ∃ bs, Byt w (fun _ => True) v bs := by
  obtain ⟨n, hn⟩ := arg_slice Try.underlying23 hval hd
  exact open_byt hn hw
end
end Go.Proofs.Ytiffgjodbcploaa
end
section
namespace Go.Proofs.Ytiffgjodbcploaa
open Go.RowKit Go.ChangeShapes Go.WideShapes Go.Deep
section
variable {H : Type} {enc : TypeId × Value → H} {w : World} {base : Nat} {held : Bool} {spare : Nat → Bool}
theorem bulk_one (d : DataW H) : 1 ≤ Rows.uptoBulk d := by
  cases d with
  | lit l => cases l <;> simp [Rows.uptoBulk]
  | nil => simp [Rows.uptoBulk]
  | ptr d => simp [Rows.uptoBulk]
  | slice elems spare => simp [Rows.uptoBulk]
  | agg parts => simp [Rows.uptoBulk]
  | iface t d => simp [Rows.uptoBulk]
  | map entries => simp [Rows.uptoBulk]
  | held h => simp [Rows.uptoBulk]
theorem bulk_len (l : List (DataW H)) : l.length ≤ Rows.uptoBulkAll l := by
  induction l with
  | nil => simp [Rows.uptoBulkAll]
  | cons x r ih => have := bulk_one x; simp only [Rows.uptoBulkAll, List.length_cons]; omega
theorem bulk_app (l m : List (DataW H)) : Rows.uptoBulkAll (l ++ m) = Rows.uptoBulkAll l + Rows.uptoBulkAll m := by
  induction l with
  | nil => simp [Rows.uptoBulkAll]
  | cons x r ih => simp only [List.cons_append, Rows.uptoBulkAll, ih]; omega
theorem bytesE_app (l m : List Ent) : bytesE (l ++ m) = bytesE l + bytesE m := by simp [bytesE]
set_option maxRecDepth 10000 in
theorem open_bytU {fuel : Nat} {v : Value} {x : DataW H × List MemPlace} (h : DataW.trod enc Try.prog w base spare held fuel 23 [v] = some x) (hw : ∀ n ∈ x.1.weights Try.prog 23, n ≤ reachBytes) :
    ∃ bs, Byt w (fun _ => True) v bs ∧ bs.length ≤ Rows.uptoBulk x.1 := by
  rcases open_ints Try.underlying23 Try.underlying5 cells_u8 h with ⟨hv, _⟩ | ⟨a, len, cap, zs, hv, _, hl, hm, hz, hx, hc, hwf⟩
  · obtain rfl : v = .slice none 0 0 := by simpa using hv
    exact ⟨[], Byt.nil _ _, by simp⟩
  · obtain rfl : v = .slice (some a) len cap := by simpa using hv
    have hlen : len ≤ zs.length := by rw [hz]; split <;> omega
    subst hx
    have hr := hw _ (by simp only [DataW.weights, Try.underlying23]; exact List.mem_cons_self)
    rw [bytes_u8] at hr
    simp only [lits, List.length_map, List.length_take, List.length_drop, reachBytes] at hr
    have e1 : ((zs.take len).map fun z => UInt8.ofNat z.toNat).length = len := by simp; omega
    unfold maxLen at hm
    have e2 : ((zs.take len).map fun z => UInt8.ofNat z.toNat).length ≤ Rows.uptoBulk (H := H) (.slice (lits .u8 (zs.take len)) (lits .u8 (zs.drop len))) := by
      have := bulk_len (H := H) (lits .u8 (zs.take len))
      simp only [Rows.uptoBulk]
      simp only [lits, List.length_map] at this ⊢
      omega
    refine ⟨(zs.take len).map fun z => UInt8.ofNat z.toNat, ⟨some a, cap, by rw [e1], by omega, by omega, by omega, ?_⟩, e2⟩
    rw [e1]
    refine ⟨by simp; omega, fun h0 => ?_⟩
    have hs := hc 0 (by omega)
    have hsp : a = ⟨a.block, a.off, none⟩ := cell_spot (a := a) (by simpa [Addr.add] using hs)
    refine ⟨a.block, a.off, by rw [← hsp], trivial, ?_, fun j u hu => ?_⟩
    · have := World.block_lt_of_cell? w _ hs
      simpa [Addr.add] using this
    · rw [List.getElem?_map, List.getElem?_map, List.getElem?_take] at hu
      split at hu
      · rename_i hj
        have hcj := hc j (by omega)
        rw [hsp, Addr.add_lit] at hcj
        rw [hcj]
        obtain ⟨z, hzj⟩ : ∃ z, zs[j]? = some z := ⟨_, List.getElem?_eq_getElem (by omega)⟩
        have hb := bounds_u8 (hwf z (List.mem_of_getElem? hzj))
        rw [hzj] at hu
        simp only [Option.map_some, Option.some.injEq] at hu
        rw [← hu, List.getD_eq_getElem?_getD, hzj]
        unfold bcell
        simp
        omega
      · simp at hu
set_option maxRecDepth 10000 in
theorem open_entU {fuel : Nat} {cs : List Value} {x : DataW H × List MemPlace} (h : DataW.trod enc Try.prog w base spare held fuel 34 cs = some x) (hw : ∀ n ∈ x.1.weights Try.prog 34, n ≤ reachBytes) :
    ∃ e : Ent, EntCells w (fun _ => True) cs [e] ∧ e.key.length + e.val.length ≤ Rows.uptoBulk x.1 := by
  obtain ⟨y0, y1, y2, y3, n, rfl, hl, h0, h1, h2, h3⟩ := Joins.trod_struct4 Try.underlying34 h
  rw [cells_e] at hl
  match cs, hl with
  | [c0, c1, c2, c3], _ =>
    simp only [cells_bs, cells_i, cells_b, List.drop_zero, List.drop_succ_cons, List.take_succ_cons, List.take_zero] at h0 h1 h2 h3
    simp only [DataW.weights, Try.underlying34, List.map_cons, List.map_nil, DataW.weightsEach, List.append_nil, List.mem_append] at hw
    obtain ⟨k, hk, hkl⟩ := open_bytU h0 (fun n hn => hw n (.inl hn))
    obtain ⟨u, hu, hul⟩ := open_bytU h3 (fun n hn => hw n (.inr (.inr (.inr hn))))
    obtain ⟨s, hs, _, _⟩ := DataW.trod_int Try.underlying3 h1
    obtain ⟨d, hd, _⟩ := DataW.trod_bool Try.underlying4 h2
    exact ⟨⟨k, s, d, u⟩, ⟨by simpa using hs, by simpa using hd, hk, hu, trivial⟩, by simp only [Rows.uptoBulk, Rows.uptoBulkAll]; omega⟩
set_option maxRecDepth 10000 in
theorem open_entriesU {fuel : Nat} {v : Value} {x : DataW H × List MemPlace} (h : DataW.trod enc Try.prog w base spare held fuel 22 [v] = some x) (hw : ∀ n ∈ x.1.weights Try.prog 22, n ≤ reachBytes) :
    ∃ es, Ents w (fun _ => True) v es ∧ es.length ≤ Rows.uptoBulk x.1 ∧ bytesE es ≤ Rows.uptoBulk x.1 := by
  rcases open_slice Try.underlying22 h with ⟨hv, hx⟩ | ⟨a, len, cap, m, n, D, Pl, hv, _, hl, hm, hmm, hx, hc⟩
  · obtain rfl : v = .slice none 0 0 := by simpa using hv
    exact ⟨[], Ents.nil _ _, by simp, by simp [bytesE]⟩
  · obtain rfl : v = .slice (some a) len cap := by simpa using hv
    have hlm : len ≤ m := by rw [hmm]; split <;> omega
    subst hx
    simp only [DataW.weights, Try.underlying22, List.mem_cons, List.mem_append] at hw
    have hr := hw _ (.inl rfl)
    rw [bytes_e] at hr
    simp only [List.length_map, List.length_range, reachBytes] at hr
    unfold maxLen at hm
    rw [cells_e] at hc
    have key : ∀ k, k ≤ len → ∃ (cs : List Value) (es : List Ent), es.length = k ∧ bytesE es ≤ Rows.uptoBulkAll ((List.range k).map D) ∧ EntCells w (fun _ => True) cs es ∧ ∀ j u, cs[j]? = some u → w.cell? (a.add j) = some u := by
      intro k
      induction k with
      | zero => exact fun _ => ⟨[], [], rfl, by simp [bytesE], trivial, fun j u hu => by simp at hu⟩
      | succ k ih =>
        intro hk
        obtain ⟨cs, es, hel, hbe, hce, hcc⟩ := ih (by omega)
        obtain ⟨cs', h1, h2⟩ := hc k (by omega)
        obtain ⟨e, he, heb⟩ := open_entU h2 (fun n hn => hw n (.inr (.inl (weightsAll_mem (List.mem_map.2 ⟨k, List.mem_range.2 (by omega), rfl⟩) n hn))))
        obtain ⟨_, hl4, h4⟩ := World.cells?_some h1
        have hcl := hce.len
        have hbs : bytesE (es ++ [e]) ≤ Rows.uptoBulkAll ((List.range (k + 1)).map D) := by
          rw [List.range_succ, List.map_append, bulk_app, bytesE_app]
          simp only [List.map_cons, List.map_nil, Rows.uptoBulkAll, bytesE, List.sum_cons, List.sum_nil]
          simp only at heb
          simp only [bytesE] at hbe
          omega
        refine ⟨cs ++ cs', es ++ [e], by simp [hel], hbs, hce.append he, fun j u hu => ?_⟩
        rw [List.getElem?_append] at hu
        split at hu
        · exact hcc j u hu
        · have hj : j - cs.length < 4 := by rw [← hl4]; exact (List.getElem?_eq_some_iff.1 hu).1
          have h5 := h4 _ hj
          rw [hu] at h5
          have h6 := h4 0 (by omega)
          have hsp : a.add (k * 4) = ⟨a.block, a.off + k * 4, none⟩ := by
            have h7 := cell_spot (w := w) (a := (a.add (k * 4))) (v := cs'[0]) (by
              rw [show (a.add (k * 4)).add 0 = a.add (k * 4) by simp [Addr.add]] at h6
              rw [h6, List.getElem?_eq_getElem (by omega)])
            rw [h7, add_block, add_off]
          rw [hsp, Addr.add_lit] at h5
          unfold Addr.add
          by_cases hj0 : j = 0
          · rw [if_pos hj0]
            subst hj0
            have hk0 : k = 0 := by omega
            subst hk0
            have : a = ⟨a.block, a.off, none⟩ := by simpa [Addr.add] using hsp
            rw [this]
            simpa using h5
          · rw [if_neg hj0, ← h5]
            congr 2
            omega
    obtain ⟨cs, es, hel, hbe, hce, hcc⟩ := key len (Nat.le_refl _)
    have hcl := hce.len
    have hlb := bulk_len ((List.range len).map D)
    rw [List.length_map, List.length_range] at hlb
    refine ⟨es, ⟨some a, cap, cs, by rw [hel], by omega, by omega, by omega, ?_, hce⟩, by simp only [Rows.uptoBulk]; omega, by simp only [Rows.uptoBulk]; omega⟩
    rw [hel]
    refine ⟨by omega, fun h0 => ?_⟩
    obtain ⟨u0, hu0⟩ : ∃ u, cs[0]? = some u := ⟨_, List.getElem?_eq_getElem (by omega)⟩
    have hs := hcc 0 u0 hu0
    have hsp : a = ⟨a.block, a.off, none⟩ := cell_spot (a := a) (by simpa [Addr.add] using hs)
    refine ⟨a.block, a.off, by rw [← hsp], trivial, ?_, fun j u hu => ?_⟩
    · have := World.block_lt_of_cell? w _ hs
      simpa [Addr.add] using this
    · have := hcc j u hu
      rwa [hsp, Addr.add_lit] at this
set_option maxRecDepth 10000 in
theorem arg_entriesU {r : Reach} {b0 : Nat} {v : Value} {d : DataW H} {ps : List MemPlace} (hval : Value.okWide Try.prog w r b0 22 v) (hd : DataW.Trod enc Try.prog w base spare held 22 v d ps) (hw : ∀ n ∈ d.weights Try.prog 22, n ≤ reachBytes)
    (hk : Rows.uptoBulk d ≤ 1048576) : ∃ es, Ents w (fun _ => True) v es ∧ (es.length ≤ 1048576 ∧ bytesE es ≤ 1048576) := by
  obtain ⟨n, hn⟩ := arg_slice Try.underlying22 hval hd
  obtain ⟨es, h1, h2, h3⟩ := open_entriesU hn hw
  simp only at h2 h3
  exact ⟨es, h1, by omega, by omega⟩
/-- a Look: a key, a range, a number. -/
def LookV (w : World) (S : Nat → Prop) (v : Value) (a : List UInt8 × List UInt8 × List UInt8 × Int) : Prop := ∃ kv lv hv, v = .agg #[kv, lv, hv, .int .i64 a.2.2.2] ∧ Byt w S kv a.1 ∧ Byt w S lv a.2.1 ∧ Byt w S hv a.2.2.1
theorem cells_lk : Try.prog.cellsOf 25 = 4 := by kernel_rfl
set_option maxRecDepth 100000 in
theorem arg_look {r : Reach} {b0 : Nat} {v : Value} {d : DataW H} {ps : List MemPlace} (hval : Value.okWide Try.prog w r b0 25 v) (hd : DataW.Trod enc Try.prog w base spare held 25 v d ps) (hw : ∀ n ∈ d.weights Try.prog 25, n ≤ reachBytes) :
    ∃ a, LookV w (fun _ => True) v a := by
  obtain ⟨n, h⟩ := hd
  have hv : ∃ cs, v = .agg cs := by
    unfold Value.okWide at hval
    rw [Try.underlying25] at hval
    obtain ⟨cs, e, _⟩ := hval
    exact ⟨cs, e⟩
  obtain ⟨cs, rfl⟩ := hv
  replace h : DataW.trod enc Try.prog w base spare held n 25 cs.toList = some (d, ps) := h
  obtain ⟨y0, y1, y2, y3, m, hx, hl, h0, h1, h2, h3⟩ := Joins.trod_struct4 Try.underlying25 h
  injection hx with hx1 hx2
  subst hx1
  rw [cells_lk] at hl
  obtain ⟨l⟩ := cs
  simp only at hl h0 h1 h2 h3 ⊢
  match l, hl with
  | [c0, c1, c2, c3], _ =>
    simp only [cells_bs, cells_i, List.drop_zero, List.drop_succ_cons, List.take_succ_cons, List.take_zero] at h0 h1 h2 h3
    simp only [DataW.weights, Try.underlying25, List.map_cons, List.map_nil, DataW.weightsEach, List.append_nil, List.mem_append] at hw
    obtain ⟨k, hk⟩ := open_byt h0 (fun n hn => hw n (.inl hn))
    obtain ⟨lo, hlo⟩ := open_byt h1 (fun n hn => hw n (.inr (.inl hn)))
    obtain ⟨hi, hhi⟩ := open_byt h2 (fun n hn => hw n (.inr (.inr (.inl hn))))
    obtain ⟨a, ha, _, _⟩ := DataW.trod_int Try.underlying3 h3
    obtain rfl : c3 = .int .i64 a := by simpa using ha
    exact ⟨(k, lo, hi, a), _, _, _, rfl, hk, hlo, hhi⟩
end
end Go.Proofs.Ytiffgjodbcploaa
end
