/-
ref07's List, SameTexts.
-/
import Derived.Test.YtcmjoaepihbodaaDkLh
namespace Go.Proofs.Ytcmjoaepihbodaa
open Go.RowKit Go.BigFrame Go.Sort
attribute [local go_sem ↓] Go.wp_at_zero Go.wp_at_succ

theorem infoS : (Try.prog.info? 9).map (fun i => (i.zero, i.size, i.bytes)) = some (some (.string ⟨#[]⟩), 1, 16) := by kernel_rfl
theorem OwnS.below {w w' : World} {base : Nat} {v : Value} {ss : List Nm} (h : OwnS w base v ss) (hb : Below w.heap.size w w') : OwnS w' base v ss := own_below h hb
theorem OwnS.form {w : World} {base : Nat} {v : Value} {ss : List Nm} (h : OwnS w base v ss) : ∃ A c, v = .slice A ss.length c := own_form h
theorem OwnS.strs {w : World} {base : Nat} {v : Value} {ss : List Nm} (h : OwnS w base v ss) : Strs w (fun _ => True) v ss := by
  unfold OwnS at h
  rcases h.2 with ⟨rfl, h0⟩ | ⟨g, cap, cur, rfl, hbg, hh, hcap, hcm, _⟩
  · have : ss = [] := List.eq_nil_of_length_eq_zero h0
    subst this
    exact strs0 w
  · have hlt : g < w.heap.size := (Array.getElem?_eq_some_iff.1 hh).1
    refine ⟨_, _, rfl, hcap, by unfold maxLen at hcm; omega, by simp, fun _ => ⟨g, 0, rfl, trivial, hlt, fun j u hu => ?_⟩⟩
    have := h.cells (g := g) rfl j u hu
    rwa [Addr.add_lit] at this
theorem wpList_push_str {w : World} {ops : Array Oper} {rest : List Oper} {o : Oper} {a : Act} {Q : Exit → Act → World → Prop} (hgd : o.guard = none) (s x : Operand)
    (ho : o.op = .call { callee := .builtin .append, args := #[s, x], argTypes := #[59, 59] }) (base : Nat) (v : Value) (ss : List Nm) (hs : a.eval s = v) (hrow : OwnS w base v ss)
    (g : Nat) (n : Nm) (hx : a.eval x = .slice (some ⟨g, 0, none⟩) 1 1) (hg : w.heap[g]? = some (.cells #[.string ⟨n.toArray⟩] 9 (0, 0))) (hl : (ss.length + 1) * 16 ≤ 140737488355328) (hbase : base ≤ w.heap.size)
    (hK : ∀ v' w', OwnS w' base v' (ss ++ [n]) → w.grownBy w' v.ownBlock → wpList Try.prog ops Q rest (a.put o.dst v') w') : wpList Try.prog ops Q (o :: rest) a w := by
  obtain ⟨i0, hi, hz0, hz1, hz2⟩ := info_parts infoS
  refine wpList_append_own_at _ hgd s x 59 ho base 9 i0 _ 1 16 Try.underlying59 hi hz0 hz1 hz2 rfl (by decide) v _ _ hs hrow ⟨g, 0, none⟩ 1 1 [.string ⟨n.toArray⟩] hx rfl
    (fun j u hu => by rw [Addr.add_lit, cell_of_row w g _ _ _ _ hg, Nat.zero_add]; simpa using hu) (by simp [Value.oneCell']) (by unfold maxLen; omega) hl hbase ?_
  intro v' w' h1 h2 _ _
  refine hK v' w' ?_ h2
  unfold OwnS
  rw [List.length_append, List.map_append]
  exact h1

set_option maxRecDepth 100000 in
set_option maxHeartbeats 4000000 in
theorem rlist_any (base : Nat) (D : Nat → Prop) (r : Nat) (k : Pk) (w : World) (h : RefP w base D r k) (hm : k.fs.length * 48 ≤ 140737488355328) :
    Calls Try.prog 44 #[.pointer (some ⟨r, 0, none⟩)] w fun e w' => ∃ v, e = .returned (.tuple #[v, .int .i64 (readyE k [])]) ∧ OwnS w' w.heap.size v (listP k) ∧ Below w.heap.size w w' := by
  obtain ⟨v, kv, h⟩ := h
  obtain ⟨c0, _, _, _, _, c5⟩ := h.cell
  cases hd : k.down with
  | true =>
    rw [hd] at c5
    have e1 : readyE k [] = 20 := by unfold readyE; rw [if_pos hd]
    have e2 : listP k = [] := by unfold listP; rw [if_pos hd]
    rw [e1, e2]
    clear hd e1 e2 h
    go_enter Try.func44, Try.ntmps44
    go_wp2
    refine bodyPost_ret (v := .tuple #[.slice none 0 0, .int .i64 20]) (by simp [results, Try.results44, go_sem]) rfl ?_
    exact ⟨_, rfl, OwnS.nil _ _, Below.refl _ _⟩
  | false =>
    rw [hd] at c5
    have e1 : readyE k [] = 0 := by unfold readyE; rw [if_neg (by rw [hd]; simp)]; rfl
    have e2 : listP k = k.fs.map Fl.name := by unfold listP; rw [if_neg (by rw [hd]; simp)]
    rw [e1, e2]
    obtain ⟨A, c, rfl⟩ := h.row.form
    obtain ⟨n, hn⟩ : ∃ n, k.fs.length = n := ⟨_, rfl⟩
    have hmax : n * 48 ≤ 140737488355328 := by rw [← hn]; exact hm
    have HN := Lib.hid hn
    have HF := Lib.hid (h.files hm)
    rw [hn] at c0 HF
    clear hd e1 e2 h hn
    go_enter Try.func44, Try.ntmps44
    go_wp2
    go_loopw [4, 15] (fun v4 t wr => ∃ i : Nat, i ≤ n ∧ t = .int .i64 i ∧ OwnS wr w.heap.size v4 ((k.fs.take i).map Fl.name) ∧ Below w.heap.size w wr) (fun _ t _ => n - (intOf t).toNat)
    case atStart => exact ⟨0, Nat.zero_le _, rfl, OwnS.nil _ _, Below.refl _ _⟩
    case round =>
      obtain ⟨i, hi, rfl, hrow, hbel⟩ := hrel
      have HR := Lib.hid hrow
      have HB := Lib.hid hbel
      have hz0 : w.heap.size ≤ wr.heap.size := hbel.size
      have d0 := fr.cell hbel c0
      clear hrow hbel
      by_cases hin : i < n
      · obtain ⟨f, hf⟩ : ∃ f, k.fs[i]? = some f := ⟨_, List.getElem?_eq_getElem (by rw [HN.out]; exact hin)⟩
        obtain ⟨b0, o0, cs, rfl, _, _, ⟨vd, rfl, hvd, hgn⟩, hc⟩ := Rows.at_ flFine (HF.out.below flFine HB.out) hf
        have x0 : wr.cell? ⟨b0, o0 + i * 3, none⟩ = _ := hc 0 _ rfl
        have hl16 : (((k.fs.take i).map Fl.name).length + 1) * 16 ≤ 140737488355328 := by
          rw [List.length_map, List.length_take, HN.out, Nat.min_eq_left hi]
          omega
        obtain ⟨ss, hss⟩ : ∃ ss, (k.fs.take i).map Fl.name = ss := ⟨_, rfl⟩
        have hnext : (k.fs.take (i + 1)).map Fl.name = ss ++ [f.name] := by rw [take_snoc hf, List.map_append, hss]; rfl
        rw [hss] at HR hl16
        have HNX := Lib.hid hnext
        clear hf hvd hc hss hnext
        go_wp2_with (at_builtin; refine wpList_push_str (by rfl) _ _ (by rfl) w.heap.size _ ss (by rfl) (HR.out.below ((Below.refl _ _).alloc (Nat.le_refl _) _)) wr.heap.size f.name (by rfl) (heap_alloc_new wr _) hl16 (le_alloc hz0 _) ?_; intro v' w9 hrow9 hgrow9; have HR9 := Lib.hid hrow9; have HB9 := Lib.hid ((HB.out.alloc hz0 _).grown hgrow9 (le_alloc hz0 _) (fun j e => (World.ownsRow.lt HR.out j e).1)); clear hrow9 hgrow9)
        exact ⟨⟨i + 1, by omega, by go_num, by rw [HNX.out]; exact HR9.out, HB9.out⟩, by simp [intOf]; omega⟩
      · obtain rfl : i = n := by omega
        go_wp2
        refine bodyPost_ret (v := .tuple #[u4, .int .i64 0]) (by simp [results, Try.results44, go_sem]) rfl ?_
        refine ⟨u4, rfl, ?_, HB.out⟩
        have := HR.out
        rwa [List.take_of_length_le (by rw [HN.out]; exact Nat.le_refl _)] at this

set_option maxRecDepth 100000 in
set_option maxHeartbeats 4000000 in
theorem sametexts_any (S S' : Nat → Prop) (v v' : Value) (ss : List Nm) (w : World) (h : Strs w S v ss) (h' : Strs w S' v' ss) (hl : ss.length ≤ 140737488355328) :
    Calls Try.prog 45 #[v, v'] w fun r w' => r = .returned (.bool true) ∧ Below w.heap.size w w' := by
  have H := Lib.hid h
  have H' := Lib.hid h'
  obtain ⟨A, c, rfl, _⟩ := h
  obtain ⟨A', c', rfl, _⟩ := h'
  obtain ⟨n, hn⟩ : ∃ n, ss.length = n := ⟨_, rfl⟩
  rw [hn] at H H' hl ⊢
  have HN := Lib.hid hn
  clear hn
  go_enter Try.func45, Try.ntmps45
  go_wp2
  go_loopw [13] (fun t wr => ∃ k : Nat, k ≤ n ∧ t = .int .i64 k ∧ Below w.heap.size w wr) (fun t _ => n - (intOf t).toNat)
  case atStart => exact ⟨0, Nat.zero_le _, rfl, Below.refl _ _⟩
  case round =>
    obtain ⟨k, hk, rfl, hbel⟩ := hrel
    have HB := Lib.hid hbel
    clear hbel
    by_cases hkn : k < n
    · obtain ⟨x, hx⟩ : ∃ x, ss[k]? = some x := ⟨_, List.getElem?_eq_getElem (by rw [HN.out]; exact hkn)⟩
      have key : ∀ (S : Nat → Prop) (A : Option Addr) (c : Nat), Strs w S (.slice A n c) ss → ∃ b o, A = some ⟨b, o, none⟩ ∧ wr.cell? ⟨b, o + k, none⟩ = some (.string ⟨x.toArray⟩) := by
        intro S A c h
        obtain ⟨A', c', e, _, _, hr⟩ := h.below HB.out
        injection e with e1 _ _
        subst e1
        rw [HN.out] at hr
        obtain ⟨b, o, u, rfl, _, _, hu, hc⟩ := hr.at_ hkn
        rw [List.getElem?_map, hx] at hu
        obtain rfl := Option.some.inj hu
        exact ⟨b, o, rfl, hc⟩
      obtain ⟨b, o, rfl, c0⟩ := key _ _ _ H.out
      obtain ⟨b', o', rfl, d0⟩ := key _ _ _ H'.out
      have C0 : ∀ q : Ext wr, q.w.cell? ⟨b, o + k, none⟩ = _ := fun q => q.h.cell c0
      have D0 : ∀ q : Ext wr, q.w.cell? ⟨b', o' + k, none⟩ = _ := fun q => q.h.cell d0
      clear hx key c0 d0
      go_wp2
      (refine wp_region_quiet_ext (by kernel_rfl) (by kernel_rfl) ?_; (repeat (go_big_quiet_step (fail))); refine wpQuiet_nil ?_; intro wq hw'; obtain ⟨⟨_, hq⟩, hw''⟩ := hw'; subst hw'')
      go_wp2
      exact ⟨⟨k + 1, by omega, by go_num, HB.out.trans (Below.mono hq HB.out.size)⟩, by simp [intOf]; omega⟩
    · obtain rfl : k = n := by omega
      go_wp2
      go_ret
      exact ⟨rfl, HB.out⟩
end Go.Proofs.Ytcmjoaepihbodaa
