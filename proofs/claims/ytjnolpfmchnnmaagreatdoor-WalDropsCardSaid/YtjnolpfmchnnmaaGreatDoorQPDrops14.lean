/-
law WalDrops.
-/
import Derived.Test.YtjnolpfmchnnmaaGreatDoorQPDrops13
section
namespace Go.Proofs.YtjnolpfmchnnmaaGreatDoor
set_option maxRecDepth 100000
open Go.RowKit Go.BigFrame Go.Sort Go.Shelf Go.Lib
attribute [local go_sem ↓] Go.wp_at_zero Go.wp_at_succ
theorem size_of (z : Int) : ∃ q : Nat, q < 60 ∧ wrap64 (1 + wrap64 ((IntKind.u64.wrap z).tmod 60)) = ((q + 1 : Nat) : Int) := by
  have h0 : 0 ≤ IntKind.u64.wrap z := by
    show 0 ≤ z % 18446744073709551616
    omega
  generalize IntKind.u64.wrap z = y at h0
  rw [Int.tmod_eq_emod_of_nonneg h0]
  refine ⟨(y % 60).toNat, by omega, ?_⟩
  have h1 : wrap64 (y % 60) = y % 60 := by unfold wrap64; omega
  rw [h1]
  unfold wrap64
  omega
theorem zip_snoc {α β : Type} {a : List α} {l : List β} {i : Nat} {x : α} {y : β} (ha : a.length = i) (hy : l[i]? = some y) : (a ++ [x]).zip (l.take (i + 1)) = a.zip (l.take i) ++ [(x, y)] := by
  have hi := (List.getElem?_eq_some_iff.1 hy).1
  rw [take_snoc hy, List.zip_append (by rw [List.length_take]; omega)]
  rfl
theorem recsW_len {ns : List Nat} {R : Nat → List (List UInt8)} (h : ∀ n ∈ ns, R n ≠ []) : ns.length ≤ (recsW ns R).length := by
  unfold recsW
  induction ns with
  | nil => exact Nat.le_refl _
  | cons n l ih =>
    have h1 := List.length_pos_iff.2 (h n List.mem_cons_self)
    have h2 := ih fun m hm => h m (List.mem_cons_of_mem _ hm)
    rw [List.flatMap_cons, List.length_append, List.length_map, List.length_cons]
    omega
def WantV (w : World) (base lo : Nat) (v : Value) (wl : List (List UInt8)) : Prop := ∃ css, w.ownsRow base 35 1 v wl.length css.flatten ∧ All2 (bvR w fun i => i < lo) wl css
theorem WantV.only {w w' : World} {base lo : Nat} {v : Value} {wl : List (List UInt8)} {S : Nat → Prop} (h : WantV w base lo v wl) (ho : Only S w w') (h1 : ∀ i, S i → i < base) (h2 : ∀ i, S i → lo ≤ i) : WantV w' base lo v wl := by
  obtain ⟨css, h3, h4⟩ := h
  exact ⟨css, own_only h3 ho fun g hg hs => by have := (h3.lt g hg).1; have := h1 g hs; omega, h4.imp fun _ _ hx => bvFine.keep hx fun _ _ _ _ hr => hr.only ho fun i _ hi hs => by have := h2 i hs; omega⟩
theorem WantV.push {w w2 : World} {base lo : Nat} {v v' : Value} {wl : List (List UInt8)} {css : List (List Value)} {rec : List UInt8} {u : Value} (h : All2 (bvR w fun i => i < lo) wl css) (hu : Byt w (fun i => i < lo) u rec) (hg : w.grownBy w2 v.ownBlock) (hn : ∀ i, v.ownBlock = some i → ¬ i < lo)
    (hown : w2.ownsRow base 35 1 v' (wl.length + 1) (css.flatten ++ [u])) : WantV w2 base lo v' (wl ++ [rec]) := by
  have ho := Only.of_grown hg
  refine ⟨css ++ [[u]], ?_, (h.imp fun _ _ hx => bvFine.keep hx fun _ _ _ _ hr => hr.only ho fun i _ hi e => hn i e hi).snoc ⟨u, rfl, hu.only ho fun i _ hi e => hn i e hi⟩⟩
  rw [List.length_append, List.flatten_append]
  exact hown
theorem WantV.rows {w : World} {base lo : Nat} {v : Value} {wl : List (List UInt8)} (h : WantV w base lo v wl) (hl : wl.length * 24 ≤ 140737488355328) : BVs w (fun _ => True) v wl := by
  obtain ⟨css, h1, h2⟩ := h
  have h3 : All2 (bvR w fun _ => True) wl css := h2.imp fun _ _ hx => bvFine.keep hx fun _ _ _ _ hr => hr.mono fun _ _ => trivial
  rcases h1.2 with ⟨rfl, h0⟩ | ⟨g, cap, cur, rfl, hbg, hh, hcap, hcm, _⟩
  · have : wl = [] := List.eq_nil_of_length_eq_zero h0
    subst this
    exact ⟨none, 0, css, rfl, Nat.le_refl _, by omega, by simp, ⟨h1.1, fun h => absurd h (by simp)⟩, h3⟩
  · have hlt : g < w.heap.size := (Array.getElem?_eq_some_iff.1 hh).1
    refine ⟨_, _, css, rfl, hcap, by unfold maxLen at hcm; omega, hl, ⟨h1.1, fun _ => ⟨g, 0, rfl, trivial, hlt, fun j u hu => ?_⟩⟩, h3⟩
    have := h1.cells (g := g) rfl j u hu
    rwa [Addr.add_lit] at this
def stayP (below : Int) (last : Nat) (x : Nat × List UInt8) : Bool := decide (below ≤ (x.1 : Int)) || decide (x.1 = last)
def wantL (below : Int) (last : Nat) (l : List (Nat × List UInt8)) : List (List UInt8) := (l.filter (stayP below last)).map Prod.snd
theorem wantL_snoc (below : Int) (last : Nat) (l : List (Nat × List UInt8)) (x : Nat × List UInt8) : wantL below last (l ++ [x]) = wantL below last l ++ (if stayP below last x = true then [x.2] else []) := by
  unfold wantL
  rw [List.filter_append, List.map_append]
  congr 1
  rw [List.filter_cons]
  split <;> rfl
theorem wantL_len (below : Int) (last : Nat) (l : List (Nat × List UInt8)) : (wantL below last l).length ≤ l.length := by
  unfold wantL
  rw [List.length_map]
  exact List.length_filter_le _ _
theorem want_all {ns : List Nat} {R : Nat → List (List UInt8)} {N last : Nat} {below : Int} {l : List (Nat × List UInt8)} (h : recsW ns R = l) (hl : l ≠ [] → last = N) : ((ns.filter fun n => !goneW below N n).map R).flatten = wantL below last l := by
  rw [← recsW_snd, recsW_filter, h]
  unfold wantL
  congr 1
  cases l with
  | nil => rfl
  | cons a l =>
    have hN := hl (List.cons_ne_nil _ _)
    subst hN
    refine List.filter_congr fun x _ => ?_
    unfold stayP goneW
    by_cases h1 : (x.1 : Int) < below
    · by_cases h2 : x.1 = last
      · simp [h2]
      · have h3 : ¬ below ≤ (x.1 : Int) := by omega
        simp [h1, h2, h3]
    · have h3 : below ≤ (x.1 : Int) := by omega
      simp [h1, h3]
structure DropsI (w wr : World) (F : Nat → Prop) (L p sz base : Nat) (rs : List (List UInt8)) (i : Nat) (v : Value) (ns : List Nat) (R : Nat → List (List UInt8)) (N b : Nat) (D : Nm → Option (List UInt8)) (ats : List Nat) : Prop where
  log : LogC wr F L p [119] sz ns R N b (2 * i) D
  lies : Lies F wr w.heap.size
  fr : fr w wr
  own : wr.ownsRow base 3 1 v i (ats.map fun n : Nat => Value.int .i64 (n : Int))
  apart : ∀ g, v.ownBlock = some g → ¬ F g ∧ g ≠ L
  len : ats.length = i
  recs : recsW ns R = ats.zip (rs.take i)
  top : N ≤ i + 1
  few : b ≤ 5100
  all : ∀ n ∈ ns, (frB (R n)).length ≤ 5100
  tmp : D ([119] ++ tmpW) = none
set_option maxRecDepth 100000 in
set_option maxHeartbeats 4000000 in
theorem walDropsLaw (v : Value) (rs : List (List UInt8)) (size below : Int) (w : World) (hv : BVs w (fun _ => True) v rs) (_ : (Lit.int .i64 size).wf = true) (_ : (Lit.int .i64 below).wf = true) (ht : TabW w) :
    Calls Tryz.prog 3 #[v, .int .i64 size, .int .i64 below] w fun r w' => r = .returned (.bool true) ∧ Below w.heap.size w w' := by
  obtain ⟨A, c, rfl⟩ := Rows.form hv
  obtain ⟨n, hn⟩ : ∃ n, rs.length = n := ⟨_, rfl⟩
  have hn24 : n * 24 ≤ 140737488355328 := by obtain ⟨_, _, _, _, _, _, h3, _⟩ := hv; omega
  rw [hn] at hv ⊢
  have HV := Lib.hid (Rows.lt bvFine hv)
  have HN := Lib.hid hn
  have HT := Lib.hid ht
  have htl := Lib.hid ht.lt
  clear hv hn ht
  go_enter Tryz.func3, Tryz.ntmps3
  go_wp2_with (fail)
  refine (wakes_any _ HT.out).mono ?_
  rintro r w0 ⟨rfl, f0⟩
  have HF0 := Lib.hid f0
  clear f0
  go_wp2_with (fail)
  refine (calm_any _).mono ?_
  rintro r w0' ⟨rfl, f0⟩
  have HF0' := Lib.hid (fr.step HF0.out f0)
  clear f0
  go_wp2_with (fail)
  refine (new_dk (fun _ => True) (-1) (-1) _ [] w0' (IntsIn.nil _ _) (by simp) w.heap.size HF0'.out.size).mono ?_
  rintro r w1 ⟨p, rfl, h1, hb1⟩
  obtain ⟨F, h1, hF⟩ := h1
  have H1 := Lib.hid (h1 : DiskP w1 F p calm0)
  have HFF : Hid (Lies F w1 w.heap.size) := Lib.hid fun i hi => by have := hF i hi; have := htl.out; omega
  have HB1 := Lib.hid (fr.step HF0'.out hb1)
  clear h1 hb1 hF
  go_wp2_with (fail)
  obtain ⟨q, hq, hsz⟩ := size_of size
  rw [hsz]
  obtain ⟨sz, hszq⟩ : ∃ s, q + 1 = s := ⟨_, rfl⟩
  have hs1 : 1 ≤ sz ∧ sz ≤ 60 := by omega
  rw [hszq]
  rw [hszq] at hsz
  refine (wfresh_calm (dn := 0) (pre := [119]) sz calm0 H1.out calm0_ok (fun _ => rfl) (HT.out.below HB1.out) HFF.out.two wk_pre (by omega) rfl (by omega)).mono ?_
  rintro r w2 ⟨L, A0, c0, rfl, hL, h2, o2⟩
  have H2 : Hid (LogC w2 F L p [119] sz [] wk0 1 0 0 (fun _ => none)) := Lib.hid h2
  have hL' : w.heap.size ≤ L := Nat.le_trans (Below.size HB1.out) hL
  have hLt : tabG < L := Nat.lt_of_lt_of_le htl.out hL'
  have HO2 : Hid (fr w w2) := Lib.hid (HB1.out.trans (o2.below (Below.size HB1.out) fun i hi => (HFF.out i hi).2.2))
  have HF2 : Hid (Lies F w2 w.heap.size) := Lib.hid (HFF.out.step o2.size)
  clear h2 o2 hL hsz hq hszq
  obtain ⟨i0, hi, hz0, hz1, hz2⟩ := info_parts infoI
  go_wp2_with (fail)
  go_loopw [11, 12, 38] (fun a v t wr => ∃ (i : Nat) (F : Nat → Prop) (ns : List Nat) (R : Nat → List (List UInt8)) (N b : Nat) (D : Nm → Option (List UInt8)) (ats : List Nat), i ≤ n ∧ i ≤ 61 ∧ w2.heap.size ≤ wr.heap.size ∧ t = .int .i64 i ∧ a = .int .i64 ((if i = 0 then 0 else N : Nat) : Int) ∧ DropsI w wr F L p sz w2.heap.size rs i v ns R N b D ats) (fun _ _ t _ => n - (intOf t).toNat)
  case atStart => exact ⟨0, F, [], wk0, 1, 0, _, [], Nat.zero_le _, by omega, Nat.le_refl _, rfl, rfl, ⟨H2.out, HF2.out, HO2.out, World.ownsRow_nil _ _ _ _, fun g hg => (by cases hg), rfl, rfl, by omega, by omega, fun _ h => (by cases h), rfl⟩⟩
  case round =>
    obtain ⟨i, F', ns, R, N, b, D, ats, hin, hi61, hw2r, rfl, rfl, hI⟩ := hrel
    have HI := Lib.hid hI
    obtain ⟨lastv, hlastv⟩ : ∃ q : Nat, (if i = 0 then 0 else N) = q := ⟨_, rfl⟩
    rw [hlastv]
    have HLV := Lib.hid hlastv
    have HW2R : Hid (w2.heap.size ≤ wr.heap.size) := Lib.hid hw2r
    clear hI hlastv hw2r
    by_cases hlt : i < n
    · obtain ⟨rec, hrec⟩ : ∃ t, rs[i]? = some t := ⟨_, List.getElem?_eq_getElem (by rw [HN.out]; exact hlt)⟩
      obtain ⟨bb, oo, cs, rfl, hblt, hbS, ⟨va, rfl, hva⟩, hc⟩ := Rows.at_ bvFine (Rows.below bvFine HV.out HI.out.fr) hrec
      obtain ⟨Aa, ca, rfl⟩ := slice_form hva
      have x0 : wr.cell? ⟨bb, oo + i, none⟩ = some (.slice Aa rec.length ca) := by simpa using hc 0 _ rfl
      have HVA := Lib.hid hva
      have HREC := Lib.hid hrec
      obtain ⟨rl, hrl⟩ : ∃ q, rec.length = q := ⟨_, rfl⟩
      have HRL := Lib.hid hrl
      rw [hrl] at x0 HVA
      clear hc hva hrec hrl
      by_cases h5 : 5000 < rl
      · go_wp2_with (fail)
        refine bodyPost_ret (v := .bool true) (by simp [results, Tryz.results3, go_sem]) rfl ?_
        exact ⟨rfl, HI.out.fr⟩
      · by_cases h60 : 60 < i
        · have hd5 : decide ((5000 : Int) < (rl : Int)) = false := decide_eq_false (by omega)
          go_wp2_with (fail)
          refine bodyPost_ret (v := .bool true) (by simp [results, Tryz.results3, go_sem]) rfl ?_
          exact ⟨rfl, HI.out.fr⟩
        · have HSG := Lib.hid (wsegment_calm HI.out.log (by have := HI.out.top; omega))
          obtain ⟨N', hN'⟩ : ∃ q, (if sz ≤ b then N + 1 else N) = q := ⟨_, rfl⟩
          rw [hN'] at HSG
          have HN' := Lib.hid hN'
          have hN7 : N' ≤ 70 := by rw [← hN']; have := HI.out.top; split <;> omega
          obtain ⟨b0, hb0⟩ : ∃ q, (if sz ≤ b then 0 else b) = q := ⟨_, rfl⟩
          have HB0 := Lib.hid hb0
          have hb60 : b0 < 60 := by rw [← hb0]; have := HI.out.few; split <;> omega
          have hNtop : Hid (N' ≤ i + 2) := Lib.hid (by rw [← hN']; have := HI.out.top; split <;> omega)
          clear hN' hb0
          have hs2 : w2.heap.size ≤ wr.heap.size := HW2R.out
          have hne : ∀ j, u12.ownBlock = some j → ¬ j < w.heap.size := fun j e => by have := (HI.out.own.lt j e).1; have := Below.size HO2.out; omega
          go_wp2_with (first
            | (go_at_call 18; refine HSG.out.mono ?_; rintro r w3 ⟨rfl, f3⟩; have HF3 := Lib.hid f3; have hs3 : w2.heap.size ≤ w3.heap.size := Nat.le_trans hs2 (Below.size f3))
            | (refine wpList_append_own_at _ rfl _ _ 26 rfl w2.heap.size 3 i0 _ 1 8 Tryz.underlying26 hi hz0 hz1 hz2 rfl (by decide) _ _ _ rfl ((own_below HI.out.own HF3.out).alloc _) ⟨w3.heap.size, 0, none⟩ 1 1 [.int .i64 N'] rfl rfl (cell_one _ _ _) (by simp [Value.oneCell']) (by unfold maxLen; omega) (by omega) (by simp; omega) ?_; intro v' w4 hown' hgrow _ hat; obtain ⟨g', cap', rfl⟩ := ownsRow_succ hown'; have z4 := (fr.grown (fr.alloc HF3.out (.cells #[.int .i64 (N' : Int)] 3)) x0 x0 hgrow (fun e => hne bb e hbS)).1; have l4 : bb < w4.heap.size := World.block_lt_of_cell? _ _ z4; have HO4 : Hid (Only (fun j => u12.ownBlock = some j) wr w4) := Lib.hid (Only.trans (Only.of_below (fr.alloc HF3.out (.cells #[.int .i64 (N' : Int)] 3))) (Only.of_grown hgrow)); have hs4 := HO4.out.size)
            | (at_builtin; refine wpList_append_byt0 (by rfl) _ _ rfl _ _ rfl rfl (fun i => i < w.heap.size) rec ((HVA.out.only HO4.out fun j _ hj e => hne j e hj).below (fr.alloc fr.refl (.cells #[] 5))) ?_; intro v5 w5 hv5 f5; have HV5 := Lib.hid hv5; have HF5 : Hid (fr w4 w5) := Lib.hid (fr.step (fr.alloc fr.refl (.cells #[] 5)) f5))
            | (go_at_call 19; refine (wpush_calm w.heap.size _ _ rec ((HI.out.log.only HO4.out (fun j e => (HI.out.apart j e).1) (fun e => (HI.out.apart L e).2 rfl)).below HF5.out) (HT.out.below (fr.step (HI.out.fr.trans (HO4.out.below (Below.size HI.out.fr) fun j e => Nat.le_of_not_lt (hne j e))) HF5.out)) (HI.out.lies.step (by have := Below.size HF5.out; omega)) hLt (by have := Below.size HF5.out; have := Below.size HI.out.fr; omega) HV5.out (by have := HRL.out; omega) wk_pre (by rw [HN'.out]; omega) (by have := HI.out.few; omega) hs1.1 (by omega)).mono ?_; rw [HN'.out, HB0.out]; rintro r w6 ⟨rfl, F6, hF6, hsub, h6, hrq, o6⟩; have H6 := Lib.hid h6; have HF6 := Lib.hid hF6; have HSUB := Lib.hid hsub; have HRQ := Lib.hid hrq; have HO6 := Lib.hid o6; clear h6 hF6 hsub hrq o6))
          have hpre4 : Hid (fr w w4) := Lib.hid (HI.out.fr.trans (HO4.out.below (Below.size HI.out.fr) fun j e => Nat.le_of_not_lt (hne j e)))
          have hpre6 : Hid (fr w w6) := Lib.hid ((fr.step hpre4.out HF5.out).trans (HO6.out.below (Below.size (fr.step hpre4.out HF5.out)) fun j hj => hj.elim (fun h => (HI.out.lies j h).2.2) fun h => h ▸ hL'))
          have hg4 : g' < w4.heap.size ∧ w2.heap.size ≤ g' := ⟨(hown'.lt g' rfl).2, (hown'.lt g' rfl).1⟩
          have hgF : ¬ F' g' ∧ g' ≠ L := by
            rcases hat with h | h
            · exact HI.out.apart g' h.symm
            · have hg : g' = (w3.alloc (.cells #[.int .i64 (N' : Int)] 3)).heap.size := by simpa [Value.ownBlock] using h
              rw [World.size_alloc] at hg
              have h1 := Below.size HF3.out
              refine ⟨fun hf => ?_, fun e => ?_⟩
              · have := (HI.out.lies g' hf).1; omega
              · have := HI.out.log.lt; omega
          have hs45 := Below.size HF5.out
          have hls := H6.out.logS
          refine ⟨⟨i + 1, F6, _, _, _, _, _, ats ++ [N'], by omega, by omega, by have := HO6.out.size; omega, by go_num, by simp, ⟨H6.out, HF6.out, hpre6.out, ?_, ?_, by simp [HI.out.len], ?_, hNtop.out, by have := HRL.out; omega, ?_, ?_⟩⟩, by simp [intOf]; omega⟩
          · rw [List.map_append]
            exact own_only (own_below hown' HF5.out) HO6.out fun g hg => by
              obtain rfl : g' = g := by simpa [Value.ownBlock] using hg
              exact fun h => h.elim hgF.1 hgF.2
          · intro g hg
            obtain rfl : g' = g := by simpa [Value.ownBlock] using hg
            refine ⟨fun h => ?_, hgF.2⟩
            rcases HSUB.out g' h with h | h
            · exact hgF.1 h
            · omega
          · rw [HRQ.out, HI.out.recs, zip_snoc HI.out.len HREC.out]
          · intro n hn
            by_cases e : n = N'
            · subst e
              have := (hls.cur (by omega)).2
              rw [← this]
              have := HRL.out
              omega
            · rw [show pushR R N' b0 rec n = R n from if_neg e]
              refine HI.out.all n ?_
              unfold pushN at hn
              split at hn
              · exact (List.mem_append.1 hn).elim id fun h => absurd (List.mem_singleton.1 h) e
              · exact hn
          · rw [putD_ne _ _ (tmp_ne _ _)]
            exact HI.out.tmp
    · obtain rfl : i = n := by omega
      obtain ⟨A12, c12, hA12⟩ := own_form HI.out.own
      subst hA12
      have HTK : Hid (rs.take i = rs) := Lib.hid (List.take_of_length_le (by rw [HN.out]; exact Nat.le_refl _))
      have HNL : Hid (ns.length ≤ 61) := Lib.hid (by
        have h1 := recsW_len HI.out.log.logS.some
        rw [HI.out.recs, List.length_zip, HI.out.len] at h1
        omega)
      have HDR := Lib.hid (drop_calm_any below HI.out.log (HT.out.below HI.out.fr) HI.out.lies.two wk_pre (by have := HI.out.top; omega) (by have := HNL.out; omega) (by omega))
      go_wp2_with (go_at_call 20; refine HDR.out.mono ?_; rintro r w7 ⟨rfl, D7, hD7, h7, o7⟩; have H7 := Lib.hid h7; have HD7 := Lib.hid hD7; have HO7 := Lib.hid o7; clear h7 hD7 o7)
      obtain ⟨zl, hzl⟩ : ∃ q, ats.zip rs = q := ⟨_, rfl⟩
      have HZL := Lib.hid hzl
      have HF7 : Hid (fr w w7) := Lib.hid (HI.out.fr.trans (HO7.out.below (Below.size HI.out.fr) fun j h => (HI.out.lies j h).2.2))
      have HOW7 := Lib.hid (own_only HI.out.own HO7.out fun g hg h => (HI.out.apart g hg).1 h)
      obtain ⟨j0, hj0, hy0, hy1, hy2⟩ := info_parts infoB
      clear hzl
      go_loopw [14, 73] (fun v t wx => ∃ j : Nat, j ≤ i ∧ t = .int .i64 j ∧ WantV wx w7.heap.size w.heap.size v (wantL below lastv (zl.take j)) ∧ fr w7 wx) (fun _ t _ => i - (intOf t).toNat)
      case atStart => exact ⟨0, Nat.zero_le _, rfl, ⟨[], World.ownsRow_nil _ _ _ _, .nil⟩, fr.refl⟩
      case round =>
        obtain ⟨j, hj, rfl, hwv, hfx⟩ := hrel
        have HWV := Lib.hid hwv
        have HFX := Lib.hid hfx
        clear hwv hfx
        by_cases hji : j < i
        · obtain ⟨rec, hrec⟩ : ∃ t, rs[j]? = some t := ⟨_, List.getElem?_eq_getElem (by rw [HN.out]; exact hji)⟩
          obtain ⟨at_, hat⟩ : ∃ t, ats[j]? = some t := ⟨_, List.getElem?_eq_getElem (by rw [HI.out.len]; exact hji)⟩
          obtain ⟨bb, oo, cs, rfl, hblt, hbS, ⟨va, rfl, hva⟩, hc⟩ := Rows.at_ bvFine (Rows.below bvFine HV.out (fr.step HF7.out HFX.out)) hrec
          obtain ⟨Aa, ca, rfl⟩ := slice_form hva
          have x0 : wr.cell? ⟨bb, oo + j, none⟩ = some (.slice Aa rec.length ca) := by simpa using hc 0 _ rfl
          have how := own_below HOW7.out HFX.out
          obtain ⟨g12, c12', hE12, hg12, _⟩ := own_pos how (by omega)
          injection hE12 with e1 e2 e3
          subst e1 e3
          have za : wr.cell? ⟨g12, j, none⟩ = some (.int .i64 at_) := by
            have := how.cellAt j (by omega)
            rw [List.getElem?_map, hat] at this
            exact this
          have hzj : zl[j]? = some (at_, rec) := by rw [← HZL.out, List.getElem?_zip_eq_some]; exact ⟨hat, hrec⟩
          have HSN := Lib.hid (wantL_snoc below lastv (zl.take j) (at_, rec))
          rw [← take_snoc hzj] at HSN
          have HVA := Lib.hid hva
          obtain ⟨rl, hrl⟩ : ∃ q, rec.length = q := ⟨_, rfl⟩
          rw [hrl] at x0 HVA
          obtain ⟨wl, hwl⟩ : ∃ q, wantL below lastv (zl.take j) = q := ⟨_, rfl⟩
          have hwn : wl.length ≤ j := by rw [← hwl]; have := wantL_len below lastv (zl.take j); rw [List.length_take] at this; omega
          rw [hwl] at HWV HSN
          obtain ⟨css, hwo, hwa⟩ := HWV.out
          obtain ⟨wn, hwnn⟩ : ∃ q, wl.length = q := ⟨_, rfl⟩
          have HWN := Lib.hid hwnn
          rw [hwnn] at hwo hwn
          have HWO := Lib.hid hwo
          have HWA := Lib.hid hwa
          clear hc hva hrec hrl how hat hzj hwl hwo hwa hwnn e2
          by_cases hcond : below ≤ (at_ : Int)
          · have hst : stayP below lastv (at_, rec) = true := by unfold stayP; rw [decide_eq_true hcond]; rfl
            rw [if_pos hst] at HSN
            clear hst
            go_wp2_with (refine wpList_append_own_at _ rfl _ _ 22 rfl w7.heap.size 35 j0 _ 1 24 Tryz.underlying22 hj0 hy0 hy1 hy2 rfl (by decide) _ _ _ rfl (HWO.out.alloc _) ⟨wr.heap.size, 0, none⟩ 1 1 [.slice Aa rl ca] rfl rfl (cell_one _ _ _) (by simp [Value.oneCell']) (by unfold maxLen; omega) (by omega) (by have := Below.size HFX.out; simp; omega) ?_; intro v' w9 hown' hgrow _ hat)
            refine ⟨⟨j + 1, by omega, by go_num, ?_, Below.grown (fr.alloc HFX.out _) hgrow (by have := Below.size HFX.out; simp; omega) fun k e => (HWO.out.lt k e).1⟩, by simp [intOf]; omega⟩
            rw [HSN.out]
            exact WantV.push (HWA.out.imp fun _ _ hx => bvFine.keep hx fun _ _ _ _ hr => hr.below (fr.alloc fr.refl _)) (HVA.out.below (fr.alloc fr.refl _)) hgrow (fun k e => by have := (HWO.out.lt k e).1; have := Below.size HF7.out; omega) (by rw [HWN.out]; exact hown')
          · have hdb : decide (below ≤ (at_ : Int)) = false := decide_eq_false hcond
            by_cases hal : at_ = lastv
            · have hst : stayP below lastv (at_, rec) = true := by unfold stayP; rw [decide_eq_true hal, Bool.or_true]
              rw [if_pos hst] at HSN
              have hal' : ((at_ : Int) == (lastv : Int)) = true := by rw [hal]; simp
              clear hst hal hcond
              go_wp2_with (refine wpList_append_own_at _ rfl _ _ 22 rfl w7.heap.size 35 j0 _ 1 24 Tryz.underlying22 hj0 hy0 hy1 hy2 rfl (by decide) _ _ _ rfl (HWO.out.alloc _) ⟨wr.heap.size, 0, none⟩ 1 1 [.slice Aa rl ca] rfl rfl (cell_one _ _ _) (by simp [Value.oneCell']) (by unfold maxLen; omega) (by omega) (by have := Below.size HFX.out; simp; omega) ?_; intro v' w9 hown' hgrow _ hat)
              refine ⟨⟨j + 1, by omega, by go_num, ?_, Below.grown (fr.alloc HFX.out _) hgrow (by have := Below.size HFX.out; simp; omega) fun k e => (HWO.out.lt k e).1⟩, by simp [intOf]; omega⟩
              rw [HSN.out]
              exact WantV.push (HWA.out.imp fun _ _ hx => bvFine.keep hx fun _ _ _ _ hr => hr.below (fr.alloc fr.refl _)) (HVA.out.below (fr.alloc fr.refl _)) hgrow (fun k e => by have := (HWO.out.lt k e).1; have := Below.size HF7.out; omega) (by rw [HWN.out]; exact hown')
            · have hst : ¬ stayP below lastv (at_, rec) = true := by unfold stayP; rw [decide_eq_false hcond, decide_eq_false hal]; decide
              rw [if_neg hst, List.append_nil] at HSN
              have hal' : ((at_ : Int) == (lastv : Int)) = false := by simpa using fun h => hal (Int.ofNat.inj h)
              clear hst hal hcond
              go_wp2_with (fail)
              refine ⟨⟨j + 1, by omega, by go_num, ?_, HFX.out⟩, by simp [intOf]; omega⟩
              rw [HSN.out]
              exact HWV.out
        · obtain rfl : j = i := by omega
          have HDL : Hid (LogS [119] D7 (ns.filter fun n => !goneW below N n) R N b) := Lib.hid H7.out.logS
          have hzi : zl.take j = zl := List.take_of_length_le (by rw [← HZL.out, List.length_zip, HI.out.len]; omega)
          rw [hzi] at HWV
          have HWL : Hid (((ns.filter fun n => !goneW below N n).map R).flatten = wantL below lastv zl) := Lib.hid (want_all (by rw [HI.out.recs, HTK.out, HZL.out]) fun hne => by
            rw [← HLV.out, if_neg]
            intro e
            apply hne
            rw [← HZL.out, List.length_eq_zero_iff.1 (HI.out.len.trans e)]
            rfl)
          have HRE := Lib.hid (wreopen_calm 5 (H7.out.below HFX.out) (fun n hn => by have := HI.out.all n (List.mem_filter.1 hn).1; omega) (HT.out.below (fr.step HF7.out HFX.out)) (fun k hk => ⟨Nat.lt_of_lt_of_le (HI.out.lies k hk).1 (by have := HO7.out.size; have := Below.size HFX.out; omega), (HI.out.lies k hk).2.1⟩) wk_pre (by decide)
            (by rw [HD7.out, if_neg]; exact HI.out.tmp; intro hc; obtain ⟨n, _, hn⟩ := List.any_eq_true.1 hc; rw [Bool.and_eq_true, decide_eq_true_eq] at hn; exact tmp_ne _ _ hn.2) (by have := HNL.out; have := List.length_filter_le (fun n => !goneW below N n) ns; omega) (by have := HNL.out; omega)
            (by rw [HWL.out]; have := wantL_len below lastv zl; rw [← HZL.out, List.length_zip, HI.out.len] at this; rw [← HZL.out]; omega) (by have := HDL.out.reopen.2; have := HI.out.top; omega))
          rw [HWL.out] at HRE
          obtain ⟨wl, hwl⟩ : ∃ q, wantL below lastv zl = q := ⟨_, rfl⟩
          have hwn : wl.length ≤ 61 := by rw [← hwl]; have := wantL_len below lastv zl; rw [← HZL.out, List.length_zip, HI.out.len] at this; rw [← HZL.out]; omega
          rw [hwl] at HRE HWV
          clear hzi hwl
          go_wp2_with (first
            | (go_at_call 17; refine HRE.out.mono ?_; rintro r w8 ⟨L8, A8, c8, rfl, _, _, hb8, o8⟩; have HB8 := Lib.hid hb8; have HO8 := Lib.hid o8; clear hb8 o8)
            | (go_at_call 21; refine (same06_any _ _ _ _ wl _ HB8.out (WantV.rows (HWV.out.only HO8.out (fun k hk => by have := (HI.out.lies k hk).1; have := HO7.out.size; omega) (fun k hk => (HI.out.lies k hk).2.2)) (by omega))).mono ?_; rintro r w9 ⟨rfl, f9⟩))
          refine bodyPost_ret (v := .bool true) (by simp [results, Tryz.results3, go_sem]) rfl ?_
          have hfx := fr.step HF7.out HFX.out
          exact ⟨rfl, fr.step (hfx.trans (HO8.out.below (Below.size hfx) fun k hk => (HI.out.lies k hk).2.2)) f9⟩
end Go.Proofs.YtjnolpfmchnnmaaGreatDoor
end
