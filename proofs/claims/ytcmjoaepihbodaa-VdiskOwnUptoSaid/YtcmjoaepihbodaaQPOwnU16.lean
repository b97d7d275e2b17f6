/-
Bytes in blocks of a set are turned, and nothing else.
-/
import Derived.Test.YtcmjoaepihbodaaQPOwnU14
import Derived.Test.YtcmjoaepihbodaaQPOwnU15
import Derived.Test.YtcmjoaepihbodaaQPOwnU7
import Derived.Test.YtcmjoaepihbodaaQPOwnU12
section
namespace Go.Proofs.Ytcmjoaepihbodaa
open Go.RowKit Go.BigFrame
attribute [local go_sem ↓] Go.wp_at_zero Go.wp_at_succ
def actK (k : Pk) (a : Ac) : Pk :=
  if a.kind.tmod 7 = 0 then appendK k a.name a.data else if a.kind.tmod 7 = 1 then syncK k a.name else if a.kind.tmod 7 = 2 then renameK k a.name a.dest
  else if a.kind.tmod 7 = 3 then deleteK k a.name else if a.kind.tmod 7 = 4 then k else if a.kind.tmod 7 = 5 then k else reviveK k a.ops a.room a.keep
theorem inv_act {k : Pk} {a : Ac} {N B M : Nat} (h : InvK k N B M) (hB : B + a.data.length ≤ 1099511627776) : InvK (actK k a) (N + 1) (B + a.data.length) (M + 1) := by
  unfold actK
  split
  · exact inv_append h hB
  · split
    · exact (inv_sync h).mono (by omega) (by omega) (by omega)
    · split
      · exact (inv_rename h (by omega)).mono (by omega) (by omega) (by omega)
      · split
        · exact (inv_delete h (by omega)).mono (by omega) (by omega) (by omega)
        · split
          · exact h.mono (by omega) (by omega) (by omega)
          · split
            · exact h.mono (by omega) (by omega) (by omega)
            · exact (inv_revive h (by omega) _ _ _).mono (by omega) (by omega) (by omega)
theorem room_change (k : Pk) : (changeK k).room = k.room := (keep_change k).2.1
theorem room_act {k : Pk} {a : Ac} (h : k.room ≤ 9223372036854775807) (ha : a.room ≤ 9223372036854775807) : (actK k a).room ≤ 9223372036854775807 := by
  have hc := room_change k
  unfold actK
  split
  · unfold appendK
    split
    · split
      · exact h
      · split
        · rw [hc]; exact h
        · show (changeK k).room ≤ _; rw [hc]; exact h
    · exact h
  · split
    · unfold syncK
      split
      · split
        · rw [hc]; exact h
        · show (changeK k).room ≤ _; rw [hc]; exact h
      · exact h
    · split
      · unfold renameK
        split
        · split
          · rw [hc]; exact h
          · split
            · rw [hc]; exact h
            · show (changeK k).room ≤ _; rw [hc]; exact h
        · exact h
      · split
        · unfold deleteK
          split
          · split
            · rw [hc]; exact h
            · show (changeK k).room ≤ _; rw [hc]; exact h
          · exact h
        · split
          · exact h
          · split
            · exact h
            · exact ha
theorem held_mono {P : Program} {md : Region.Mode} {ops : Array Oper} {Q : Exit → Go.Act → World → Prop} {S S' : World → Prop} (h : ∀ w, S' w → S w) : ∀ (fuel : Nat) (listed : Array Bool) (a : Go.Act) (w : World), wpAnyH P md ops Q S' fuel listed a w → wpAnyH P md ops Q S fuel listed a w
  | 0, _, _, _, hw => hw
  | fuel + 1, _, _, _, hw => ⟨hw.1, fun i hi => wpOp_mono (fun a' w' hh => ⟨h _ hh.1, held_mono h fuel _ a' w' hh.2⟩) (hw.2 i hi)⟩
/-- the region's word is made to say more. -/
theorem shut_more {P : Program} {md : Region.Mode} {ops : Array Oper} {Q : Exit → Go.Act → World → Prop} {S S' : World → Prop} {fuel : Nat} {listed : Array Bool} {K : Go.Act → World → Prop}
    (hK : Shut (∀ a w, S w → (S w → wpAnyH P md ops Q S fuel listed a w) → K a w)) (h : ∀ w, S' w → S w) : Shut (∀ a w, S' w → (S' w → wpAnyH P md ops Q S' fuel listed a w) → K a w) :=
  fun a w hS hW => hK.out a w (h w hS) fun _ => held_mono h _ _ _ _ (hW hS)
theorem same_said {A B : Prop} (hA : A) (f : A → B) : A = B := propext ⟨f, fun _ => hA⟩
theorem Only.wr {base : Nat} {X : Nat → Prop} {a b : World} (h : Only (Wr base X) a b) (hB : base ≤ a.heap.size) : Below base a b := h.below hB fun _ hi => hi.1
section
variable {base P i j k : Nat} {a b : World} {x y z : Value}
theorem box_one (h : Only (Wr base fun i => i = P) a b) (c0 : a.cell? ⟨P, i, none⟩ = some x) : b.cell? ⟨P, i, none⟩ = some x :=
  (World.cell?_of_block (a := ⟨P, i, none⟩) (h.block P (World.block_lt_of_cell? a _ c0) fun h => h.2 rfl)).trans c0
theorem box_two (h : Only (Wr base fun i => i = P) a b) (c : a.cell? ⟨P, i, none⟩ = some x ∧ a.cell? ⟨P, j, none⟩ = some y) : b.cell? ⟨P, i, none⟩ = some x ∧ b.cell? ⟨P, j, none⟩ = some y := ⟨box_one h c.1, box_one h c.2⟩
theorem fr.both (h : Below a.heap.size a b) {p q : Addr} (c : a.cell? p = some x ∧ a.cell? q = some y) : b.cell? p = some x ∧ b.cell? q = some y := ⟨fr.cell h c.1, fr.cell h c.2⟩
theorem box_three (h : Only (Wr base fun i => i = P) a b) (c : a.cell? ⟨P, i, none⟩ = some x ∧ a.cell? ⟨P, j, none⟩ = some y ∧ a.cell? ⟨P, k, none⟩ = some z) : b.cell? ⟨P, i, none⟩ = some x ∧ b.cell? ⟨P, j, none⟩ = some y ∧ b.cell? ⟨P, k, none⟩ = some z := ⟨box_one h c.1, box_one h c.2.1, box_one h c.2.2⟩
theorem fr.trey (h : Below a.heap.size a b) {p q r : Addr} (c : a.cell? p = some x ∧ a.cell? q = some y ∧ a.cell? r = some z) : b.cell? p = some x ∧ b.cell? q = some y ∧ b.cell? r = some z := ⟨fr.cell h c.1, fr.cell h c.2.1, fr.cell h c.2.2⟩
theorem byt_wr {X : Nat → Prop} {v : Value} {bs : List UInt8} (h : Byt a (fun i => i < base) v bs) (ho : Only (Wr base X) a b) : Byt b (fun i => i < base) v bs := h.only ho fun i _ hi hw => by have := hw.1; omega
theorem ints_wr {X : Nat → Prop} {v : Value} {zs : List Int} (h : IntsIn a (fun i => i < base) v zs) (ho : Only (Wr base X) a b) : IntsIn b (fun i => i < base) v zs := h.keepR fun _ _ _ _ hr => hr.keep ho.size fun i hi hs => ho.block i hi fun hw => by have := hw.1; omega
theorem OwnRows.fsl {fs : List Fl} (h : OwnFiles a base x fs) (hl : fs.length * 48 ≤ 140737488355328) : FilesV a (fun _ => True) x fs := (OwnRows.rows flFine h hl).mono flFine fun _ _ => trivial
end
set_option maxRecDepth 100000 in
set_option maxHeartbeats 8000000 in
theorem act_any (base p r : Nat) (k : Pk) (a : Ac) (Aa Ak : Option Addr) (ca ck : Nat) (w : World) (N B M : Nat) (h : J2 w base (fun _ => False) p r k k) (hv : Byt w (fun i => i < base) (.slice Aa a.data.length ca) a.data) (hz : IntsIn w (fun i => i < base) (.slice Ak a.keep.length ck) a.keep) (hl : a.keep.length * 8 ≤ 140737488355328)
    (hn : a.name.length ≤ 140737488355328) (hd : a.dest.length ≤ 140737488355328) (hi : InvK k N B M) (hN : (N + 1) * 48 ≤ 140737488355328) (hB : B + a.data.length ≤ 1099511627776) (hM : M < 4611686018427387904) (hroom : k.room ≤ 9223372036854775807) :
    Calls Try.prog 26 #[.pointer (some ⟨p, 0, none⟩), .pointer (some ⟨r, 0, none⟩), .agg #[.int .i64 a.kind, .string ⟨a.name.toArray⟩, .string ⟨a.dest.toArray⟩, .slice Aa a.data.length ca, .int .i64 a.ops, .int .i64 a.room, .slice Ak a.keep.length ck]] w fun e w' => e = .returned (.bool true) ∧ J2 w' base (fun _ => False) p r (actK k a) (actK k a) ∧ Below base w w' := by
  have hbase := h.1
  obtain ⟨W0, hW0⟩ : ∃ W0, W0 = w.alloc (.cells #[.int .i64 a.kind, .string ⟨a.name.toArray⟩, .string ⟨a.dest.toArray⟩, .slice Aa a.data.length ca, .int .i64 a.ops, .int .i64 a.room, .slice Ak a.keep.length ck] 56) := ⟨_, rfl⟩
  have hb0 : Below w.heap.size w W0 := by rw [hW0]; exact (Below.refl _ _).alloc (Nat.le_refl _) _
  have hs0 : W0.heap.size = w.heap.size + 1 := by rw [hW0]; simp
  have hx0 : W0.heap[w.heap.size]? = some (.cells #[.int .i64 a.kind, .string ⟨a.name.toArray⟩, .string ⟨a.dest.toArray⟩, .slice Aa a.data.length ca, .int .i64 a.ops, .int .i64 a.room, .slice Ak a.keep.length ck] 56 (0, 0)) := by rw [hW0]; exact heap_alloc_new w _
  have hj0 : J2 W0 base (fun i => i = w.heap.size) p r k k := h.guard hb0 fun i hi => by rw [hi]; omega
  have b0 : W0.cell? ⟨w.heap.size, 0, none⟩ = some (.int .i64 a.kind) := cell_of_row W0 w.heap.size 0 _ _ _ hx0
  have b1 : W0.cell? ⟨w.heap.size, 1, none⟩ = some (.string ⟨a.name.toArray⟩) := cell_of_row W0 w.heap.size 1 _ _ _ hx0
  have b2 : W0.cell? ⟨w.heap.size, 2, none⟩ = some (.string ⟨a.dest.toArray⟩) := cell_of_row W0 w.heap.size 2 _ _ _ hx0
  have b3 : W0.cell? ⟨w.heap.size, 3, none⟩ = some (.slice Aa a.data.length ca) := cell_of_row W0 w.heap.size 3 _ _ _ hx0
  have b4 : W0.cell? ⟨w.heap.size, 4, none⟩ = some (.int .i64 a.ops) := cell_of_row W0 w.heap.size 4 _ _ _ hx0
  have b5 : W0.cell? ⟨w.heap.size, 5, none⟩ = some (.int .i64 a.room) := cell_of_row W0 w.heap.size 5 _ _ _ hx0
  have b6 : W0.cell? ⟨w.heap.size, 6, none⟩ = some (.slice Ak a.keep.length ck) := cell_of_row W0 w.heap.size 6 _ _ _ hx0
  have HB0 := Lib.hid (hb0.mono hbase)
  have HJ0 := Lib.hid hj0
  have HV0 := Lib.hid (hv.below hb0)
  have HZ0 := Lib.hid (hz.below hb0)
  have HI := Lib.hid hi
  have hbW : base ≤ W0.heap.size := by omega
  have hN0 : N * 48 ≤ 140737488355328 := by omega
  have hN1 : (N + 1) * 48 ≤ 140737488355328 := hN
  have hf0 : fr W0 W0.drew := fr.refl.drew
  have hfa : fr W0 (W0.drew.alloc (.cells #[] 5)) := hf0.alloc _
  have HJD := Lib.hid (hj0.below hf0)
  have HINV := Lib.hid (inv_act (a := a) hi hB)
  obtain ⟨ka, hka⟩ : ∃ ka, actK k a = ka := ⟨_, rfl⟩
  rw [hka] at HINV ⊢
  have HKA := Lib.hid hka
  have HS : Hid (∀ (w4 : World), J2 w4 base (fun i => i = w.heap.size) p r ka ka → Calls Try.prog 12 #[.pointer (some ⟨p, 0, none⟩)] w4 fun e w' => ∃ A c, e = .returned (.slice A ka.fs.length c) ∧ OwnFiles w' w4.heap.size (.slice A ka.fs.length c) ka.fs ∧ Below w4.heap.size w4 w') := Lib.hid fun w4 hj => (ddump_j hj HINV.out hN1).mono fun e w' h => by
    obtain ⟨v, h1, h2, h3⟩ := h
    obtain ⟨A, c, rfl⟩ := OwnRows.fo h2
    exact ⟨A, c, h1, h2, h3⟩
  have hk48 : ka.fs.length * 48 ≤ 140737488355328 := by have := HINV.out.many; omega
  clear h hv hz hi hb0 hx0 hj0 hka
  go_enter Try.func26, Try.ntmps26
  go_upto_region 1 with (fail)
  rw [← hW0]
  clear hW0
  by_cases h0 : a.kind.tmod 7 = 0
  · have hact : appendK k a.name a.data = ka := by rw [← HKA.out]; unfold actK; rw [if_pos h0]
    obtain ⟨e, he⟩ : ∃ e, appendE k a.name a.data = e := ⟨_, rfl⟩
    have HD : Hid (∀ (w2 : World) (A c), fr W0 w2 → Byt w2 (fun i => W0.heap.size ≤ i) (.slice A a.data.length c) a.data → Calls Try.prog 15 #[.pointer (some ⟨p, 0, none⟩), .string ⟨a.name.toArray⟩, .slice A a.data.length c] w2 fun e1 w' => e1 = .returned (.int .i64 e) ∧ J2 w' base (fun i => i = w.heap.size) p r ka k ∧ Only (Wr base fun i => i = w.heap.size) w2 w') := Lib.hid fun w2 A c hb hv => by
      have := dappend_j a.name (.slice A a.data.length c) a.data HJ0.out hb hv hn HI.out hN0 hB hM
      rwa [he, hact] at this
    have HR : Hid (∀ (w3 : World), J2 w3 base (fun i => i = w.heap.size) p r ka k → Byt w3 (fun i => i < base) (.slice Aa a.data.length ca) a.data → Calls Try.prog 18 #[.pointer (some ⟨r, 0, none⟩), .string ⟨a.name.toArray⟩, .slice Aa a.data.length ca] w3 fun e1 w' => e1 = .returned (.int .i64 e) ∧ J2 w' base (fun i => i = w.heap.size) p r ka ka ∧ Only (Wr base fun i => i = w.heap.size) w3 w') := Lib.hid fun w3 hj hv => by
      have := rappend_j a.name (.slice Aa a.data.length ca) a.data hj hv hn HI.out hN1 hB hM hroom
      rwa [he, hact] at this
    have g : (a.kind.tmod 7 == 0) = true := by rw [beq_iff_eq]; exact h0
    clear he hact h0
    go_upto_region 3 with (fail)
    go_region_held3 (fun w' => w'.cell? ⟨w.heap.size, 1, none⟩ = some (.string ⟨a.name.toArray⟩) ∧ w'.cell? ⟨w.heap.size, 3, none⟩ = some (.slice Aa a.data.length ca))
      (first
        | with_reducible exact fr.two hf0 b1 b3
        | with_reducible exact fr.two hfa b1 b3
        | with_reducible exact And.intro p1 p3
        | with_reducible exact And.intro q1 q3
        | with_reducible exact And.intro s1 (And.intro s3 y4)
        | with_reducible exact And.intro t1 (And.intro t3 y5)
        | with_reducible exact And.intro u1 (And.intro u3 y6))
      (first
            | (go_split_ands; refine step_append_byt0L (by rfl) _ _ (by rfl) _ (.slice Aa a.data.length ca) (by rfl) (by rfl) (fun i => i < base) a.data (fr.byt hfa HV0.out) ?_; intro v5 w2 hv5 hb2; obtain ⟨A2, c2, rfl⟩ := slice_form hv5.byt; have hf2 := fr.step hfa hb2; have p1 := fr.cell hf2 b1; have p3 := fr.cell hf2 b3; have hv5b := Byt.mono (S' := fun i => W0.heap.size ≤ i) hv5.byt fun i hi => Nat.le_trans (Below.size hfa) hi)
            | (go_split_ands; go_at_call 15; (with_reducible (refine (HD.out w2 A2 c2 hf2 hv5b).mono ?_)); rintro e3 w3 ⟨rfl, hj3, ho3⟩; have q1 := box_one ho3 p1; have q3 := box_one ho3 p3; have hvb3 := byt_wr (fr.byt hf2 HV0.out) ho3)
            | (go_split_ands; go_at_call 18; (with_reducible (refine (HR.out w3 hj3 hvb3).mono ?_)); rintro e4 w4 ⟨rfl, hj4, ho4⟩; have s1 := box_one ho4 q1; have s3 := box_one ho4 q3; obtain ⟨A4, c4, y4, hfl4⟩ := hj4.files HINV.out hN1; (have hA := ‹Shut (∀ (a : Go.Act) (w : World), _ → (_ → wpAnyH _ _ _ _ _ _ _ a w) → _)›); (have hsw := same_said hA (fun hA => shut_more hA (S' := fun w' => w'.cell? ⟨w.heap.size, 1, none⟩ = some (.string ⟨a.name.toArray⟩) ∧ w'.cell? ⟨w.heap.size, 3, none⟩ = some (.slice Aa a.data.length ca) ∧ w'.cell? ⟨r, 0, none⟩ = some (.slice A4 ka.fs.length c4)) (fun w' h => ⟨h.1, h.2.1⟩))); simp only [hsw] at *; clear hsw hA)
            | (go_split_ands; go_at_call 12; (with_reducible (refine (HS.out w4 hj4).mono ?_)); rintro e5 w5 ⟨A5d, c5d, rfl, hown, hb5⟩; have y5 := fr.cell hb5 y4; have t1 := fr.cell hb5 s1; have t3 := fr.cell hb5 s3)
            | (go_split_ands; go_at_call 16; (with_reducible (refine (fsame_any (fun _ => True) (fun _ => True) (.slice A5d ka.fs.length c5d) (.slice A4 ka.fs.length c4) ka.fs w5 (OwnRows.fsl hown hk48) (Rows.below flFine hfl4 hb5)).mono ?_)); rintro e6 w6 ⟨rfl, hb6⟩; have u1 := fr.cell hb6 t1; have u3 := fr.cell hb6 t3; have y6 := fr.cell hb6 y5))
    all_goals
      go_wp2
      refine bodyPost_ret (v := .bool true) (by simp [results, Try.results26, go_sem]) rfl ?_
      exact ⟨rfl, ((hj4.below hb5).below hb6).free, (((((HB0.out.trans (Below.mono hf2 hbW)).trans (ho3.wr (Nat.le_trans hbW (Below.size hf2)))).trans (ho4.wr hj3.1)).trans (hb5.mono hj4.1)).trans (hb6.mono (hj4.below hb5).1))⟩
    
  by_cases h1 : a.kind.tmod 7 = 1
  · have hact : syncK k a.name = ka := by rw [← HKA.out]; unfold actK; rw [if_neg h0, if_pos h1]
    obtain ⟨e, he⟩ : ∃ e, syncE k a.name = e := ⟨_, rfl⟩
    have HD := Lib.hid (dsync_j a.name HJD.out hn HI.out hM)
    rw [he, hact] at HD
    have HR : Hid (∀ (w3 : World), J2 w3 base (fun i => i = w.heap.size) p r ka k → Calls Try.prog 40 #[.pointer (some ⟨r, 0, none⟩), .string ⟨a.name.toArray⟩] w3 fun e1 w' => e1 = .returned (.int .i64 e) ∧ J2 w' base (fun i => i = w.heap.size) p r ka ka ∧ Only (Wr base fun i => i = w.heap.size) w3 w') := Lib.hid fun w3 hj => by
      have := rsync_j a.name hj hn HI.out hN0 hM
      rwa [he, hact] at this
    have g0 : (a.kind.tmod 7 == 0) = false := by rw [h1]; rfl
    have g : (a.kind.tmod 7 == 1) = true := by rw [beq_iff_eq]; exact h1
    clear he hact h1
    go_upto_region 5 with (fail)
    go_region_held3 (fun w' => w'.cell? ⟨w.heap.size, 1, none⟩ = some (.string ⟨a.name.toArray⟩) ∧ w'.cell? ⟨w.heap.size, 2, none⟩ = some (.string ⟨a.dest.toArray⟩))
      (first
        | with_reducible exact fr.two hf0 b1 b2
        | with_reducible exact And.intro q1 q2
        | with_reducible exact And.intro s1 s2)
      (first
        | (go_split_ands; go_at_call 22; (with_reducible (refine HD.out.mono ?_)); rintro e3 w3 ⟨rfl, hj3, ho3⟩; have q1 := box_one ho3 (fr.cell hf0 b1); have q2 := box_one ho3 (fr.cell hf0 b2))
        | (go_split_ands; go_at_call 40; (with_reducible (refine (HR.out w3 hj3).mono ?_)); rintro e4 w4 ⟨rfl, hj4, ho4⟩; have s1 := box_one ho4 q1; have s2 := box_one ho4 q2))
    all_goals
      go_wp2
      refine bodyPost_ret (v := .bool true) (by simp [results, Try.results26, go_sem]) rfl ?_
      exact ⟨rfl, hj4.free, ((HB0.out.trans (Below.mono hf0 hbW)).trans (ho3.wr HJD.out.1)).trans (ho4.wr hj3.1)⟩
    
  by_cases h2 : a.kind.tmod 7 = 2
  · have hact : renameK k a.name a.dest = ka := by rw [← HKA.out]; unfold actK; rw [if_neg h0, if_neg h1, if_pos h2]
    obtain ⟨e, he⟩ : ∃ e, renameE k a.name a.dest = e := ⟨_, rfl⟩
    have HD := Lib.hid (drename_j a.name a.dest HJD.out hn hd HI.out hN0 hM)
    rw [he, hact] at HD
    have HR : Hid (∀ (w3 : World), J2 w3 base (fun i => i = w.heap.size) p r ka k → Calls Try.prog 41 #[.pointer (some ⟨r, 0, none⟩), .string ⟨a.name.toArray⟩, .string ⟨a.dest.toArray⟩] w3 fun e1 w' => e1 = .returned (.int .i64 e) ∧ J2 w' base (fun i => i = w.heap.size) p r ka ka ∧ Only (Wr base fun i => i = w.heap.size) w3 w') := Lib.hid fun w3 hj => by
      have := rrename_j a.name a.dest hj hn hd HI.out hN0 hM
      rwa [he, hact] at this
    have g0 : (a.kind.tmod 7 == 0) = false := by rw [h2]; rfl
    have g1 : (a.kind.tmod 7 == 1) = false := by rw [h2]; rfl
    have g : (a.kind.tmod 7 == 2) = true := by rw [beq_iff_eq]; exact h2
    clear he hact h2
    go_upto_region 7 with (fail)
    go_region_held3 (fun w' => w'.cell? ⟨w.heap.size, 1, none⟩ = some (.string ⟨a.name.toArray⟩) ∧ w'.cell? ⟨w.heap.size, 2, none⟩ = some (.string ⟨a.dest.toArray⟩))
      (first
        | with_reducible exact fr.two hf0 b1 b2
        | with_reducible exact And.intro q1 q2
        | with_reducible exact And.intro s1 s2)
      (first
        | (go_split_ands; go_at_call 23; (with_reducible (refine HD.out.mono ?_)); rintro e3 w3 ⟨rfl, hj3, ho3⟩; have q1 := box_one ho3 (fr.cell hf0 b1); have q2 := box_one ho3 (fr.cell hf0 b2))
        | (go_split_ands; go_at_call 41; (with_reducible (refine (HR.out w3 hj3).mono ?_)); rintro e4 w4 ⟨rfl, hj4, ho4⟩; have s1 := box_one ho4 q1; have s2 := box_one ho4 q2))
    all_goals
      go_wp2
      refine bodyPost_ret (v := .bool true) (by simp [results, Try.results26, go_sem]) rfl ?_
      exact ⟨rfl, hj4.free, ((HB0.out.trans (Below.mono hf0 hbW)).trans (ho3.wr HJD.out.1)).trans (ho4.wr hj3.1)⟩
    
  by_cases h3 : a.kind.tmod 7 = 3
  · have hact : deleteK k a.name = ka := by rw [← HKA.out]; unfold actK; rw [if_neg h0, if_neg h1, if_neg h2, if_pos h3]
    obtain ⟨e, he⟩ : ∃ e, syncE k a.name = e := ⟨_, rfl⟩
    have HD := Lib.hid (ddelete_j a.name HJD.out hn HI.out hM)
    rw [he, hact] at HD
    have HR : Hid (∀ (w3 : World), J2 w3 base (fun i => i = w.heap.size) p r ka k → Calls Try.prog 42 #[.pointer (some ⟨r, 0, none⟩), .string ⟨a.name.toArray⟩] w3 fun e1 w' => e1 = .returned (.int .i64 e) ∧ J2 w' base (fun i => i = w.heap.size) p r ka ka ∧ Only (Wr base fun i => i = w.heap.size) w3 w') := Lib.hid fun w3 hj => by
      have := rdelete_j a.name hj hn HI.out hN0 hM
      rwa [he, hact] at this
    have g0 : (a.kind.tmod 7 == 0) = false := by rw [h3]; rfl
    have g1 : (a.kind.tmod 7 == 1) = false := by rw [h3]; rfl
    have g2 : (a.kind.tmod 7 == 2) = false := by rw [h3]; rfl
    have g : (a.kind.tmod 7 == 3) = true := by rw [beq_iff_eq]; exact h3
    clear he hact h3
    go_upto_region 9 with (fail)
    go_region_held3 (fun w' => w'.cell? ⟨w.heap.size, 1, none⟩ = some (.string ⟨a.name.toArray⟩) ∧ w'.cell? ⟨w.heap.size, 2, none⟩ = some (.string ⟨a.dest.toArray⟩))
      (first
        | with_reducible exact fr.two hf0 b1 b2
        | with_reducible exact And.intro q1 q2
        | with_reducible exact And.intro s1 s2)
      (first
        | (go_split_ands; go_at_call 24; (with_reducible (refine HD.out.mono ?_)); rintro e3 w3 ⟨rfl, hj3, ho3⟩; have q1 := box_one ho3 (fr.cell hf0 b1); have q2 := box_one ho3 (fr.cell hf0 b2))
        | (go_split_ands; go_at_call 42; (with_reducible (refine (HR.out w3 hj3).mono ?_)); rintro e4 w4 ⟨rfl, hj4, ho4⟩; have s1 := box_one ho4 q1; have s2 := box_one ho4 q2))
    all_goals
      go_wp2
      refine bodyPost_ret (v := .bool true) (by simp [results, Try.results26, go_sem]) rfl ?_
      exact ⟨rfl, hj4.free, ((HB0.out.trans (Below.mono hf0 hbW)).trans (ho3.wr HJD.out.1)).trans (ho4.wr hj3.1)⟩
    
  by_cases h4 : a.kind.tmod 7 = 4
  · have hact : k = ka := by rw [← HKA.out]; unfold actK; rw [if_neg h0, if_neg h1, if_neg h2, if_neg h3, if_pos h4]
    subst hact
    obtain ⟨e, he⟩ : ∃ e, readyE k [a.name] = e := ⟨_, rfl⟩
    obtain ⟨bs, hbs⟩ : ∃ bs, (if readyE k [a.name] = 0 then readD k a.name else []) = bs := ⟨_, rfl⟩
    have HD := Lib.hid (dread_j a.name HJ0.out hn)
    rw [hbs, he] at HD
    have HR : Hid (∀ (w3 : World), J2 w3 base (fun i => i = w.heap.size) p r k k → Calls Try.prog 43 #[.pointer (some ⟨r, 0, none⟩), .string ⟨a.name.toArray⟩] w3 fun e1 w' => ∃ v, e1 = .returned (.tuple #[v, .int .i64 e]) ∧ BytL w' w3.heap.size v bs ∧ Below w3.heap.size w3 w') := Lib.hid fun w3 hj => by
      have := rread_j a.name hj hn HI.out hN0
      rwa [hbs, he] at this
    have g0 : (a.kind.tmod 7 == 0) = false := by rw [h4]; rfl
    have g1 : (a.kind.tmod 7 == 1) = false := by rw [h4]; rfl
    have g2 : (a.kind.tmod 7 == 2) = false := by rw [h4]; rfl
    have g3 : (a.kind.tmod 7 == 3) = false := by rw [h4]; rfl
    have g : (a.kind.tmod 7 == 4) = true := by rw [beq_iff_eq]; exact h4
    clear he hbs h4
    go_wp2_with (first
      | (go_at_call 19; refine HD.out.mono ?_; rintro e3 w3 ⟨v3, rfl, hv3, hb3⟩; have b1' := fr.cell hb3 b1; obtain ⟨A3, c3, rfl⟩ := slice_form hv3.byt)
      | (go_at_call 43; refine (HR.out w3 (HJ0.out.below hb3)).mono ?_; rintro e4 w4 ⟨v4, rfl, hv4, hb4⟩; obtain ⟨A4, c4, rfl⟩ := slice_form hv4.byt)
      | (go_at_call 14; refine (vsame_any _ _ _ _ bs _ (hv3.below hb4).byt hv4.byt).mono ?_; rintro e5 w5 ⟨rfl, rfl⟩))
    refine bodyPost_ret (v := .bool true) (by simp [results, Try.results26, go_sem]) rfl ?_
    exact ⟨rfl, ((HJ0.out.below hb3).below hb4).free, (HB0.out.trans (hb3.mono hbW)).trans (hb4.mono (HJ0.out.below hb3).1)⟩
  by_cases h5 : a.kind.tmod 7 = 5
  · have hact : k = ka := by rw [← HKA.out]; unfold actK; rw [if_neg h0, if_neg h1, if_neg h2, if_neg h3, if_neg h4, if_pos h5]
    subst hact
    obtain ⟨e, he⟩ : ∃ e, readyE k [] = e := ⟨_, rfl⟩
    obtain ⟨ss, hss⟩ : ∃ ss, listP k = ss := ⟨_, rfl⟩
    have hsl : ss.length ≤ 140737488355328 := by
      rw [← hss]
      unfold listP
      split
      · simp
      · rw [List.length_map]; omega
    have HD := Lib.hid (dlist_j HJ0.out HI.out hN0)
    rw [hss, he] at HD
    have HR : Hid (∀ (w3 : World), J2 w3 base (fun i => i = w.heap.size) p r k k → Calls Try.prog 44 #[.pointer (some ⟨r, 0, none⟩)] w3 fun e1 w' => ∃ v, e1 = .returned (.tuple #[v, .int .i64 e]) ∧ OwnS w' w3.heap.size v ss ∧ Below w3.heap.size w3 w') := Lib.hid fun w3 hj => by
      have := rlist_j hj HI.out hN0
      rwa [hss, he] at this
    have g0 : (a.kind.tmod 7 == 0) = false := by rw [h5]; rfl
    have g1 : (a.kind.tmod 7 == 1) = false := by rw [h5]; rfl
    have g2 : (a.kind.tmod 7 == 2) = false := by rw [h5]; rfl
    have g3 : (a.kind.tmod 7 == 3) = false := by rw [h5]; rfl
    have g4 : (a.kind.tmod 7 == 4) = false := by rw [h5]; rfl
    have g : (a.kind.tmod 7 == 5) = true := by rw [beq_iff_eq]; exact h5
    clear he hss h5
    go_wp2_with (first
      | (go_at_call 25; refine HD.out.mono ?_; rintro e3 w3 ⟨v3, rfl, hv3, hb3⟩; obtain ⟨A3, c3, rfl⟩ := hv3.form)
      | (go_at_call 44; refine (HR.out w3 (HJ0.out.below hb3)).mono ?_; rintro e4 w4 ⟨v4, rfl, hv4, hb4⟩; obtain ⟨A4, c4, rfl⟩ := hv4.form)
      | (go_at_call 45; refine (sametexts_any _ _ _ _ ss _ (hv3.below hb4).strs hv4.strs hsl).mono ?_; rintro e5 w5 ⟨rfl, hb5⟩))
    refine bodyPost_ret (v := .bool true) (by simp [results, Try.results26, go_sem]) rfl ?_
    exact ⟨rfl, (((HJ0.out.below hb3).below hb4).below hb5).free, ((HB0.out.trans (hb3.mono hbW)).trans (hb4.mono (HJ0.out.below hb3).1)).trans (hb5.mono ((HJ0.out.below hb3).below hb4).1)⟩
  have hact : reviveK k a.ops a.room a.keep = ka := by rw [← HKA.out]; unfold actK; rw [if_neg h0, if_neg h1, if_neg h2, if_neg h3, if_neg h4, if_neg h5]
  have HR := Lib.hid (rrevive_j a.ops a.room (.slice Ak a.keep.length ck) a.keep HJ0.out HZ0.out HI.out hN0 (by omega))
  rw [hact] at HR
  have HD : Hid (∀ (wa w2 : World) (v : Value), J2 wa base (fun i => i = w.heap.size) p r k ka → fr wa w2 → IntsIn w2 (fun i => wa.heap.size ≤ i) v a.keep → Calls Try.prog 13 #[.pointer (some ⟨p, 0, none⟩), .agg #[.int .i64 a.ops, .int .i64 a.room, v]] w2 fun e1 w' => e1 = .returned (.int .i64 0) ∧ J2 w' base (fun i => i = w.heap.size) p r ka ka ∧ Only (Wr base fun i => i = w.heap.size) w2 w' ∧ ∀ u, w2.cell? ⟨r, 0, none⟩ = some u → w'.cell? ⟨r, 0, none⟩ = some u) := Lib.hid fun wa w2 v hj hb hz => by
    have := drevive_j a.ops a.room v a.keep hj hb hz hl HI.out hN0
    rwa [hact] at this
  have g0 : (a.kind.tmod 7 == 0) = false := by simpa using h0
  have g1 : (a.kind.tmod 7 == 1) = false := by simpa using h1
  have g2 : (a.kind.tmod 7 == 2) = false := by simpa using h2
  have g3 : (a.kind.tmod 7 == 3) = false := by simpa using h3
  have g4 : (a.kind.tmod 7 == 4) = false := by simpa using h4
  have g5 : (a.kind.tmod 7 == 5) = false := by simpa using h5
  clear hact h0 h1 h2 h3 h4 h5
  go_upto_region 19 with (go_at_call 20; refine HR.out.mono ?_; rintro e1 w1 ⟨rfl, hj1, ho1⟩; have HJ1 := Lib.hid hj1; have HO1 := Lib.hid ho1; clear hj1 ho1)
  have d4 := box_one HO1.out b4
  have d5 := box_one HO1.out b5
  have d6 := box_one HO1.out b6
  have HZ1 := Lib.hid (ints_wr HZ0.out HO1.out)
  have hg0 : fr w1 w1.drew := fr.refl.drew
  have f4 := fr.cell hg0 d4
  have f5 := fr.cell hg0 d5
  have f6 := fr.cell hg0 d6
  obtain ⟨A4, c4, y1, hfl1⟩ := HJ1.out.files HINV.out hN1
  have f0 := fr.cell hg0 y1
  go_region_held3 (fun w' => w'.cell? ⟨w.heap.size, 4, none⟩ = some (.int .i64 a.ops) ∧ w'.cell? ⟨w.heap.size, 5, none⟩ = some (.int .i64 a.room) ∧ w'.cell? ⟨w.heap.size, 6, none⟩ = some (.slice Ak a.keep.length ck) ∧ w'.cell? ⟨r, 0, none⟩ = some (.slice A4 ka.fs.length c4))
    (first
      | with_reducible exact And.intro f4 (And.intro f5 (And.intro f6 f0))
      | with_reducible exact And.intro p4 (And.intro p5 (And.intro p6 p0))
      | with_reducible exact And.intro s4 (And.intro s5 (And.intro s6 y4))
      | with_reducible exact And.intro t4 (And.intro t5 (And.intro t6 y5))
      | with_reducible exact And.intro x4' (And.intro x5' (And.intro x6' x7')))
    (first
            | (go_split_ands; go_at_call 11; (with_reducible (refine (plan_any (fun i => i < base) a.ops a.room (.slice Ak a.keep.length ck) a.keep w1.drew (fr.ints2 hg0 HZ1.out) hl).mono ?_)); rintro e3 w3 ⟨kp, rfl, hk, hb3⟩; have hf3 := fr.step hg0 hb3; have p4 := fr.cell hb3 f4; have p5 := fr.cell hb3 f5; have p6 := fr.cell hb3 f6; have p0 := fr.cell hb3 f0; have hki := IntsIn.mono (S' := fun i => w1.heap.size ≤ i) hk.ints (fun i hi => hi); (obtain ⟨Ap, cp, rfl, _⟩ := id hk))
            | (go_split_ands; go_at_call 13; (with_reducible (refine (HD.out w1 w3 (.slice Ap a.keep.length cp) HJ1.out hf3 hki).mono ?_)); rintro e4 w4 ⟨rfl, hj4, ho4, hc4⟩; have s4 := box_one ho4 p4; have s5 := box_one ho4 p5; have s6 := box_one ho4 p6; have y4 := hc4 _ p0; have hfl4 := hj4.files_at HINV.out hN1 y4)
            | (go_split_ands; go_at_call 12; (with_reducible (refine (HS.out w4 hj4).mono ?_)); rintro e5 w5 ⟨A5d, c5d, rfl, hown, hb5⟩; have y5 := fr.cell hb5 y4; have t4 := fr.cell hb5 s4; have t5 := fr.cell hb5 s5; have t6 := fr.cell hb5 s6)
            | (go_split_ands; go_at_call 16; (with_reducible (refine (fsame_any (fun _ => True) (fun _ => True) (.slice A5d ka.fs.length c5d) (.slice A4 ka.fs.length c4) ka.fs w5 (OwnRows.fsl hown hk48) (Rows.below flFine hfl4 hb5)).mono ?_)); rintro e6 w6 ⟨rfl, hb6⟩; have x4' := fr.cell hb6 t4; have x5' := fr.cell hb6 t5; have x6' := fr.cell hb6 t6; have x7' := fr.cell hb6 y5))
  all_goals
    go_wp2
    refine bodyPost_ret (v := .bool true) (by simp [results, Try.results26, go_sem]) rfl ?_
    exact ⟨rfl, ((hj4.below hb5).below hb6).free, (((((HB0.out.trans (HO1.out.wr hbW)).trans (Below.mono hf3 HJ1.out.1)).trans (ho4.wr (Nat.le_trans HJ1.out.1 (Below.size hf3)))).trans (hb5.mono hj4.1)).trans (hb6.mono (hj4.below hb5).1))⟩
end Go.Proofs.Ytcmjoaepihbodaa
end
section
namespace Go.Proofs.Ytcmjoaepihbodaa
open Go.RowKit Go.BigFrame Go.Sort Go.Shelf Go.Lib Go.Maps
attribute [local go_sem ↓] Go.wp_at_zero Go.wp_at_succ
def wk0 : Pk := ⟨[], 3, -1, [1], 0, 0, false⟩
def wk1 : Pk := ⟨[⟨[97], [1, 2, 3], 0⟩], 3, -1, [1], 1, 3, false⟩
def wk2 : Pk := ⟨[⟨[97], [1, 2, 3], 3⟩], 3, -1, [1], 2, 3, false⟩
def wk3 : Pk := ⟨[⟨[97], [1, 2, 3, 4, 5], 3⟩], 3, -1, [1], 3, 5, false⟩
def wk4 : Pk := ⟨[⟨[97], [1, 2, 3, 4, 5], 3⟩], 3, -1, [1], 3, 5, true⟩
def wk5 : Pk := ⟨[⟨[97], [1, 2, 3, 4], 4⟩], -1, -1, [], 0, 4, false⟩
theorem wkE1 : appendE wk0 [97] [1, 2, 3] = 0 := by decide
theorem wkK1 : appendK wk0 [97] [1, 2, 3] = wk1 := by kernel_rfl
theorem wkE2 : syncE wk1 [97] = 0 := by decide
theorem wkK2 : syncK wk1 [97] = wk2 := by kernel_rfl
theorem wkE3 : appendE wk2 [97] [4, 5] = 0 := by decide
theorem wkK3 : appendK wk2 [97] [4, 5] = wk3 := by kernel_rfl
theorem wkE4 : syncE wk3 [97] = 20 := by decide
theorem wkK4 : deleteK wk3 [97] = wk4 := by kernel_rfl
theorem wkOk : okFs wk4.fs := by
  intro f hf
  obtain rfl : f = ⟨[97], [1, 2, 3, 4, 5], 3⟩ := by simpa [wk4] using hf
  decide
theorem wkK5 : reviveK wk4 (-1) (-1) [] = wk5 := by kernel_rfl
theorem wkE6 : readyE wk5 [[97]] = 0 := by decide
theorem wkD6 : readD wk5 [97] = [1, 2, 3, 4] := by kernel_rfl
set_option maxRecDepth 100000 in
set_option maxHeartbeats 4000000 in
theorem wakes_any (w : World) : Calls Try.prog 8 #[] w fun r w' => r = .returned (.bool true) ∧ Below w.heap.size w w' := by
  have hA : Below w.heap.size w (w.alloc (.cells #[.int .i64 1] 3)) := (Below.refl _ _).alloc (Nat.le_refl _) _
  have HI := Lib.hid (IntsIn.lit w (fun _ => True) trivial 3 [1] (by simp) (.cells #[.int .i64 1] 3) rfl)
  have HA := Lib.hid hA
  clear hA
  go_enter Try.func8, Try.ntmps8
  go_wp2_with (fail)
  refine (new_dk _ _ _ _ [1] _ HI.out (by simp) w.heap.size HA.out.size).mono ?_
  rintro r w1 ⟨p, rfl, h1, hb1⟩
  have H1 := Lib.hid (h1 : DkP w1 w.heap.size p wk0)
  have HB1 := Lib.hid (HA.out.trans (hb1.mono HA.out.size))
  clear h1 hb1
  go_wp2_with (fail)
  refine (append_dk (k := wk0) [97] _ [1, 2, 3] H1.out ((Below.refl _ _).alloc (Nat.le_refl _) _) HB1.out.size (Byt.lit w1 _ (Nat.le_refl _) 5 [1, 2, 3] (by simp) _ rfl) (by simp) (by decide) (by decide) (fun f hf => by cases hf) (by decide)).mono ?_
  rw [wkE1, wkK1]
  rintro r w2 ⟨rfl, h2, hb2, _⟩
  have H2 := Lib.hid h2
  have HB2 := Lib.hid ((HB1.out.alloc HB1.out.size (.cells #[.int .u8 1, .int .u8 2, .int .u8 3] 5)).trans hb2)
  clear h2 hb2
  go_wp2_with (fail)
  refine (sync_dk (k := wk1) [97] H2.out HB2.out.size (by simp) (by decide) (by decide)).mono ?_
  rw [wkE2, wkK2]
  rintro r w3 ⟨rfl, h3, hb3⟩
  have H3 := Lib.hid h3
  have HB3 := Lib.hid (HB2.out.trans hb3)
  clear h3 hb3
  go_wp2_with (fail)
  refine (append_dk (k := wk2) [97] _ [4, 5] H3.out ((Below.refl _ _).alloc (Nat.le_refl _) _) HB3.out.size (Byt.lit w3 _ (Nat.le_refl _) 5 [4, 5] (by simp) _ rfl) (by simp) (by decide) (by decide) (fun f hf => by obtain rfl := Option.some.inj hf; decide) (by decide)).mono ?_
  rw [wkE3, wkK3]
  rintro r w4 ⟨rfl, h4, hb4, _⟩
  have H4 := Lib.hid h4
  have HB4 := Lib.hid ((HB3.out.alloc HB3.out.size (.cells #[.int .u8 4, .int .u8 5] 5)).trans hb4)
  clear h4 hb4
  go_wp2_with (fail)
  refine (delete_dk (k := wk3) [97] H4.out HB4.out.size (by simp) (by decide) (by decide)).mono ?_
  rw [wkE4, wkK4]
  rintro r w5 ⟨rfl, h5, hb5⟩
  have H5 := Lib.hid h5
  have HB5 := Lib.hid (HB4.out.trans hb5)
  clear h5 hb5
  go_wp2_with (fail)
  refine (revive_dk (k := wk4) (fun _ => False) (-1) (-1) _ [] H5.out (Below.refl _ _) HB5.out.size wkOk (by decide) (IntsIn.nil _ _) (fun i hi => hi.elim) (by simp)).mono ?_
  rw [wkK5]
  rintro r w6 ⟨rfl, h6, hb6, _⟩
  have H6 := Lib.hid h6
  have HB6 := Lib.hid (HB5.out.trans hb6)
  clear h6 hb6
  go_wp2_with (fail)
  refine (read_dk (k := wk5) [97] H6.out (by simp)).mono ?_
  rw [wkE6, if_pos rfl, wkD6]
  rintro r w7 ⟨v, rfl, hv, h7, hb7⟩
  obtain ⟨A7, c7, rfl⟩ := slice_form hv.byt
  have cv : (convert 35 9 (.slice A7 4 c7)).run Try.prog w7 = .ok (.string ⟨#[1, 2, 3, 4]⟩) w7 := hv.byt.convert
  have H7 := Lib.hid h7
  have HB7 := Lib.hid (HB6.out.trans (hb7.mono HB6.out.size))
  clear h7 hb7 hv
  go_wp2_with (go_at_call 12; refine (dump_dk (k := wk5) H7.out (by decide)).mono ?_; rintro r w8 ⟨v8, rfl, hv8, h8, hb8⟩; obtain ⟨cs8, ho8, _⟩ := hv8; obtain ⟨A8, c8, e8⟩ := own_form ho8; have e8' : v8 = .slice A8 1 c8 := e8; subst e8')
  go_ret
  exact ⟨rfl, HB7.out.trans (hb8.mono HB7.out.size)⟩
end Go.Proofs.Ytcmjoaepihbodaa
end
section
namespace Go.Proofs.Ytcmjoaepihbodaa
open Go.RowKit Go.BigFrame
attribute [local go_sem ↓] Go.wp_at_zero Go.wp_at_succ
/-- blocks of T alone have turned, and bytes there are still xs many bytes. -/
structure Spoil (T : Nat → Prop) (w w' : World) : Prop where
  only : Only T w w'
  byt : ∀ v bs, Byt w T v bs → ∃ bs' : List UInt8, bs'.length = bs.length ∧ Byt w' T v bs'
  loose : ∀ i, Loose w i → Loose w' i
theorem Spoil.refl (T : Nat → Prop) (w : World) : Spoil T w w := ⟨Only.refl _ _, fun _ bs h => ⟨bs, rfl, h⟩, fun _ h => h⟩
theorem Spoil.trans {T : Nat → Prop} {a b c : World} (h : Spoil T a b) (k : Spoil T b c) : Spoil T a c :=
  ⟨h.only.trans k.only, fun v bs hb => by
    obtain ⟨b1, l1, h1⟩ := h.byt v bs hb
    obtain ⟨b2, l2, h2⟩ := k.byt v b1 h1
    exact ⟨b2, by omega, h2⟩, fun i hi => k.loose i (h.loose i hi)⟩
theorem Spoil.drew {T : Nat → Prop} {w : World} : Spoil T w w.drew := ⟨(Only.refl _ _).drew, fun _ bs h => ⟨bs, rfl, h⟩, fun _ h => h⟩
theorem Spoil.store {T : Nat → Prop} {w : World} {b p : Nat} (hT : T b) (hL : Loose w b) (c : UInt8) : Spoil T w (w.setCell ⟨b, p, none⟩ (bcell c)) := by
  obtain ⟨cs, hh⟩ := hL
  have hs := heap_setCell_same w b p cs _ (bcell c) hh
  refine ⟨(only_set w b p (bcell c)).mono fun i hi => hi ▸ hT, fun v bs h => ?_, fun i hi => ?_⟩
  · obtain ⟨A, ca, rfl, h1, h2, h3, hr⟩ := h
    rcases Nat.eq_zero_or_pos bs.length with h0 | h0
    · have : bs = [] := List.eq_nil_of_length_eq_zero h0
      subst this
      exact ⟨[], rfl, A, ca, rfl, h1, h2, h3, Row.nil _ _ _ _⟩
    · obtain ⟨b', o, rfl, hS, hlt, hc⟩ := hr.2 h0
      by_cases hbb : b' = b
      · subst hbb
        refine ⟨if o ≤ p then bs.set (p - o) c else bs, by split <;> simp, some ⟨b', o, none⟩, ca, by split <;> simp, by split <;> simpa using h1, h2, by split <;> simpa using h3, by split <;> simp, fun _ => ⟨b', o, rfl, hS, by simpa [World.setCell] using hlt, fun j u hu => ?_⟩⟩
        rw [cell_of_row _ _ _ _ _ _ hs]
        have key : ∀ j u, (bs.map bcell)[j]? = some u → cs[o + j]? = some u := fun j u hu => by
          have := hc j u hu
          rwa [cell_of_row _ _ _ _ _ _ hh] at this
        by_cases hop : o ≤ p
        · rw [if_pos hop, List.map_set, List.getElem?_set] at hu
          by_cases hj : p - o = j
          · rw [if_pos hj] at hu
            split at hu
            · rename_i hjl
              simp only [Option.some.injEq] at hu
              have hjl' : j < bs.length := by simpa [hj] using hjl
              obtain ⟨u0, hu0⟩ : ∃ u, (bs.map bcell)[j]? = some u := ⟨_, List.getElem?_eq_getElem (by simpa using hjl')⟩
              have h5 := (Array.getElem?_eq_some_iff.1 (key j u0 hu0)).1
              rw [show o + j = p by omega] at h5 ⊢
              rw [Array.getElem?_setIfInBounds_self, if_pos h5, hu]
            · cases hu
          · rw [if_neg hj] at hu
            rw [Array.getElem?_setIfInBounds_ne (by omega)]
            exact key j u hu
        · rw [if_neg hop] at hu
          rw [Array.getElem?_setIfInBounds_ne (by omega)]
          exact key j u hu
      · refine ⟨bs, rfl, some ⟨b', o, none⟩, ca, rfl, h1, h2, h3, hr.1, fun _ => ⟨b', o, rfl, hS, by simpa [World.setCell] using hlt, fun j u hu => ?_⟩⟩
        rw [World.cell?_of_block (w' := w.setCell ⟨b, p, none⟩ (bcell c)) (w := w) (a := ⟨b', o + j, none⟩) (heap_setCell_other w ⟨b, p, none⟩ b' _ hbb)]
        exact hc j u hu
  · by_cases hib : i = b
    · subst hib; exact ⟨_, hs⟩
    · exact hi.of_eq (heap_setCell_other w ⟨b, p, none⟩ i _ hib)
theorem u8_next (c : UInt8) : Value.int .u8 (((c.toNat : Int) + 1) % 256) = bcell (c + 1) := by
  unfold bcell
  have : ((c.toNat : Int) + 1) % 256 = ((c + 1).toNat : Int) := by simp [UInt8.toNat_add]
  rw [this]
theorem Loose.frozen {w : World} {b p : Nat} (h : Loose w b) : w.frozen? ⟨b, p, none⟩ = false := by
  obtain ⟨cs, h⟩ := h
  exact frozen_of_row w b p cs _ h
/-- a file's bytes, in a slice of one's own whose bytes may have been turned. -/
theorem spoil_file {T : Nat → Prop} {w wr : World} {base : Nat} {v : Value} {fs : List Fl} (h : RowF w base T v fs) (hv : ∀ g, v.ownBlock = some g → ¬ T g) (hs : Spoil T w wr) {i : Nat} {f : Fl} (hf : fs[i]? = some f) :
    ∃ g c A d bs, v = .slice (some ⟨g, 0, none⟩) fs.length c ∧ wr.cell? ⟨g, i * 3 + 1, none⟩ = some (.slice A bs.length d) ∧ Byt wr T (.slice A bs.length d) bs ∧ bs.length ≤ 140737488355328 ∧ bs.length = f.data.length := by
  obtain ⟨css, h1, h2⟩ := h
  have hlt := (List.getElem?_eq_some_iff.1 hf).1
  obtain ⟨g, c, rfl, _, hg, _, _⟩ := own_pos h1 (by omega)
  obtain ⟨cs, hcs, ⟨vd, rfl, hvd, hnl⟩⟩ := h2.at_ hf
  obtain ⟨bs, hl, hb⟩ := hs.byt _ _ hvd
  obtain ⟨A, d, rfl⟩ := slice_form hb
  have hc : w.cell? ⟨g, i * 3 + 1, none⟩ = some (.slice A bs.length d) := by
    have := h1.cells (g := g) rfl _ _ (flat_at h2.lens hcs (j := 1) (u := .slice A bs.length d) rfl)
    rwa [Addr.add_lit, Nat.zero_add] at this
  refine ⟨g, c, A, d, bs, rfl, (World.cell?_of_block (a := ⟨g, i * 3 + 1, none⟩) (hs.only.block g hg (hv g rfl))).trans hc, hb, hb.len, hl⟩
/-- a byte of such a slice. -/
theorem spoil_at {T : Nat → Prop} {w wr : World} {A : Option Addr} {n d : Nat} {bs : List UInt8} (hb : Byt w T (.slice A n d) bs) (hs : Spoil T w wr) (hL : ∀ i, T i → i < w.heap.size → Loose w i) {k : Nat} (hk : k < bs.length) :
    ∃ b o c, A = some ⟨b, o, none⟩ ∧ T b ∧ Loose wr b ∧ wr.cell? ⟨b, o + k, none⟩ = some (bcell c) := by
  obtain ⟨bs', hl, h'⟩ := hs.byt _ _ hb
  have hbw : ∀ b o, A = some ⟨b, o, none⟩ → b < w.heap.size := by
    obtain ⟨A', d', hE, _, _, _, hr⟩ := hb
    injection hE with e1 _ _
    subst e1
    obtain ⟨b', o', e, _, hlt, _⟩ := hr.2 (by omega)
    intro b o e'
    rw [e] at e'
    cases e'
    exact hlt
  obtain ⟨A', d', hE, _, _, _, hr⟩ := h'
  injection hE with e1 _ _
  subst e1
  obtain ⟨b, o, u, rfl, hT, _, hu, hc⟩ := hr.at_ (k := k) (by omega)
  obtain ⟨c, hcc⟩ : ∃ c, bs'[k]? = some c := ⟨_, List.getElem?_eq_getElem (by omega)⟩
  obtain rfl : u = bcell c := by rw [List.getElem?_map, hcc] at hu; injection hu with hu; exact hu.symm
  exact ⟨b, o, c, rfl, hT, hs.loose b (hL b hT (hbw b o rfl)), hc⟩
end Go.Proofs.Ytcmjoaepihbodaa
end
