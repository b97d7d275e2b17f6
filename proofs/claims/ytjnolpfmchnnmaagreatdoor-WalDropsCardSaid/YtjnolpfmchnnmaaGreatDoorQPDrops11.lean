/-
wal.Open, over files that a log wrote.
-/
import Derived.Test.YtjnolpfmchnnmaaGreatDoorQPDrops9
import Derived.WalkMore
import Derived.Test.YtjnolpfmchnnmaaGreatDoorQPDrops10
import Derived.Deep.Cut
import Derived.Deep.CutRange
import Derived.Deep.DeepCutAuto
section
namespace Go.Proofs.YtjnolpfmchnnmaaGreatDoor
set_option maxRecDepth 100000
open Go.RowKit Go.BigFrame Go.Sort Go.Shelf Go.Lib
attribute [local go_sem ↓] Go.wp_at_zero Go.wp_at_succ
def SyncOk (pre : Nm) : List Nat → Pk → Prop
  | [], _ => True
  | n :: ns, k => syncE k (nameW pre n) = 0 ∧ 0 ≤ k.done ∧ k.done < 4611686018427387904 ∧ SyncOk pre ns (syncK k (nameW pre n))
def syncAll (pre : Nm) : List Nat → Pk → Pk
  | [], k => k
  | n :: ns, k => syncAll pre ns (syncK k (nameW pre n))
def nextN (ns : List Nat) : Nat := match ns.getLast? with | some n => n + 1 | none => 1
structure SegOk (k : Pk) (pre : Nm) (n : Nat) (rs : List (List UInt8)) : Prop where
  there : readyE k [nameW pre n] = 0
  data : readD k (nameW pre n) = frB rs
  some : rs ≠ []
  each : ∀ p ∈ rs, p.length ≤ 2097152
  few : (frB rs).length ≤ 1099511627776
structure PreOk (pre : Nm) : Prop where
  one : pre ≠ []
  few : pre.length ≤ 8
  low : pre.all lowB = true
theorem OwnRows.pushAll {α : Type} {R : Rd α} {k : Nat} (hR : Fine R k) {base lo : Nat} {w w2 : World} {v v' lv : Value} {xs ls : List α} {css css2 : List (List Value)} {t : TypeId} (hys : All2 (R w (freshL w base v)) xs css) (hls : All2 (R w (freshL w lo lv)) ls css2) (hlo : ∀ j, v.ownBlock = some j → j < lo) (hbase : base ≤ lo)
    (hg : w.grownBy w2 v.ownBlock) (hat : v'.ownBlock = v.ownBlock ∨ v'.ownBlock = some w.heap.size) (hown' : w2.ownsRow base t k v' (xs.length + ls.length) (css.flatten ++ css2.flatten)) : OwnRows R k t w2 base v' (xs ++ ls) := by
  have app : ∀ {l m : List α} {c d : List (List Value)}, All2 (R w2 (freshL w2 base v')) l c → All2 (R w2 (freshL w2 base v')) m d → All2 (R w2 (freshL w2 base v')) (l ++ m) (c ++ d) := fun h1 h2 => by
    induction h1 with
    | nil => exact h2
    | cons h _ ih => exact .cons h ih
  refine ⟨css ++ css2, by rw [List.length_append, List.flatten_append]; exact hown', app (hys.imp fun _ _ hy => hR.keep hy fun A n sz ys hr => ?_) (hls.imp fun _ _ hy => hR.keep hy fun A n sz ys hr => ?_)⟩
  · exact hr.push (row := v) hg hat (fun i _ hs => hs.2.1) (fun i _ hs hn => ⟨hs.1, hn, hs.2.2.grown hg hs.2.1⟩)
  · have hne : ∀ i, lo ≤ i → v.ownBlock ≠ some i := fun i hi e => by have := hlo i e; omega
    exact hr.push (row := v) hg hat (fun i _ hs => hne i hs.1) (fun i _ hs hn => ⟨Nat.le_trans hbase hs.1, hn, hs.2.2.grown hg (hne i hs.1)⟩)
theorem bv_one {w : World} {S : Nat → Prop} {ls : List (List UInt8)} {css : List (List Value)} (h : All2 (bvR w S) ls css) : ∀ u ∈ css.flatten, u.oneCell' = true := by
  induction h with
  | nil => intro u hu; simp at hu
  | cons h _ ih =>
    intro u hu
    rw [List.flatten_cons, List.mem_append] at hu
    rcases hu with hu | hu
    · obtain ⟨v, rfl, hv⟩ := h
      obtain ⟨A, c, rfl⟩ := slice_form hv
      simp at hu
      subst hu
      rfl
    · exact ih u hu
theorem flat_take {α : Type} (l : List (List α)) (i : Nat) : (l.take i).flatten.length ≤ l.flatten.length := by
  conv => rhs; rw [← List.take_append_drop i l]
  rw [List.flatten_append, List.length_append]
  omega
theorem fr.cells3' {W w' : World} {p q r : Addr} {x y z : Value} (h : fr W w') (c0 : W.cell? p = some x) (c1 : W.cell? q = some y) (c2 : W.cell? r = some z) : w'.cell? p = some x ∧ w'.cell? q = some y ∧ w'.cell? r = some z := ⟨h.cell c0, h.cell c1, h.cell c2⟩
theorem fr.putW {W X : World} {pb j : Nat} {u : Value} (h : fr W X) (hp : W.heap.size ≤ pb) : fr W (X.setCell ⟨pb, j, none⟩ u) := RowKit.Below.setCell h hp u
theorem boxNew {X W : World} (h : fr (X.alloc (.cells #[.slice none 0 0] 35)) W) : Boxed W X.heap.size 35 (.slice none 0 0) := boxedFr (Boxed.new X 35 (.slice none 0 0)) h
theorem boxNewD {X W : World} (h : fr ((X.alloc (.cells #[.slice none 0 0] 35)).drew) W) : Boxed W X.heap.size 35 (.slice none 0 0) := boxedFr (boxedFr (Boxed.new X 35 (.slice none 0 0)) (fr_drewN _ 1)) h
theorem Byt.some_of {w : World} {S : Nat → Prop} {A : Option Addr} {n c : Nat} {bs : List UInt8} (h : Byt w S (.slice A n c) bs) (hn : 0 < bs.length) : ∃ b o, A = some ⟨b, o, none⟩ := by
  obtain ⟨A', c', e, _, _, _, hr⟩ := h
  simp only [Value.slice.injEq] at e
  obtain ⟨b, o, e', _⟩ := hr.2 hn
  exact ⟨b, o, by rw [e.1, e']⟩
structure OpB (W : World) (z p : Nat) (P : ByteArray) : Prop where
  b0 : Boxed W z 24 (.pointer (some ⟨p, 0, none⟩))
  b1 : Boxed W (z + 1) 9 (.string P)
  b6 : Boxed W (z + 1 + 1) 30 (.pointer none)
  b7 : Boxed W (z + 1 + 1 + 1) 22 (.slice none 0 0)
  b8 : Boxed W (z + 1 + 1 + 1 + 1) 31 (.int .i64 0)
theorem OpB.only {W W' : World} {z p : Nat} {P : ByteArray} {S : Nat → Prop} (h : OpB W z p P) (ho : Only S W W') (hS : ∀ i, S i → i < z ∨ z + 4 < i) : OpB W' z p P :=
  ⟨boxedOnly h.b0 ho fun h => by have := hS _ h; omega, boxedOnly h.b1 ho fun h => by have := hS _ h; omega, boxedOnly h.b6 ho fun h => by have := hS _ h; omega, boxedOnly h.b7 ho fun h => by have := hS _ h; omega, boxedOnly h.b8 ho fun h => by have := hS _ h; omega⟩
theorem OpB.fr {W W' : World} {z p : Nat} {P : ByteArray} (h : OpB W z p P) (ho : fr W W') : OpB W' z p P := h.only (S := fun _ => False) (Only.of_below ho) fun _ h => h.elim
theorem OpB.new (w : World) (p : Nat) (P : ByteArray) : OpB (((((w.alloc (.cells #[.pointer (some ⟨p, 0, none⟩)] 24)).alloc (.cells #[.string P] 9)).alloc (.cells #[.pointer none] 30)).alloc (.cells #[.slice none 0 0] 22)).alloc (.cells #[.int .i64 0] 31)) w.heap.size p P := by
  have b0 := ((((Boxed.new w 24 (.pointer (some ⟨p, 0, none⟩))).alloc (.cells #[.string P] 9)).alloc (.cells #[.pointer none] 30)).alloc (.cells #[.slice none 0 0] 22)).alloc (.cells #[.int .i64 0] 31)
  have b1 := (((Boxed.new (w.alloc (.cells #[.pointer (some ⟨p, 0, none⟩)] 24)) 9 (.string P)).alloc (.cells #[.pointer none] 30)).alloc (.cells #[.slice none 0 0] 22)).alloc (.cells #[.int .i64 0] 31)
  have b6 := ((Boxed.new ((w.alloc (.cells #[.pointer (some ⟨p, 0, none⟩)] 24)).alloc (.cells #[.string P] 9)) 30 (.pointer none)).alloc (.cells #[.slice none 0 0] 22)).alloc (.cells #[.int .i64 0] 31)
  have b7 := (Boxed.new (((w.alloc (.cells #[.pointer (some ⟨p, 0, none⟩)] 24)).alloc (.cells #[.string P] 9)).alloc (.cells #[.pointer none] 30)) 22 (.slice none 0 0)).alloc (.cells #[.int .i64 0] 31)
  have b8 := Boxed.new ((((w.alloc (.cells #[.pointer (some ⟨p, 0, none⟩)] 24)).alloc (.cells #[.string P] 9)).alloc (.cells #[.pointer none] 30)).alloc (.cells #[.slice none 0 0] 22)) 31 (.int .i64 0)
  simp only [World.size_alloc] at b1 b6 b7 b8
  exact ⟨b0, b1, b6, b7, b8⟩
theorem OpB.made (w : World) (p : Nat) (P : ByteArray) : _root_.Go.Proofs.YtjnolpfmchnnmaaGreatDoor.fr w (((((w.alloc (.cells #[.pointer (some ⟨p, 0, none⟩)] 24)).alloc (.cells #[.string P] 9)).alloc (.cells #[.pointer none] 30)).alloc (.cells #[.slice none 0 0] 22)).alloc (.cells #[.int .i64 0] 31)) :=
  _root_.Go.Proofs.YtjnolpfmchnnmaaGreatDoor.fr.alloc (_root_.Go.Proofs.YtjnolpfmchnnmaaGreatDoor.fr.alloc (_root_.Go.Proofs.YtjnolpfmchnnmaaGreatDoor.fr.alloc (_root_.Go.Proofs.YtjnolpfmchnnmaaGreatDoor.fr.alloc (_root_.Go.Proofs.YtjnolpfmchnnmaaGreatDoor.fr.alloc _root_.Go.Proofs.YtjnolpfmchnnmaaGreatDoor.fr.refl _) _) _) _) _
set_option maxRecDepth 100000 in
set_option maxHeartbeats 4000000 in
theorem wopen_ok (F : Nat → Prop) (p : Nat) (k : Pk) (pre : Nm) (size : Nat) (rss : List (List (List UInt8))) (w : World) (h : DiskP w F p k) (ht : TabW w) (hF : ∀ i, F i → i < w.heap.size ∧ tabG < i) (hw16 : tabG < w.heap.size) (hpre : PreOk pre) (hsz : 1 ≤ size ∧ size ≤ 1048576)
    (hd : 0 ≤ k.done) (hd' : k.done < 4611686018427387904) (hdel : readyE k [pre ++ tmpW] = 22) (hup : readyE k [] = 0) (hl : k.fs.length * 16 ≤ 140737488355328)
    (hnm : ∀ x ∈ listP k, x.length ≤ 140737488355328) (hlen : rss.length = (segsP pre (listP k)).length) (hseg : ∀ (j n : Nat) rs, (segsP pre (listP k))[j]? = some n → rss[j]? = some rs → SegOk k pre n rs)
    (hall : rss.flatten.length * 24 ≤ 140737488355328) (hsync : SyncOk pre (segsP pre (listP k)) k) (hN : nextN (segsP pre (listP k)) ≤ 999999) :
    Calls Tryz.prog 17 #[.pointer (some ⟨p, 0, none⟩), .string ⟨pre.toArray⟩, .int .i64 size] w fun r w' => ∃ L v, r = .returned (.tuple #[.pointer (some ⟨L, 0, none⟩), v, .int .i64 0]) ∧ w.heap.size ≤ L ∧ LogV w' F L p pre size (nextN (segsP pre (listP k))) 0 (syncAll pre (segsP pre (listP k)) k) ∧
      BVs w' (fun i => w.heap.size ≤ i ∧ i < w'.heap.size) v rss.flatten ∧ Only F w w' := by
  obtain ⟨P, hP⟩ : ∃ P : ByteArray, (⟨pre.toArray⟩ : ByteArray) = P := ⟨_, rfl⟩
  have hPs : P.size = pre.length := by rw [← hP]; exact ba_size pre
  have hP0 : P.toList.isEmpty = false := by
    rw [ByteArray.toList_eq, ← hP]
    simpa using hpre.one
  have HCF : Hid (∀ wx, Calls Tryz.prog 60 #[.string P, .func (.func 61) #[] #[]] wx fun r w' => r = .returned (.bool false) ∧ fr wx w') := Lib.hid fun wx => by
    have := Tryz.strings_ContainsFunc 61 #[] (enters_of Tryz.func61 (by kernel_rfl) rfl) badLow P wx (low1 wx)
    rw [← hP, idx_low, hpre.low] at this
    rw [← hP]
    exact this
  obtain ⟨T, hT⟩ : ∃ T : ByteArray, (⟨(pre ++ tmpW).toArray⟩ : ByteArray) = T := ⟨_, rfl⟩
  have hPT : P ++ ⟨#[46, 116, 109, 112]⟩ = T := by
    rw [← hP, ← hT]
    unfold tmpW
    apply ByteArray.ext
    simp
  have HDE : Hid (∀ wx, fr w wx → Calls Tryz.prog 62 #[.pointer (some ⟨p, 0, none⟩), .string T] wx fun r w' => r = .returned (.int .i64 22) ∧ DiskP w' F p k ∧ Only F wx w') := Lib.hid fun wx hx => by
    have := delete_any F p k (pre ++ tmpW) wx (h.below hx) (by have := hpre.few; rw [List.length_append]; show pre.length + 4 ≤ _; omega) hd hd'
    unfold syncE deleteK at this
    rw [if_neg (by rw [hdel]; decide), if_neg (by rw [hdel]; decide), hdel] at this
    rw [← hT]
    exact this
  obtain ⟨ns, hns⟩ : ∃ q, segsP pre (listP k) = q := ⟨_, rfl⟩
  have HSG : Hid (∀ wx, DiskP wx F p k → Calls Tryz.prog 63 #[.pointer (some ⟨p, 0, none⟩), .string P] wx fun r w' => ∃ v, r = .returned (.tuple #[v, .int .i64 0]) ∧ OwnN w' wx.heap.size v ns ∧ fr wx w') := Lib.hid fun wx hx => by
    have := segments_any F p k pre wx hx hl hnm
    rw [hup, if_pos rfl, hns, hP] at this
    exact this
  have hn6 : ∀ n ∈ ns, n < 1000000 := fun n hn => by
    rw [← hns] at hn
    unfold segsP at hn
    obtain ⟨x, _, rfl⟩ := List.mem_map.1 (List.mem_filter.1 hn).1
    exact segNo_lt _ _
  rw [hns] at hlen hseg hsync hN ⊢
  obtain ⟨m, hm⟩ : ∃ m, ns.length = m := ⟨_, rfl⟩
  have HM := Lib.hid hm
  have HN6 := Lib.hid hn6
  have HLEN := Lib.hid hlen
  have HSEG := Lib.hid hseg
  have HSY := Lib.hid hsync
  have HNX := Lib.hid hN
  have HALL := Lib.hid hall
  have HPP := Lib.hid hP
  have HTB := Lib.hid ht
  have HF := Lib.hid hF
  have HPRE := Lib.hid hpre
  have hPs8 : P.size ≤ 8 := by have := hpre.few; omega
  have hP8 : ¬ ((8 : Int) < (P.size : Int)) := by omega
  have hb1 : ¬ ((size : Int) < 1) := by omega
  have hb2 : ¬ ((1048576 : Int) < (size : Int)) := by omega
  rw [hP]
  obtain ⟨i0, hi0, hz0, hz1, hz2⟩ := info_parts infoB
  clear h ht hF hpre hd hd' hdel hup hl hnm hlen hseg hall hsync hN hP hT hns hm hn6 hPs
  go_enter Tryz.func17, Tryz.ntmps17
  go_wp2
  go_step3
  go_upto_region 7 with (go_at_call 60; refine (HCF.out _).mono ?_; rintro r w1 ⟨rfl, f1⟩)
  have hB1 := (OpB.new w p P).fr f1
  have f1w := fr.step (OpB.made w p P) f1
  have c4 := hB1.b1.cell
  obtain ⟨z, hz⟩ : ∃ z, w.heap.size = z := ⟨_, rfl⟩
  have HZ := Lib.hid hz
  rw [hz] at hB1 c4 ⊢
  have HB1 := Lib.hid hB1
  have HF1 := Lib.hid f1w
  have hy1 := hB1.b8.lt
  obtain ⟨y, hy⟩ : ∃ y, w1.heap.size = y := ⟨_, rfl⟩
  have HYV := Lib.hid hy
  have hsum : P.size ≤ 8 := hPs8
  clear hB1 f1 f1w
  go_upto_region 8 with (fail)
  have bT := Boxed.new w1 9 (.string T)
  rw [hy] at bT
  have hA : fr w1 (w1.alloc (.cells #[.string T] 9)) := fr.alloc fr.refl _
  have hB2 := HB1.out.fr hA
  have f2w := fr.step HF1.out hA
  have hsz2 : (w1.alloc (.cells #[.string T] 9)).heap.size = y + 1 := by rw [World.size_alloc, hy]
  generalize w1.alloc (.cells #[.string T] 9) = w2 at bT hB2 f2w hsz2 ⊢
  have d0 := hB2.b0.cell
  have d9 := bT.cell
  have HB2 := Lib.hid hB2
  have HBT := Lib.hid bT
  have HF2 := Lib.hid f2w
  have HS2 := Lib.hid hsz2
  clear hA hB2 bT f2w hsz2 c4 hy
  have hFz : Hid (∀ i, F i → i < z) := Lib.hid fun i hi => by have := (HF.out i hi).1; have := HZ.out; omega
  go_upto_region 11 with (go_at_call 62; refine (HDE.out _ HF2.out).mono ?_; rintro r w3 ⟨rfl, hk3, ho3⟩; have hB3 := HB2.out.only ho3 fun i hi => .inl (hFz.out i hi); have e0 := hB3.b0.cell; have e1 := hB3.b1.cell)
  have HK3 := Lib.hid hk3
  have HB3 := Lib.hid hB3
  have HO3 : Hid (Only F w w3) := Lib.hid (Only.trans (Only.of_below HF2.out) ho3)
  clear d0 d9 hk3 hB3 ho3
  go_wp2_with (go_at_call 63; refine (HSG.out _ HK3.out).mono ?_; rintro r w4 ⟨v4, rfl, hown, f4⟩; unfold OwnN at hown; rw [HM.out] at hown; obtain ⟨An, cn, rfl⟩ := own_form hown)
  have HOWN := Lib.hid hown
  have HF4 := Lib.hid f4
  clear hown f4 e0 e1
  go_step3
  go_wp2
  go_loopw [11, 13, 76] (fun v11 v t wr => ∃ i : Nat, i ≤ m ∧ t = .int .i64 i ∧ v11 = .slice An m cn ∧ OwnRows bvR 1 35 wr w4.heap.size v (rss.take i).flatten ∧ fr w4 wr) (fun _ _ t _ => m - (intOf t).toNat)
  case atStart => exact ⟨0, Nat.zero_le _, rfl, rfl, OwnRows.nil _ _ _, fr.refl⟩
  case round =>
    obtain ⟨i, hi, rfl, rfl, hro, hfr⟩ := hrel
    have HRO := Lib.hid hro
    have HFR := Lib.hid hfr
    clear hro hfr
    by_cases him : i < m
    · obtain ⟨n, hn⟩ : ∃ n, ns[i]? = some n := ⟨_, List.getElem?_eq_getElem (by rw [HM.out]; exact him)⟩
      obtain ⟨rs, hrs⟩ : ∃ rs, rss[i]? = some rs := ⟨_, List.getElem?_eq_getElem (by rw [HLEN.out, HM.out]; exact him)⟩
      obtain ⟨g, cg, hE, _⟩ := own_pos HOWN.out (by omega)
      injection hE with e1 e2 e3
      subst e1 e3
      have hown' : OwnN wr w3.heap.size (.slice (some ⟨g, 0, none⟩) m cn) ns := by
        have := own_below HOWN.out HFR.out
        unfold OwnN
        rw [HM.out]
        exact this
      have hcn := hown'.cell hn
      have hsg := HSEG.out i n rs hn hrs
      have hn6 : n < 1000000 := HN6.out n (List.mem_of_getElem? hn)
      have hBr := HB3.out.fr (fr.step HF4.out HFR.out)
      have hKr := HK3.out.below (fr.step HF4.out HFR.out)
      have HTr : Hid (TabW wr) := Lib.hid (((HTB.out.only HO3.out fun i hi => (HF.out i hi).2).below HF4.out).below HFR.out)
      clear hown' e2
      go_upto_region 18 with (fail)
      have HSG2 := Lib.hid hsg
      obtain ⟨X, hX⟩ : ∃ X : ByteArray, (⟨(nameW pre n).toArray⟩ : ByteArray) = X := ⟨_, rfl⟩
      obtain ⟨q, hq⟩ : ∃ q, (frB rs).length = q := ⟨_, rfl⟩
      have hq0 : 0 < q := by
        rw [← hq]
        have h1 := hsg.some
        cases rs with
        | nil => exact absurd rfl h1
        | cons a l => have := frB_pos a l; omega
      have hA : fr wr (wr.alloc (.cells #[.int .i64 (n : Int)] 3)) := fr.alloc fr.refl _
      have hn15 := Boxed.new wr 3 (.int .i64 (n : Int))
      have hz15 : (wr.alloc (.cells #[.int .i64 (n : Int)] 3)).heap.size = wr.heap.size + 1 := by simp
      obtain ⟨s15, hs15⟩ : ∃ s, wr.heap.size = s := ⟨_, rfl⟩
      rw [hs15] at hn15 hz15 ⊢
      generalize wr.alloc (.cells #[.int .i64 (n : Int)] 3) = w0 at hA hn15 hz15 ⊢
      have b0 := (hBr.fr hA).b0.cell
      have b1 := (hBr.fr hA).b1.cell
      have b15 := hn15.cell
      have HFI : Hid (∀ wx, fr w0 wx → Calls Tryz.prog 65 #[.string P, .int .i64 n] wx fun r w' => r = .returned (.string X) ∧ fr wx w' ∧ fr w0 w') := Lib.hid fun wx hx => by
        have := file_any pre n wx ((HTr.out.below hA).below hx) (by have := HPRE.out.few; omega) hn6
        rw [HPP.out, hX] at this
        exact this.mono fun r w' h => ⟨h.1, h.2, fr.step hx h.2⟩
      have HRD : Hid (∀ wx, fr w0 wx → Calls Tryz.prog 64 #[.pointer (some ⟨p, 0, none⟩), .string X] wx fun r w' => ∃ b o c, r = .returned (.tuple #[.slice (some ⟨b, o, none⟩) q c, .int .i64 0]) ∧ Byt w' (fun i => wx.heap.size ≤ i) (.slice (some ⟨b, o, none⟩) q c) (frB rs) ∧ fr wx w' ∧ fr w0 w') := Lib.hid fun wx hx => by
        have := read_any F p k (nameW pre n) wx ((hKr.below hA).below hx) (nameLe _ (by have := HPRE.out.few; omega))
        rw [HSG2.out.there, if_pos rfl, HSG2.out.data, hX] at this
        refine this.mono fun r w' h => ?_
        obtain ⟨v, rfl, hv, hf⟩ := h
        obtain ⟨A, c, rfl⟩ := slice_form hv
        obtain ⟨b, o, rfl⟩ := Byt.some_of hv (by rw [hq]; exact hq0)
        rw [hq] at hv ⊢
        exact ⟨b, o, c, rfl, Byt.mono (S := fun i => wx.heap.size ≤ i ∧ Loose w' i) hv fun i h => h.1, hf, fr.step hx hf⟩
      have HZ15 := Lib.hid hz15
      have HN15 := Lib.hid hn15
      have HA := Lib.hid hA
      clear hsg hX hBr hKr hcn hn hz15 hn15 hA
      have s0 : w0.heap.size ≤ w0.heap.size := Nat.le_refl _
      go_cut [16, 17] (fun x y wc => ∃ a b o c, x = .pointer (some ⟨a, 0, none⟩) ∧ y = .int .i64 0 ∧ w0.heap.size ≤ a ∧ Boxed wc a 35 (.slice (some ⟨b, o, none⟩) q c) ∧ Byt wc (fun _ => True) (.slice (some ⟨b, o, none⟩) q c) (frB rs) ∧ fr w0 wc)
      case first =>
        go_region_held3 (fun w' => w'.cell? ⟨z, 0, none⟩ = some (.pointer (some ⟨p, 0, none⟩)) ∧ w'.cell? ⟨z + 1, 0, none⟩ = some (.string P) ∧ w'.cell? ⟨s15, 0, none⟩ = some (.int .i64 (n : Int)))
          ((refine fr.cells3' (W := w0) ?_ b0 b1 b15; (focus ((repeat (first | with_reducible assumption | with_reducible exact fr.refl | with_reducible refine fr.alloc ?_ _ | with_reducible refine fr.drew ?_ | with_reducible refine fr.putW ?_ ?_)); (all_goals (first | with_reducible assumption | with_reducible exact Nat.le_refl _)))); done))
          (first
            | (go_split_ands; go_at_call 65; (with_reducible (refine Calls.mono (HFI.out _ ?_) ?_)); (focus ((repeat (first | with_reducible assumption | with_reducible exact fr.refl | with_reducible refine fr.alloc ?_ _ | with_reducible refine fr.drew ?_ | with_reducible refine fr.putW ?_ ?_)); (all_goals (first | with_reducible assumption | with_reducible exact Nat.le_refl _)))); rintro r w2 ⟨rfl, g2, f2⟩; have s2 := Below.size f2; (try ((first | (with_reducible have y2 := boxNewD g2) | (with_reducible have y2 := boxNew g2)); have t2 := y2.frozen; have r2 := y2.cell)))
            | (go_split_ands; go_at_call 64; (with_reducible (refine Calls.mono (HRD.out _ ?_) ?_)); (focus ((repeat (first | with_reducible assumption | with_reducible exact fr.refl | with_reducible refine fr.alloc ?_ _ | with_reducible refine fr.drew ?_ | with_reducible refine fr.putW ?_ ?_)); (all_goals (first | with_reducible assumption | with_reducible exact Nat.le_refl _)))); rintro r w3 ⟨bb, bo, bc, rfl, hb3, g3, f3⟩; have s3 := Below.size f3; (try (with_reducible have y3 := boxNew g3; have t3 := y3.frozen; have r3 := y3.cell)); (try (with_reducible have y3 := boxedFr y2 g3; have t3 := y3.frozen; have r3 := y3.cell))))
        · go_wp2_with fail
          go_meet
          case rel => exact ⟨_, _, _, _, rfl, rfl, s3, Boxed.new w3 _ _, Byt.mono ((Byt.below hb3 (fr.alloc fr.refl _))) fun _ _ => trivial, fr.alloc f3 _⟩
        · go_wp2_with fail
          go_meet
          case rel => exact ⟨_, _, _, _, rfl, rfl, s2, y3.set _, Byt.mono (Byt.only hb3 (only_set w3 _ 0 _) fun i _ hi e => by rw [World.size_alloc] at hi; omega) fun _ _ => trivial, fr.putW f3 s2⟩
        · go_wp2_with fail
          go_meet
          case rel => exact ⟨_, _, _, _, rfl, rfl, s0, y3.set _, Byt.mono (Byt.only hb3 (only_set w3 _ 0 _) fun i _ hi e => by have := y2.lt; omega) fun _ _ => trivial, fr.putW f3 s0⟩
      case rest =>
        obtain ⟨a, b, o, c, rfl, rfl, ha, hbx, hby, hfc⟩ := hcut
        have HAL := Lib.hid (all_ok _ b o q c rs wc hby hq (by rw [← hq]; exact HSG2.out.few) HSG2.out.each)
        have cb := hbx.cell
        have HFC := Lib.hid hfc
        have HFW : Hid (fr w4 wc) := Lib.hid (fr.step (fr.step HFR.out HA.out) hfc)
        obtain ⟨ml, hml⟩ : ∃ ml, rs.length = ml := ⟨_, rfl⟩
        have hml0 : 0 < ml := by
          rw [← hml]
          have h1 := HSG2.out.some
          cases rs with
          | nil => exact absurd rfl h1
          | cons a l => simp
        obtain ⟨na, hna⟩ : ∃ na, (rss.take i).flatten.length = na := ⟨_, rfl⟩
        have htk : rss.take (i + 1) = rss.take i ++ [rs] := take_snoc hrs
        have hnm : (na + ml) * 24 ≤ 140737488355328 := by
          have h1 := flat_take rss (i + 1)
          rw [htk, List.flatten_append, List.flatten_singleton, List.length_append, hna, hml] at h1
          have h2 := HALL.out
          omega
        have r6 : na + ml ≤ maxLen := by unfold maxLen; omega
        have HTK := Lib.hid htk
        have HNA := Lib.hid hna
        have HML := Lib.hid hml
        obtain ⟨cacc, hacc, hacs⟩ := HRO.out
        rw [hna] at hacc
        have HACC := Lib.hid hacc
        have HACS := Lib.hid hacs
        clear hbx hby hfc b0 b1 b15 s0 htk hna hacc hacs ha hml hq
        go_wp2_with (first
          | (go_at_call 66; refine HAL.out.mono ?_; rintro r w6 ⟨vl, gg, rfl, ⟨cl2, hl1, hl2⟩, f6⟩; rw [HML.out] at hl1; obtain ⟨gl, cl, hE2, _⟩ := own_pos hl1 hml0; subst hE2; have r1 := own_below HACC.out (fr.alloc (fr.step (fr.step HA.out HFC.out) f6) (.cells #[.int .i64 gg] 3)); have r2 := own_below hl1 (fr.alloc fr.refl (.cells #[.int .i64 gg] 3)); have r3 := r2.cells rfl; have r4 := bv_one hl2; have r7 := r2.1; have r5 : w4.heap.size ≤ (w6.alloc (.cells #[.int .i64 gg] 3)).heap.size := (by have h1 := Below.size HFW.out; have h2 := Below.size f6; rw [World.size_alloc]; omega))
          | (refine wpList_append_own_at _ rfl _ _ 22 rfl w4.heap.size 35 i0 _ 1 24 Tryz.underlying22 hi0 hz0 hz1 hz2 rfl (by decide) _ _ _ rfl r1 ⟨gl, 0, none⟩ ml cl cl2.flatten rfl r7 r3 r4 r6 hnm r5 ?_; intro v' w7 hown' hgrow _ hat; obtain ⟨A7, c7, rfl⟩ := own_form hown'))
        have hbW : fr wr (w6.alloc (.cells #[.int .i64 gg] 3)) := fr.alloc (fr.step (fr.step HA.out HFC.out) f6) _
        have hb6 : fr w6 (w6.alloc (.cells #[.int .i64 gg] 3)) := fr.alloc fr.refl _
        have hsz6 := Below.size (fr.step HA.out HFC.out)
        have hpush := OwnRows.pushAll bvFine (base := w4.heap.size) (lo := wc.heap.size) (xs := (rss.take i).flatten) (ls := rs) (w := w6.alloc (.cells #[.int .i64 gg] 3)) (w2 := w7) (v' := .slice A7 (na + ml) c7) (css := cacc) (css2 := cl2) (t := 35)
          (HACS.out.imp fun _ _ hx => bvFine.keep hx fun _ _ _ _ hr => (hr.below hbW).mono fun i hi => ⟨hi.1, hi.2.1, hi.2.2.below hbW⟩)
          (hl2.imp fun _ _ hx => bvFine.keep hx fun _ _ _ _ hr => (hr.below hb6).mono fun i hi => ⟨hi.1, hi.2.1, hi.2.2.below hb6⟩)
          (fun j e => by have := (HACC.out.lt j e).2; omega) (Below.size HFW.out) hgrow hat (by rw [HNA.out, HML.out]; exact hown')
        refine ⟨⟨i + 1, by omega, by go_num, rfl, ?_, Below.grown (fr.alloc (fr.step HFW.out f6) _) hgrow (by have := r5; omega) fun j e => (HACC.out.lt j e).1⟩, by simp [intOf]; omega⟩
        rw [HTK.out, List.flatten_append, List.flatten_singleton]
        exact hpush
    · obtain rfl : i = m := by omega
      obtain ⟨wa, hwa⟩ : ∃ x, x = wr := ⟨_, rfl⟩
      subst hwa
      have hBr := HB3.out.fr (fr.step HF4.out HFR.out)
      have hKr := HK3.out.below (fr.step HF4.out HFR.out)
      have c0 := hBr.b0.cell
      have c1 := hBr.b1.cell
      have HBR := Lib.hid hBr
      have HKR := Lib.hid hKr
      have HALLR : Hid (OwnRows bvR 1 35 wa w4.heap.size u13 rss.flatten) := Lib.hid (by have := HRO.out; rwa [List.take_of_length_le (by rw [HLEN.out, HM.out]; exact Nat.le_refl _)] at this)
      have HTr : Hid (TabW wa) := Lib.hid (((HTB.out.only HO3.out fun i hi => (HF.out i hi).2).below HF4.out).below HFR.out)
      have HWR := Lib.hid (Below.size (fr.step HF4.out HFR.out))
      obtain ⟨cfin, hfin, hfis⟩ := HALLR.out
      obtain ⟨A13, c13, rfl⟩ := own_form hfin
      have HRW : Hid (BVs wa (fun i => w4.heap.size ≤ i ∧ i < wa.heap.size) (.slice A13 rss.flatten.length c13) rss.flatten) := Lib.hid (OwnRows.rows bvFine HALLR.out HALL.out)
      obtain ⟨nf, hnf⟩ : ∃ q, rss.flatten.length = q := ⟨_, rfl⟩
      rw [hnf] at HRW
      have HNF := Lib.hid hnf
      rw [hnf]
      clear hBr hKr HRO HALLR hfin hfis hnf
      go_upto_region 39 with (fail)
      have hLr : (wa.alloc (.cells #[.pointer (some ⟨p, 0, none⟩), .string P, .int .i64 size, .int .i64 1, .int .i64 0] 134)).heap[wa.heap.size]? = some (.cells #[.pointer (some ⟨p, 0, none⟩), .string P, .int .i64 size, .int .i64 1, .int .i64 0] 134 (0, 0)) := heap_alloc_new wa _
      have hA5 : fr wa (wa.alloc (.cells #[.pointer (some ⟨p, 0, none⟩), .string P, .int .i64 size, .int .i64 1, .int .i64 0] 134)) := fr.alloc fr.refl _
      obtain ⟨L, hLe⟩ : ∃ L, wa.heap.size = L := ⟨_, rfl⟩
      rw [hLe] at hLr ⊢
      generalize wa.alloc (.cells #[.pointer (some ⟨p, 0, none⟩), .string P, .int .i64 size, .int .i64 1, .int .i64 0] 134) = w5 at hLr hA5 ⊢
      have HLE := Lib.hid hLe
      have HA5 := Lib.hid hA5
      have hz3 : z + 4 < w3.heap.size := HB3.out.b8.lt
      have hz4 : w3.heap.size ≤ w4.heap.size := Below.size HF4.out
      have hzr : w4.heap.size ≤ L := by rw [← hLe]; exact Below.size HFR.out
      have hzL : z + 4 < L := by omega
      have HL5 : Hid (LogV w5 F L p pre size 1 0 k) := Lib.hid ⟨HKR.out.below HA5.out, fun hf => by have h1 := hFz.out L hf; have := HWR.out; omega, by rw [HPP.out]; exact hLr⟩
      clear hLr hA5 hLe c0 c1
      go_wp2
      go_loopw [145] (fun t wx => ∃ (j : Nat) (kk : Pk), j ≤ i ∧ t = .int .i64 j ∧ SyncOk pre (ns.drop j) kk ∧ syncAll pre (ns.drop j) kk = syncAll pre ns k ∧ LogV wx F L p pre size (nextN (ns.take j)) 0 kk ∧ Only (fun i => F i ∨ i = L) w5 wx) (fun t _ => i - (intOf t).toNat)
      case atStart => exact ⟨0, k, Nat.zero_le _, rfl, HSY.out, rfl, HL5.out, Only.refl _ _⟩
      case round =>
        obtain ⟨jj, kk, hj, rfl, hok, hdk, hlv, ho⟩ := hrel
        have HDK := Lib.hid hdk
        have HLV := Lib.hid hlv
        have HO := Lib.hid ho
        have hS : ∀ t, F t ∨ t = L → t < z ∨ z + 4 < t := fun t h => h.elim (fun h => .inl (hFz.out t h)) fun h => .inr (by omega)
        have hBx := (HBR.out.fr HA5.out).only HO.out hS
        have hlz := HLV.out.lt
        by_cases hjm : jj < i
        · obtain ⟨n, hn⟩ : ∃ n, ns[jj]? = some n := ⟨_, List.getElem?_eq_getElem (by rw [HM.out]; exact hjm)⟩
          have hownx := own_only (own_below (own_below HOWN.out HFR.out) HA5.out) HO.out fun g' hg' hf => by
            have h1 := HOWN.out.lt g' hg'
            rcases hf with hf | hf
            · have h2 := hFz.out g' hf; omega
            · omega
          obtain ⟨g, cg, hE, _⟩ := own_pos hownx (by omega)
          injection hE with e1 e2 e3
          subst e1 e3
          have hown' : OwnN wr w3.heap.size (.slice (some ⟨g, 0, none⟩) i cn) ns := by
            unfold OwnN
            rw [HM.out]
            exact hownx
          have hcn := hown'.cell hn
          have hdr : ns.drop jj = n :: ns.drop (jj + 1) := by rw [List.drop_eq_getElem_cons (by rw [HM.out]; exact hjm)]; rw [List.getElem?_eq_getElem (by rw [HM.out]; exact hjm)] at hn; injection hn with hn; rw [hn]
          rw [hdr] at hok HDK
          obtain ⟨he, hd1, hd2, hok⟩ := hok
          rw [show syncAll pre (n :: ns.drop (jj + 1)) kk = syncAll pre (ns.drop (jj + 1)) (syncK kk (nameW pre n)) from rfl] at HDK
          have hn6 : n < 1000000 := HN6.out n (List.mem_of_getElem? hn)
          have hnx : nextN (ns.take (jj + 1)) = n + 1 := by
            rw [take_snoc hn]
            unfold nextN
            simp
          have HNXT := Lib.hid hnx
          have HOK2 := Lib.hid hok
          have c0 := hBx.b0.cell
          have c1 := hBx.b1.cell
          obtain ⟨X, hX⟩ : ∃ X : ByteArray, (⟨(nameW pre n).toArray⟩ : ByteArray) = X := ⟨_, rfl⟩
          have HFI : Hid (∀ wx, fr wr wx → Calls Tryz.prog 65 #[.string P, .int .i64 n] wx fun r w' => r = .returned (.string X) ∧ Below wx.heap.size wx w') := Lib.hid fun wx hx => by
            rw [← hX, ← HPP.out]
            exact file_any pre _ wx ((((HTr.out.below HA5.out).only HO.out fun t h => h.elim (fun h => (HF.out t h).2) fun h => by have := hw16; have := HZ.out; omega)).below hx) (by have := HPRE.out.few; omega) hn6
          have HSN : Hid (∀ wx, fr wr wx → Calls Tryz.prog 70 #[.pointer (some ⟨p, 0, none⟩), .string X] wx fun r w' => r = .returned (.int .i64 0) ∧ LogV w' F L p pre size (nextN (ns.take jj)) 0 (syncK kk (nameW pre n)) ∧ Only F wx w') := Lib.hid fun wx hx => by
            have := sync_any F p kk (nameW pre n) wx (HLV.out.dk.below hx) (nameLe _ (by have := HPRE.out.few; omega)) hd1 hd2
            rw [he] at this
            rw [← hX]
            refine this.mono fun r w' h => ?_
            obtain ⟨h1, h2, h3⟩ := h
            have hl := HLV.out.below hx
            exact ⟨h1, ⟨h2, hl.out, (h3.block L hl.lt hl.out).trans hl.row⟩, h3⟩
          clear hownx hown' hn e2 hdr he hd1 hd2 hok hnx hX hlv ho hdk hBx
          go_upto_region 42 with (fail)
          have q0 := fun q : Ext wr => q.cell c0
          have q1 := fun q : Ext wr => q.cell c1
          (refine wp_region_ext_tail 4 (by kernel_rfl) (by kernel_rfl) ?_; simp only [List.take_succ_cons, List.take_zero, List.drop_succ_cons, List.drop_zero]; (repeat (go_big_quiet_step ((go_at_call 65; exact Ext.calls (HFI.out _ (Ext.h _)))))); refine wpQuiet_nil ?_; intro wq hw'; obtain ⟨⟨_, hq⟩, hw''⟩ := hw'; subst hw'')
          clear q0 q1
          go_wp2_with (go_at_call 70; refine (HSN.out _ hq).mono ?_; rintro r w8 ⟨rfl, hl8, ho8⟩; have z8 := hl8.frozen 3; have d8 := hl8.cells.2.2.2.1)
          refine ⟨⟨jj + 1, _, by omega, rfl, HOK2.out, HDK.out, ?_, ?_⟩, by simp [intOf]; omega⟩
          · rw [HNXT.out]
            exact hl8.set3 (N' := n + 1) rfl
          · exact Only.trans (Only.trans (Only.trans HO.out (Only.of_below hq)) (Only.mono ho8 fun _ h => .inl h)) (Only.mono (only_set w8 L 3 _) fun _ h => .inr h)
        · obtain rfl : jj = i := by omega
          have hdr : ns.drop jj = [] := List.drop_eq_nil_of_le (by rw [HM.out]; exact Nat.le_refl _)
          have htk : ns.take jj = ns := List.take_of_length_le (by rw [HM.out]; exact Nat.le_refl _)
          rw [hdr] at HDK
          rw [htk] at HLV
          have hkk : kk = syncAll pre ns k := HDK.out
          subst hkk
          have c3 := HLV.out.cells.2.2.2.1
          obtain ⟨nn, hnn⟩ : ∃ q, nextN ns = q := ⟨_, rfl⟩
          rw [hnn] at HLV HNX c3
          have HNN := Lib.hid hnn
          have hnl : ¬ ((999999 : Int) < (nn : Int)) := by have := HNX.out; omega
          have HBX := Lib.hid hBx
          have t6 := hBx.b6.frozen
          have t7 := hBx.b7.frozen
          have t8 := hBx.b8.frozen
          have r6 := hBx.b6.cell
          have r7 := hBx.b7.cell
          have r8 := hBx.b8.cell
          have l6 := hBx.b6.lt
          have l7 := hBx.b7.lt
          have l8 := hBx.b8.lt
          clear hdr htk hok hlv ho hdk hBx hnn hj hjm
          go_wp2_with (fail)
          have g6 := ((HBX.out.b6.set (.pointer (some ⟨L, 0, none⟩))).other (by omega : z + 1 + 1 ≠ z + 1 + 1 + 1) (.slice A13 nf c13)).other (by omega : z + 1 + 1 ≠ z + 1 + 1 + 1 + 1) (.int .i64 0)
          have g7 := ((HBX.out.b7.other (by omega : z + 1 + 1 + 1 ≠ z + 1 + 1) (.pointer (some ⟨L, 0, none⟩))).set (.slice A13 nf c13)).other (by omega : z + 1 + 1 + 1 ≠ z + 1 + 1 + 1 + 1) (.int .i64 0)
          have g8 := ((HBX.out.b8.other (by omega : z + 1 + 1 + 1 + 1 ≠ z + 1 + 1) (.pointer (some ⟨L, 0, none⟩))).other (by omega : z + 1 + 1 + 1 + 1 ≠ z + 1 + 1 + 1) (.slice A13 nf c13)).set (.int .i64 0)
          have ho3 : Only (fun i => z ≤ i ∧ i ≤ z + 4) wr (((wr.setCell ⟨z + 1 + 1, 0, none⟩ (.pointer (some ⟨L, 0, none⟩))).setCell ⟨z + 1 + 1 + 1, 0, none⟩ (.slice A13 nf c13)).setCell ⟨z + 1 + 1 + 1 + 1, 0, none⟩ (.int .i64 0)) :=
            Only.trans (Only.trans (Only.mono (only_set _ _ _ _) fun i h => by omega) (Only.mono (only_set _ _ _ _) fun i h => by omega)) (Only.mono (only_set _ _ _ _) fun i h => by omega)
          generalize (((wr.setCell ⟨z + 1 + 1, 0, none⟩ (.pointer (some ⟨L, 0, none⟩))).setCell ⟨z + 1 + 1 + 1, 0, none⟩ (.slice A13 nf c13)).setCell ⟨z + 1 + 1 + 1 + 1, 0, none⟩ (.int .i64 0)) = wf at g6 g7 g8 ho3 ⊢
          have q6 := g6.cell
          have q7 := g7.cell
          have q8 := g8.cell
          clear r6 r7 r8 t6 t7 t8 c3
          refine bodyPost_ret (v := .tuple #[.pointer (some ⟨L, 0, none⟩), .slice A13 nf c13, .int .i64 0]) (by simp [results, Tryz.results17, go_sem, q6, q7, q8]) rfl ?_
          have hzw := HZ.out
          have hle := HLE.out
          refine ⟨L, _, rfl, by omega, ?_, ?_, ?_⟩
          · rw [HNN.out]
            have hl := HLV.out
            exact ⟨hl.dk.only ho3 fun i hi hf => by have := hFz.out i hf; omega, hl.out, (ho3.block L hl.lt (by omega)).trans hl.row⟩
          · have h1 := Rows.below bvFine HRW.out HA5.out
            have h2 := Rows.only bvFine h1 HO.out fun i hi hf => by
              rcases hf with hf | hf
              · have := hFz.out i hf; omega
              · omega
            have h3 := Rows.only bvFine h2 ho3 fun i hi hf => by omega
            have s1 := Below.size HA5.out
            have s2 := HO.out.size
            have s3 := ho3.size
            exact Rows.mono bvFine h3 fun i hi => by omega
          · refine Only.later HO3.out ?_
            exact Only.trans (Only.of_below (fr.step (fr.step HF4.out HFR.out) HA5.out)) (Only.trans (Only.mono HO.out fun i h => h.elim .inl fun h => .inr (by omega)) (Only.mono ho3 fun i h => .inr (by omega)))
end Go.Proofs.YtjnolpfmchnnmaaGreatDoor
end
