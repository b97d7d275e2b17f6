/-
The log's calls on a calm disk.
-/
import Derived.Test.YtjnolpfmchnnmaaGreatDoorQPDrops5
import Derived.Test.YtjnolpfmchnnmaaGreatDoorQPDrops11
section
namespace Go.Proofs.YtjnolpfmchnnmaaGreatDoor
set_option maxRecDepth 100000
open Go.RowKit Go.BigFrame Go.Sort Go.Shelf Go.Lib
theorem sorted_same {l m : List Nat} (hl : l.Pairwise (· < ·)) (hm : m.Pairwise (· < ·)) (h : ∀ n, n ∈ l ↔ n ∈ m) : l = m := by
  induction l generalizing m with
  | nil =>
    cases m with
    | nil => rfl
    | cons a m => exact absurd ((h a).2 List.mem_cons_self) (by simp)
  | cons a l ih =>
    cases m with
    | nil => exact absurd ((h a).1 List.mem_cons_self) (by simp)
    | cons b m =>
      have h1 := List.pairwise_cons.1 hl
      have h2 := List.pairwise_cons.1 hm
      have e : a = b := by
        rcases List.mem_cons.1 ((h a).1 List.mem_cons_self) with e | e
        · exact e
        · rcases List.mem_cons.1 ((h b).2 List.mem_cons_self) with e' | e'
          · exact e'.symm
          · have := h2.1 a e; have := h1.1 b e'; omega
      subst e
      rw [ih h1.2 h2.2 fun n => ⟨fun hn => ?_, fun hn => ?_⟩]
      · rcases List.mem_cons.1 ((h n).1 (List.mem_cons_of_mem _ hn)) with e | e
        · have := h1.1 n hn; omega
        · exact e
      · rcases List.mem_cons.1 ((h n).2 (List.mem_cons_of_mem _ hn)) with e | e
        · have := h2.1 n hn; omega
        · exact e
theorem dg_lt {m n j : Nat} (h : m / 10 ^ j % 10 < n / 10 ^ j % 10) : dg m j < dg n j := by
  rw [UInt8.lt_iff_toNat_lt, dg_toNat, dg_toNat]
  omega
theorem dg_eq {m n j : Nat} (h : m / 10 ^ j % 10 = n / 10 ^ j % 10) : dg m j = dg n j := by
  unfold dg
  rw [h]
theorem dig6_lt {m n : Nat} (h : m < n) (hn : n < 1000000) (s : Nm) : dig6 m ++ s < dig6 n ++ s := by
  unfold dig6
  have key : ∀ j, j < 6 → m / 10 ^ j % 10 < n / 10 ^ j % 10 ∨ m / 10 ^ j % 10 = n / 10 ^ j % 10 ∨ n / 10 ^ j % 10 < m / 10 ^ j % 10 := fun j _ => by omega
  have step : ∀ (j : Nat) (s t : Nm), (m / 10 ^ j % 10 < n / 10 ^ j % 10 ∨ (m / 10 ^ j % 10 = n / 10 ^ j % 10 ∧ s < t)) → dg m j :: s < dg n j :: t := fun j s t h => by
    rw [List.cons_lt_cons_iff]
    rcases h with h | ⟨h, h'⟩
    · exact .inl (dg_lt h)
    · exact .inr ⟨dg_eq h, h'⟩
  simp only [List.cons_append, List.nil_append]
  by_cases h5 : m / 10 ^ 5 % 10 = n / 10 ^ 5 % 10
  · refine step 5 _ _ (.inr ⟨h5, ?_⟩)
    by_cases h4 : m / 10 ^ 4 % 10 = n / 10 ^ 4 % 10
    · refine step 4 _ _ (.inr ⟨h4, ?_⟩)
      by_cases h3 : m / 10 ^ 3 % 10 = n / 10 ^ 3 % 10
      · refine step 3 _ _ (.inr ⟨h3, ?_⟩)
        by_cases h2 : m / 10 ^ 2 % 10 = n / 10 ^ 2 % 10
        · refine step 2 _ _ (.inr ⟨h2, ?_⟩)
          by_cases h1 : m / 10 ^ 1 % 10 = n / 10 ^ 1 % 10
          · refine step 1 _ _ (.inr ⟨h1, ?_⟩)
            refine step 0 _ _ (.inl ?_)
            simp only [Nat.reducePow] at *; omega
          · refine step 1 _ _ (.inl ?_)
            simp only [Nat.reducePow] at *; omega
        · refine step 2 _ _ (.inl ?_)
          simp only [Nat.reducePow] at *; omega
      · refine step 3 _ _ (.inl ?_)
        simp only [Nat.reducePow] at *; omega
    · refine step 4 _ _ (.inl ?_)
      simp only [Nat.reducePow] at *; omega
  · refine step 5 _ _ (.inl ?_)
    simp only [Nat.reducePow] at *; omega
theorem pre_lt {s t : Nm} (h : s < t) (pre : Nm) : pre ++ s < pre ++ t := by
  induction pre with
  | nil => exact h
  | cons a l ih => rw [List.cons_append, List.cons_append, List.cons_lt_cons_iff]; exact .inr ⟨rfl, ih⟩
theorem nameW_lt (pre : Nm) {m n : Nat} (h : m < n) (hn : n < 1000000) : nameW pre m < nameW pre n := by
  unfold nameW
  rw [List.append_assoc, List.append_assoc]
  exact pre_lt (dig6_lt h hn sufW) pre
theorem nameW_inj (pre : Nm) {m n : Nat} (hm : m < 1000000) (hn : n < 1000000) (h : nameW pre m = nameW pre n) : m = n := by
  have := congrArg (segNo pre) h
  rwa [seg_nameW pre hm, seg_nameW pre hn] at this
theorem dec_inv {z : Nm} (h6 : z.length = 6) (hd : z.all digB = true) : z = dig6 ((Lib.decNat z).getD 0) := by
  match z, h6 with
  | [a, b, c, d, e, f], _ =>
    simp only [List.all_cons, List.all_nil, Bool.and_true, Bool.and_eq_true] at hd
    have hv : ∀ x : UInt8, digB x = true → Lib.digitVal x = some (x.toNat - 48) ∧ x.toNat - 48 ≤ 9 ∧ 48 ≤ x.toNat := fun x h => by
      have : 48 ≤ x.toNat ∧ x.toNat ≤ 57 := by simpa [digB] using h
      exact ⟨by unfold Lib.digitVal; rw [if_pos this], by omega, this.1⟩
    obtain ⟨ha, hb, hc, hd, he, hf⟩ := hd
    obtain ⟨ha, la, ma⟩ := hv a ha
    obtain ⟨hb, lb, mb⟩ := hv b hb
    obtain ⟨hc, lc, mc⟩ := hv c hc
    obtain ⟨hd, ld, md⟩ := hv d hd
    obtain ⟨he, le, me⟩ := hv e he
    obtain ⟨hf, lf, mf⟩ := hv f hf
    unfold Lib.decNat
    simp only [List.isEmpty_cons, Bool.false_eq_true, if_false, Lib.decFrom, ha, hb, hc, hd, he, hf, Option.getD_some]
    unfold dig6
    have key : ∀ (x : UInt8) (n j : Nat), 48 ≤ x.toNat → n / 10 ^ j % 10 = x.toNat - 48 → x = dg n j := fun x n j h1 h2 => by
      apply UInt8.toNat_inj.1
      rw [dg_toNat, h2]
      omega
    simp only [List.cons.injEq, and_true]
    refine ⟨key _ _ _ ma ?_, key _ _ _ mb ?_, key _ _ _ mc ?_, key _ _ _ md ?_, key _ _ _ me ?_, key _ _ _ mf ?_⟩ <;> (simp only [Nat.reducePow]; omega)
theorem segNo_name {pre x : Nm} (h : 0 < segNo pre x) : x = nameW pre (segNo pre x) := by
  unfold segNo at h ⊢
  split at h
  · rename_i h1
    split at h
    · rename_i h2
      split at h
      · rename_i h3
        split at h
        · rename_i h4
          rw [if_pos h1, if_pos h2, if_pos h3, if_pos h4]
          obtain ⟨t, rfl⟩ := List.isPrefixOf_iff_prefix.1 h1
          rw [List.drop_left] at h2 h3 h4 ⊢
          obtain ⟨u, rfl⟩ := List.isSuffixOf_iff_suffix.1 h2
          have hu : u.length = 6 := by rw [List.length_append] at h3; have : sufW.length = 4 := rfl; omega
          have hu6 : (u ++ sufW).take 6 = u := by rw [← hu, List.take_left]
          rw [hu6] at h4 ⊢
          unfold nameW
          rw [← dec_inv hu h4, List.append_assoc]
        · omega
      · omega
    · omega
  · omega
section
variable {k : Pk} {dn : Nat} {pre : Nm}
theorem segsP_sorted (h : CalmK k dn) : (segsP pre (listP k)).Pairwise (· < ·) := by
  have hs := h.listSorted
  unfold segsP
  rw [List.pairwise_filter, List.pairwise_map]
  refine hs.imp fun {a b} hab ha hb => ?_
  have ha : 0 < segNo pre a := by simpa using ha
  have hb : 0 < segNo pre b := by simpa using hb
  rcases Nat.lt_trichotomy (segNo pre a) (segNo pre b) with h | h | h
  · exact h
  · rw [segNo_name ha, segNo_name hb, h] at hab
    exact absurd hab (List.lt_irrefl _)
  · have := nameW_lt pre h (segNo_lt pre a)
    rw [← segNo_name ha, ← segNo_name hb] at this
    exact absurd (List.lt_trans hab this) (List.lt_irrefl _)
theorem segsP_mem (h : CalmK k dn) {n : Nat} : n ∈ segsP pre (listP k) ↔ 0 < n ∧ n < 1000000 ∧ (fileD k (nameW pre n)).isSome = true := by
  unfold segsP
  rw [List.mem_filter, List.mem_map]
  constructor
  · rintro ⟨⟨x, hx, rfl⟩, hn⟩
    have hn : 0 < segNo pre x := by simpa using hn
    exact ⟨hn, segNo_lt _ _, by rw [← segNo_name hn]; exact h.mem_list.1 hx⟩
  · rintro ⟨h1, h2, h3⟩
    exact ⟨⟨nameW pre n, h.mem_list.2 h3, seg_nameW pre h2⟩, by simpa using h1⟩
structure LogD (pre : Nm) (D : Nm → Option (List UInt8)) (ns : List Nat) (R : Nat → List (List UInt8)) : Prop where
  srt : ns.Pairwise (· < ·)
  pos : ∀ n ∈ ns, 0 < n ∧ n < 1000000
  files : ∀ n, 0 < n → n < 1000000 → D (nameW pre n) = if n ∈ ns then some (frB (R n)) else none
theorem LogD.segs {ns : List Nat} {R : Nat → List (List UInt8)} (hl : LogD pre (fileD k) ns R) (h : CalmK k dn) : segsP pre (listP k) = ns := by
  refine sorted_same (segsP_sorted h) hl.srt fun n => ?_
  rw [segsP_mem h]
  constructor
  · rintro ⟨h1, h2, h3⟩
    rw [hl.files n h1 h2] at h3
    split at h3
    · assumption
    · cases h3
  · intro hn
    obtain ⟨h1, h2⟩ := hl.pos n hn
    refine ⟨h1, h2, ?_⟩
    rw [hl.files n h1 h2, if_pos hn]
    rfl
theorem LogD.at_ {D : Nm → Option (List UInt8)} {ns : List Nat} {R : Nat → List (List UInt8)} (hl : LogD pre D ns R) {n : Nat} (hn : n ∈ ns) : D (nameW pre n) = some (frB (R n)) := by
  obtain ⟨h1, h2⟩ := hl.pos n hn
  rw [hl.files n h1 h2, if_pos hn]
theorem nameB_nameW (hp : PreOk pre) (n : Nat) : nameB (nameW pre n) = true := by
  unfold nameB nameW
  have h1 := hp.one
  have h2 := hp.few
  have h3 : pre.all okByte = true := List.all_eq_true.2 fun b hb => by
    have := List.all_eq_true.1 hp.low b hb
    unfold okByte
    rw [show (decide (97 ≤ b.toNat) && decide (b.toNat ≤ 122)) = true from this]
    rfl
  have h4 : (dig6 n).all okByte = true := List.all_eq_true.2 fun b hb => by
    have := List.all_eq_true.1 (dig6_ok n) b hb
    unfold okByte
    rw [show (decide (48 ≤ b.toNat) && decide (b.toNat ≤ 57)) = true from this]
    simp
  have h5 : sufW.all okByte = true := by decide
  have h6 : (dig6 n).length = 6 := rfl
  have h7 : sufW.length = 4 := rfl
  rw [List.all_append, List.all_append, h3, h4, h5, List.length_append, List.length_append, h6, h7]
  cases pre with
  | nil => exact absurd rfl h1
  | cons a l => simp only [List.cons_append, List.isEmpty_cons, Bool.not_false, Bool.true_and, Bool.and_true, decide_eq_true_eq]; omega
theorem nameB_tmp (hp : PreOk pre) : nameB (pre ++ tmpW) = true := by
  unfold nameB
  have h1 := hp.one
  have h2 := hp.few
  have h3 : pre.all okByte = true := List.all_eq_true.2 fun b hb => by
    have := List.all_eq_true.1 hp.low b hb
    unfold okByte
    rw [show (decide (97 ≤ b.toNat) && decide (b.toNat ≤ 122)) = true from this]
    rfl
  have h5 : tmpW.all okByte = true := by decide
  have h7 : tmpW.length = 4 := rfl
  rw [List.all_append, h3, h5, List.length_append, h7]
  cases pre with
  | nil => exact absurd rfl h1
  | cons a l => simp only [List.cons_append, List.isEmpty_cons, Bool.not_false, Bool.true_and, Bool.and_true, decide_eq_true_eq]; omega
theorem sync_calm (hp : PreOk pre) {ns : List Nat} (hn : ∀ n ∈ ns, (fileD k (nameW pre n)).isSome = true) (h : CalmK k dn) (hd : dn + ns.length < 4611686018427387904) : SyncOk pre ns k ∧ CalmK (syncAll pre ns k) (dn + ns.length) ∧ fileD (syncAll pre ns k) = fileD k := by
  induction ns generalizing k dn with
  | nil => exact ⟨trivial, h, rfl⟩
  | cons n ns ih =>
    have hi := hn n List.mem_cons_self
    obtain ⟨c, hc⟩ := Option.isSome_iff_exists.1 hi
    obtain ⟨s1, s2, s3⟩ := h.sync (nameB_nameW hp n) hc
    rw [List.length_cons] at hd ⊢
    obtain ⟨i1, i2, i3⟩ := ih (k := syncK k (nameW pre n)) (dn := dn + 1) (fun m hm => by rw [s3]; exact hn m (List.mem_cons_of_mem _ hm)) s2 (by omega)
    exact ⟨⟨s1, h.d0, by have := h.d1; omega, i1⟩, by rw [show dn + (ns.length + 1) = dn + 1 + ns.length from by omega]; exact i2, i3.trans s3⟩
def goneW (below : Int) (N n : Nat) : Bool := decide ((n : Int) < below) && decide (n ≠ N)
theorem drop_calm (hp : PreOk pre) {ns : List Nat} (N : Nat) (below : Int) (hs : ns.Pairwise (· < ·)) (h6 : ∀ n ∈ ns, n < 1000000) (hn : ∀ n ∈ ns, (fileD k (nameW pre n)).isSome = true) (h : CalmK k dn) (hd : dn + ns.length < 4611686018427387904) :
    DropOk pre N below ns k ∧ CalmK (dropK pre N below ns k) (dn + ns.length) ∧ ∀ x, fileD (dropK pre N below ns k) x = if (ns.any fun n => goneW below N n && decide (x = nameW pre n)) = true then none else fileD k x := by
  induction ns generalizing k dn with
  | nil => exact ⟨trivial, h, fun x => rfl⟩
  | cons n ns ih =>
    have hs' := List.pairwise_cons.1 hs
    rw [List.length_cons] at hd ⊢
    by_cases hg : below ≤ (n : Int) ∨ n = N
    · obtain ⟨i1, i2, i3⟩ := ih hs'.2 (fun m hm => h6 m (List.mem_cons_of_mem _ hm)) (fun m hm => hn m (List.mem_cons_of_mem _ hm)) h (by omega)
      unfold DropOk dropK
      rw [if_pos hg, if_pos hg]
      refine ⟨i1, i2.mono (by omega), fun x => ?_⟩
      rw [i3, List.any_cons]
      have : goneW below N n = false := by
        unfold goneW
        rcases hg with hg | hg
        · rw [decide_eq_false (by omega)]; rfl
        · rw [decide_eq_false (p := n ≠ N) (fun h => h hg)]; simp
      rw [this]
      rfl
    · obtain ⟨c, hc⟩ := Option.isSome_iff_exists.1 (hn n List.mem_cons_self)
      obtain ⟨s1, s2, s3⟩ := h.delete (nameB_nameW hp n) hc
      obtain ⟨i1, i2, i3⟩ := ih (k := deleteK k (nameW pre n)) (dn := dn + 1) hs'.2 (fun m hm => h6 m (List.mem_cons_of_mem _ hm)) (fun m hm => by
        rw [s3, delD_ne _ fun e => ?_]
        · exact hn m (List.mem_cons_of_mem _ hm)
        · have := nameW_inj pre (h6 m (List.mem_cons_of_mem _ hm)) (h6 n List.mem_cons_self) e
          have := hs'.1 m hm
          omega) s2 (by omega)
      unfold DropOk dropK
      rw [if_neg hg, if_neg hg]
      refine ⟨⟨s1, h.d0, by have := h.d1; omega, i1⟩, by rw [show dn + (ns.length + 1) = dn + 1 + ns.length from by omega]; exact i2, fun x => ?_⟩
      rw [i3, List.any_cons, s3]
      have hg' : goneW below N n = true := by
        unfold goneW
        rw [decide_eq_true (by omega), decide_eq_true (by intro e; exact hg (.inr e))]
        rfl
      rw [hg', Bool.true_and]
      unfold delD
      by_cases hx : x = nameW pre n
      · rw [if_pos hx, decide_eq_true hx, Bool.true_or, if_pos rfl]
        split <;> rfl
      · rw [if_neg hx, decide_eq_false hx, Bool.false_or]
end
end Go.Proofs.YtjnolpfmchnnmaaGreatDoor
end
section
namespace Go.Proofs.YtjnolpfmchnnmaaGreatDoor
set_option maxRecDepth 100000
open Go.RowKit Go.BigFrame Go.Sort Go.Shelf Go.Lib
structure LogS (pre : Nm) (D : Nm → Option (List UInt8)) (ns : List Nat) (R : Nat → List (List UInt8)) (N b : Nat) : Prop where
  d : LogD pre D ns R
  le : ∀ n ∈ ns, n ≤ N
  new : b = 0 → N ∉ ns
  cur : b ≠ 0 → N ∈ ns ∧ b = (frB (R N)).length
  one : 1 ≤ N
  some : ∀ n ∈ ns, R n ≠ []
  each : ∀ n ∈ ns, ∀ p ∈ R n, p.length ≤ 2097152
def recsW (ns : List Nat) (R : Nat → List (List UInt8)) : List (Nat × List UInt8) := ns.flatMap fun n => (R n).map fun r => (n, r)
def pushN (ns : List Nat) (N b : Nat) : List Nat := if b = 0 then ns ++ [N] else ns
def pushR (R : Nat → List (List UInt8)) (N b : Nat) (rec : List UInt8) : Nat → List (List UInt8) := fun n => if n = N then (if b = 0 then [] else R N) ++ [rec] else R n
theorem recsW_snd (ns : List Nat) (R : Nat → List (List UInt8)) : (recsW ns R).map Prod.snd = (ns.map R).flatten := by
  unfold recsW
  induction ns with
  | nil => rfl
  | cons n l ih =>
    rw [List.flatMap_cons, List.map_append, ih, List.map_cons, List.flatten_cons, List.map_map]
    congr 1
    exact List.map_id _
theorem recsW_congr {ns : List Nat} {R R' : Nat → List (List UInt8)} (h : ∀ n ∈ ns, R n = R' n) : recsW ns R = recsW ns R' := by
  unfold recsW
  induction ns with
  | nil => rfl
  | cons n l ih =>
    rw [List.flatMap_cons, List.flatMap_cons, h n List.mem_cons_self, ih fun m hm => h m (List.mem_cons_of_mem _ hm)]
theorem recsW_append (a b : List Nat) (R : Nat → List (List UInt8)) : recsW (a ++ b) R = recsW a R ++ recsW b R := List.flatMap_append
theorem recsW_filter (p : Nat → Bool) (ns : List Nat) (R : Nat → List (List UInt8)) : recsW (ns.filter p) R = (recsW ns R).filter fun x => p x.1 := by
  unfold recsW
  induction ns with
  | nil => rfl
  | cons n l ih =>
    rw [List.flatMap_cons, List.filter_append, ← ih]
    have e : ((R n).map fun r => (n, r)).filter (fun x => p x.1) = if p n = true then (R n).map (fun r => (n, r)) else [] := by
      rw [List.filter_map]
      cases hp : p n with
      | true => rw [if_pos rfl]; congr 1; exact List.filter_eq_self.2 fun _ _ => hp
      | false => rw [if_neg (by decide), List.map_eq_nil_iff]; exact List.filter_eq_nil_iff.2 fun _ _ => by simp [hp]
    rw [e, List.filter_cons]
    split
    · rw [List.flatMap_cons]
    · rfl
theorem max_last {ns : List Nat} (h : ns.Pairwise (· < ·)) {N : Nat} (hN : N ∈ ns) (hm : ∀ n ∈ ns, n ≤ N) : ∃ l, ns = l ++ [N] ∧ N ∉ l := by
  refine ⟨ns.dropLast, ?_⟩
  have h0 : ns ≠ [] := by intro e; rw [e] at hN; cases hN
  have hd := List.dropLast_concat_getLast h0
  have hp : (ns.dropLast ++ [ns.getLast h0]).Pairwise (· < ·) := by rw [hd]; exact h
  have hlt := (List.pairwise_append.1 hp).2.2
  have e : ns.getLast h0 = N := by
    have h1 := hm _ (List.getLast_mem h0)
    rw [← hd, List.mem_append, List.mem_singleton] at hN
    rcases hN with hN | hN
    · have := hlt N hN _ List.mem_cons_self; omega
    · exact hN.symm
  refine ⟨by rw [← e]; exact hd.symm, fun hc => ?_⟩
  have := hlt N hc _ List.mem_cons_self
  omega
section
variable {pre : Nm} {D : Nm → Option (List UInt8)} {ns : List Nat} {R : Nat → List (List UInt8)} {N b : Nat}
theorem LogS.next (h : LogS pre D ns R N b) : LogS pre D ns R (N + 1) 0 :=
  ⟨h.d, fun n hn => Nat.le_succ_of_le (h.le n hn), fun _ hn => by have := h.le _ hn; omega, fun h => absurd rfl h, Nat.le_add_left _ _, h.some, h.each⟩
theorem LogS.push (h : LogS pre D ns R N b) (hN : N ≤ 999999) (rec : List UInt8) (hr : rec.length ≤ 2097152) :
    LogS pre (putD D (nameW pre N) ((D (nameW pre N)).getD [] ++ putF rec)) (pushN ns N b) (pushR R N b rec) N (b + (rec.length + 8)) ∧ recsW (pushN ns N b) (pushR R N b rec) = recsW ns R ++ [(N, rec)] := by
  have hone := h.one
  have hsame : ∀ n, n ≠ N → pushR R N b rec n = R n := fun n hn => if_neg hn
  have hat : pushR R N b rec N = (if b = 0 then [] else R N) ++ [rec] := if_pos rfl
  have hfr : frB [rec] = putF rec := by unfold frB; simp
  by_cases hb : b = 0
  · have hnn := h.new hb
    have hlt : ∀ n ∈ ns, n < N := fun n hn => by
      have h1 := h.le n hn
      have h2 : n ≠ N := fun e => hnn (e ▸ hn)
      omega
    have hpn : pushN ns N b = ns ++ [N] := if_pos hb
    have hgone : D (nameW pre N) = none := by rw [h.d.files N hone (by omega), if_neg hnn]
    rw [if_pos hb, List.nil_append] at hat
    rw [hpn, hgone]
    refine ⟨⟨⟨?_, ?_, ?_⟩, ?_, ?_, ?_, hone, ?_, ?_⟩, ?_⟩
    · exact List.pairwise_append.2 ⟨h.d.srt, List.pairwise_singleton _ _, fun a ha c hc => by rw [List.mem_singleton.1 hc]; exact hlt a ha⟩
    · intro n hn
      rcases List.mem_append.1 hn with hn | hn
      · exact h.d.pos n hn
      · rw [List.mem_singleton.1 hn]; omega
    · intro n h1 h2
      by_cases e : n = N
      · subst e
        rw [putD_same, if_pos (List.mem_append_right _ List.mem_cons_self), hat, hfr]
        rfl
      · rw [putD_ne _ _ fun e' => e (nameW_inj pre h2 (by omega) e'), h.d.files n h1 h2, hsame n e]
        by_cases hm : n ∈ ns
        · rw [if_pos hm, if_pos (List.mem_append_left _ hm)]
        · rw [if_neg hm, if_neg fun hc => (List.mem_append.1 hc).elim hm fun hc => e (List.mem_singleton.1 hc)]
    · intro n hn
      rcases List.mem_append.1 hn with hn | hn
      · exact h.le n hn
      · rw [List.mem_singleton.1 hn]; exact Nat.le_refl _
    · intro hc; omega
    · intro _
      refine ⟨List.mem_append_right _ List.mem_cons_self, ?_⟩
      rw [hat, hfr, putF_len, hb]; omega
    · intro n hn
      rcases List.mem_append.1 hn with hn | hn
      · rw [hsame n (by have := hlt n hn; omega)]; exact h.some n hn
      · rw [List.mem_singleton.1 hn, hat]; exact List.cons_ne_nil _ _
    · intro n hn
      rcases List.mem_append.1 hn with hn | hn
      · rw [hsame n (by have := hlt n hn; omega)]; exact h.each n hn
      · rw [List.mem_singleton.1 hn, hat]; intro p hp; rw [List.mem_singleton.1 hp]; exact hr
    · rw [recsW_append, recsW_congr (R' := R) fun n hn => hsame n (by have := hlt n hn; omega)]
      congr 1
      show ((pushR R N b rec N).map fun r => (N, r)) ++ [] = _
      rw [hat]; rfl
  · obtain ⟨hmem, hbl⟩ := h.cur hb
    have hpn : pushN ns N b = ns := if_neg hb
    rw [if_neg hb] at hat
    rw [hpn, h.d.at_ hmem]
    refine ⟨⟨⟨h.d.srt, h.d.pos, ?_⟩, h.le, ?_, ?_, hone, ?_, ?_⟩, ?_⟩
    · intro n h1 h2
      by_cases e : n = N
      · subst e
        rw [putD_same, if_pos hmem, hat, frB_append, hfr]
        rfl
      · rw [putD_ne _ _ fun e' => e (nameW_inj pre h2 (by omega) e'), h.d.files n h1 h2, hsame n e]
    · intro hc; omega
    · intro _
      refine ⟨hmem, ?_⟩
      rw [hat, frB_append, hfr, List.length_append, putF_len, ← hbl]
    · intro n hn
      by_cases e : n = N
      · rw [e, hat]; simp
      · rw [hsame n e]; exact h.some n hn
    · intro n hn
      by_cases e : n = N
      · rw [e, hat]
        intro p hp
        rcases List.mem_append.1 hp with hp | hp
        · exact h.each N hmem p hp
        · rw [List.mem_singleton.1 hp]; exact hr
      · rw [hsame n e]; exact h.each n hn
    · obtain ⟨l, hl, hnl⟩ := max_last h.d.srt hmem h.le
      rw [hl, recsW_append, recsW_append, recsW_congr (R' := R) fun n hn => hsame n fun e => hnl (e ▸ hn), List.append_assoc]
      congr 1
      show ((pushR R N b rec N).map fun r => (N, r)) ++ [] = (((R N).map fun r => (N, r)) ++ []) ++ [(N, rec)]
      rw [hat, List.append_nil, List.append_nil, List.map_append]
      rfl
theorem LogS.drop (h : LogS pre D ns R N b) (below : Int) {D' : Nm → Option (List UInt8)} (hD : ∀ x, D' x = if (ns.any fun n => goneW below N n && decide (x = nameW pre n)) = true then none else D x) :
    LogS pre D' (ns.filter fun n => !goneW below N n) R N b := by
  have hsub : ∀ n, n ∈ ns.filter (fun n => !goneW below N n) → n ∈ ns := fun n hn => (List.mem_filter.1 hn).1
  refine ⟨⟨h.d.srt.sublist List.filter_sublist, fun n hn => h.d.pos n (hsub n hn), fun n h1 h2 => ?_⟩, fun n hn => h.le n (hsub n hn), fun hb hc => h.new hb (hsub _ hc), fun hb => ?_, h.one, fun n hn => h.some n (hsub n hn), fun n hn => h.each n (hsub n hn)⟩
  · rw [hD, h.d.files n h1 h2]
    by_cases hm : n ∈ ns
    · rw [if_pos hm]
      cases hg : goneW below N n with
      | true => rw [if_pos (List.any_eq_true.2 ⟨n, hm, by simp [hg]⟩), if_neg fun hc => by have := (List.mem_filter.1 hc).2; rw [hg] at this; cases this]
      | false =>
        rw [if_pos (List.mem_filter.2 ⟨hm, by simp [hg]⟩), if_neg]
        intro hc
        obtain ⟨m, hm', hc⟩ := List.any_eq_true.1 hc
        rw [Bool.and_eq_true, decide_eq_true_eq] at hc
        have := nameW_inj pre h2 (h.d.pos m hm').2 hc.2
        rw [← this, hg] at hc
        exact absurd hc.1 (by decide)
    · rw [if_neg hm, if_neg fun hc => hm (hsub n hc)]
      split <;> rfl
  · obtain ⟨h1, h2⟩ := h.cur hb
    refine ⟨List.mem_filter.2 ⟨h1, ?_⟩, h2⟩
    unfold goneW
    simp
theorem nextN_lt {ns : List Nat} (hs : ns.Pairwise (· < ·)) : (∀ n ∈ ns, n < nextN ns) ∧ 1 ≤ nextN ns := by
  unfold nextN
  cases hq : ns.getLast? with
  | none => rw [List.getLast?_eq_none_iff.1 hq]; exact ⟨fun _ h => (by cases h), Nat.le_refl _⟩
  | some a =>
    refine ⟨fun n hn => ?_, Nat.le_add_left _ _⟩
    obtain ⟨l, rfl⟩ := List.getLast?_eq_some_iff.1 hq
    show n < a + 1
    rcases List.mem_append.1 hn with hn | hn
    · have := (List.pairwise_append.1 hs).2.2 n hn a List.mem_cons_self; omega
    · rw [List.mem_singleton.1 hn]; omega
theorem LogS.reopen (h : LogS pre D ns R N b) : LogS pre D ns R (nextN ns) 0 ∧ nextN ns ≤ N + 1 := by
  obtain ⟨h1, h2⟩ := nextN_lt h.d.srt
  refine ⟨⟨h.d, fun n hn => Nat.le_of_lt (h1 n hn), fun _ hc => by have := h1 _ hc; omega, fun hc => absurd rfl hc, h2, h.some, h.each⟩, ?_⟩
  unfold nextN
  cases hq : ns.getLast? with
  | none => show 1 ≤ _; omega
  | some a =>
    obtain ⟨l, e⟩ := List.getLast?_eq_some_iff.1 hq
    have := h.le a (by rw [e]; simp)
    show a + 1 ≤ _
    omega
end
end Go.Proofs.YtjnolpfmchnnmaaGreatDoor
end
section
namespace Go.Proofs.YtjnolpfmchnnmaaGreatDoor
set_option maxRecDepth 100000
open Go.RowKit Go.BigFrame
def LogC (w : World) (F : Nat → Prop) (L p : Nat) (pre : Nm) (size : Nat) (ns : List Nat) (R : Nat → List (List UInt8)) (N b dn : Nat) (D : Nm → Option (List UInt8)) : Prop :=
  ∃ k, LogV w F L p pre size N b k ∧ CalmK k dn ∧ fileD k = D ∧ LogS pre D ns R N b
section
variable {w w' : World} {F : Nat → Prop} {L p : Nat} {pre : Nm} {size : Nat} {ns : List Nat} {R : Nat → List (List UInt8)} {N b dn : Nat} {D : Nm → Option (List UInt8)}
theorem LogC.below (h : LogC w F L p pre size ns R N b dn D) (hf : fr w w') : LogC w' F L p pre size ns R N b dn D := by
  obtain ⟨k, h1, h2⟩ := h
  exact ⟨k, h1.below hf, h2⟩
theorem LogC.lt (h : LogC w F L p pre size ns R N b dn D) : L < w.heap.size := by
  obtain ⟨k, h1, h2⟩ := h
  exact h1.lt
theorem LogC.out (h : LogC w F L p pre size ns R N b dn D) : ¬ F L := by
  obtain ⟨k, h1, h2⟩ := h
  exact h1.out
theorem LogC.logS (h : LogC w F L p pre size ns R N b dn D) : LogS pre D ns R N b := by
  obtain ⟨k, h1, h2, h3, h4⟩ := h
  exact h4
theorem LogC.disk (h : LogC w F L p pre size ns R N b dn D) : ∃ k, DiskP w F p k ∧ CalmK k dn ∧ fileD k = D := by
  obtain ⟨k, h1, h2, h3, _⟩ := h
  exact ⟨k, h1.dk, h2, h3⟩
theorem wopen_calm (size : Nat) (k : Pk) (h : DiskP w F p k) (hk : CalmK k dn) (hl : LogD pre (fileD k) ns R) (hsome : ∀ n ∈ ns, R n ≠ []) (heach : ∀ n ∈ ns, ∀ p ∈ R n, p.length ≤ 2097152) (hlen : ∀ n ∈ ns, (frB (R n)).length ≤ 1099511627776)
    (ht : TabW w) (hF : ∀ i, F i → i < w.heap.size ∧ tabG < i) (hpre : PreOk pre) (hsz : 1 ≤ size ∧ size ≤ 1048576) (htmp : fileD k (pre ++ tmpW) = none) (hdn : dn + ns.length < 4611686018427387904) (hfew : dn * 16 ≤ 140737488355328)
    (hall : (ns.map R).flatten.length * 24 ≤ 140737488355328) (hN : nextN ns ≤ 999999) :
    Calls Tryz.prog 17 #[.pointer (some ⟨p, 0, none⟩), .string ⟨pre.toArray⟩, .int .i64 size] w fun r w' => ∃ L v, r = .returned (.tuple #[.pointer (some ⟨L, 0, none⟩), v, .int .i64 0]) ∧ w.heap.size ≤ L ∧ LogC w' F L p pre size ns R (nextN ns) 0 (dn + ns.length) (fileD k) ∧
      BVs w' (fun i => w.heap.size ≤ i ∧ i < w'.heap.size) v (ns.map R).flatten ∧ Only F w w' := by
  have hseg := hl.segs hk
  obtain ⟨s1, s2, s3⟩ := sync_calm (k := k) (dn := dn) hpre (ns := ns) (fun n hn => by rw [hl.at_ hn]; rfl) hk hdn
  refine (wopen_ok F p k pre size (ns.map R) w h ht hF ht.lt hpre hsz hk.d0 (by have := hk.d1; omega) (hk.ready_none (nameB_tmp hpre) htmp) hk.ready0 (by have := hk.few; omega) hk.list_len (by rw [hseg, List.length_map]) ?_ hall (by rw [hseg]; exact s1) (by rw [hseg]; exact hN)).mono ?_
  · intro j n rs hj hr
    rw [hseg] at hj
    rw [List.getElem?_map, hj] at hr
    injection hr with hr
    subst hr
    have hn : n ∈ ns := List.mem_of_getElem? hj
    exact ⟨hk.ready_some (nameB_nameW hpre n) (hl.at_ hn), by rw [fileD_readD, hl.at_ hn]; rfl, hsome n hn, heach n hn, hlen n hn⟩
  · intro r w' h
    obtain ⟨L, v, rfl, h1, h2, h3, h4⟩ := h
    rw [hseg] at h2
    obtain ⟨h5, h6⟩ := nextN_lt hl.srt
    exact ⟨L, v, rfl, h1, ⟨_, h2, s2, s3, ⟨hl, fun n hn => Nat.le_of_lt (h5 n hn), fun _ hc => by have := h5 _ hc; omega, fun hc => absurd rfl hc, h6, hsome, heach⟩⟩, h3, h4⟩
theorem wfresh_calm (size : Nat) (k : Pk) (h : DiskP w F p k) (hk : CalmK k dn) (hno : ∀ n, fileD k (nameW pre n) = none) (ht : TabW w) (hF : ∀ i, F i → i < w.heap.size ∧ tabG < i) (hpre : PreOk pre) (hsz : 1 ≤ size ∧ size ≤ 1048576) (htmp : fileD k (pre ++ tmpW) = none) (hdn : dn * 16 ≤ 140737488355328) :
    Calls Tryz.prog 17 #[.pointer (some ⟨p, 0, none⟩), .string ⟨pre.toArray⟩, .int .i64 size] w fun r w' => ∃ L A c, r = .returned (.tuple #[.pointer (some ⟨L, 0, none⟩), .slice A 0 c, .int .i64 0]) ∧ w.heap.size ≤ L ∧ LogC w' F L p pre size [] (fun _ => []) 1 0 dn (fileD k) ∧ Only F w w' := by
  refine (wopen_calm (ns := []) (R := fun _ => []) size k h hk ⟨.nil, fun _ h => (by cases h), fun n _ _ => by rw [hno, if_neg (by simp)]⟩ (fun _ h => (by cases h)) (fun _ h => (by cases h)) (fun _ h => (by cases h)) ht hF hpre hsz htmp (by simp; omega) hdn (by simp) (by decide)).mono ?_
  rintro r w' ⟨L, v, rfl, h1, h2, h3, h4⟩
  obtain ⟨A, c, rfl⟩ := Rows.form (h3 : BVs w' _ v [])
  exact ⟨L, A, c, rfl, h1, h2, h4⟩
theorem wreopen_calm (size' : Nat) (h : LogC w F L p pre size ns R N b dn D) (hlen : ∀ n ∈ ns, (frB (R n)).length ≤ 1099511627776) (ht : TabW w) (hF : ∀ i, F i → i < w.heap.size ∧ tabG < i) (hpre : PreOk pre) (hsz : 1 ≤ size' ∧ size' ≤ 1048576) (htmp : D (pre ++ tmpW) = none) (hdn : dn + ns.length < 4611686018427387904) (hfew : dn * 16 ≤ 140737488355328)
    (hall : (ns.map R).flatten.length * 24 ≤ 140737488355328) (hN : nextN ns ≤ 999999) :
    Calls Tryz.prog 17 #[.pointer (some ⟨p, 0, none⟩), .string ⟨pre.toArray⟩, .int .i64 size'] w fun r w' => ∃ L' A c, r = .returned (.tuple #[.pointer (some ⟨L', 0, none⟩), .slice A (ns.map R).flatten.length c, .int .i64 0]) ∧ w.heap.size ≤ L' ∧ LogC w' F L' p pre size' ns R (nextN ns) 0 (dn + ns.length) D ∧
      BVs w' (fun i => w.heap.size ≤ i ∧ i < w'.heap.size) (.slice A (ns.map R).flatten.length c) (ns.map R).flatten ∧ Only F w w' := by
  obtain ⟨k, h1, h2, h3, h4⟩ := h
  subst h3
  refine (wopen_calm size' k h1.dk h2 h4.d h4.some h4.each hlen ht hF hpre hsz htmp hdn hfew hall hN).mono ?_
  rintro r w' ⟨L', v, rfl, g1, g2, g3, g4⟩
  obtain ⟨A, c, rfl⟩ := Rows.form g3
  exact ⟨L', A, c, rfl, g1, g2, g3, g4⟩
theorem wappend_calm (S : Nat → Prop) (v : Value) (rec : List UInt8) (h : LogC w F L p pre size ns R N b dn D) (ht : TabW w) (hF : ∀ i, F i → i < w.heap.size ∧ tabG < i) (hL : tabG < L) (hv : Byt w S v rec) (hr : rec.length ≤ 2097152) (hpre : PreOk pre)
    (hN : (if size ≤ b then N + 1 else N) ≤ 999999) (hb40 : b ≤ 1099511627776) (hsz : 1 ≤ size) (hdn : dn < 4611686018427387800) :
    Calls Tryz.prog 19 #[.pointer (some ⟨L, 0, none⟩), v] w fun r w' => r = .returned (.int .i64 0) ∧
      LogC w' (orNew F w.heap.size) L p pre size (pushN ns (if size ≤ b then N + 1 else N) (if size ≤ b then 0 else b)) (pushR R (if size ≤ b then N + 1 else N) (if size ≤ b then 0 else b) rec) (if size ≤ b then N + 1 else N) ((if size ≤ b then 0 else b) + (rec.length + 8)) (dn + 2)
        (putD D (nameW pre (if size ≤ b then N + 1 else N)) ((D (nameW pre (if size ≤ b then N + 1 else N))).getD [] ++ putF rec)) ∧ recsW (pushN ns (if size ≤ b then N + 1 else N) (if size ≤ b then 0 else b)) (pushR R (if size ≤ b then N + 1 else N) (if size ≤ b then 0 else b) rec) = recsW ns R ++ [((if size ≤ b then N + 1 else N), rec)] ∧ Only (fun i => F i ∨ i = L) w w' := by
  obtain ⟨k, h1, h2, h3, h4⟩ := h
  have hfile : b ≠ 0 → D (nameW pre N) = some (frB (R N)) := fun hb => h4.d.at_ (h4.cur hb).1
  have hS : LogS pre D ns R (if size ≤ b then N + 1 else N) (if size ≤ b then 0 else b) := by
    split
    · exact h4.next
    · exact h4
  have hsync : size ≤ b → syncE k (nameW pre N) = 0 ∧ CalmK (syncK k (nameW pre N)) (dn + 1) ∧ fileD (syncK k (nameW pre N)) = fileD k := fun hb => h2.sync (nameB_nameW hpre N) (by rw [h3]; exact hfile (by omega))
  have hk1 : CalmK (if size ≤ b then syncK k (nameW pre N) else k) (dn + 1) ∧ fileD (if size ≤ b then syncK k (nameW pre N) else k) = D := by
    split
    · rename_i hb; exact ⟨(hsync hb).2.1, (hsync hb).2.2.trans h3⟩
    · exact ⟨h2.mono (Nat.le_succ _), h3⟩
  obtain ⟨a1, a2, a3⟩ := hk1.1.append (nameB_nameW hpre (if size ≤ b then N + 1 else N)) (putF rec)
  obtain ⟨p1, p2⟩ := hS.push hN rec hr
  rw [hk1.2] at a3
  refine (wappend_any F L p pre size N b k S v rec w h1 ht hF hL hv hr (by have := hpre.few; omega) hN hb40 hsz h2.d0 (by have := h2.d1; omega) (fun hb => (hsync hb).1) a1 ?_ (by have := hk1.1.few; omega) ⟨hk1.1.d0, by have := hk1.1.d1; omega⟩).mono ?_
  · intro f hf
    have e1 : fileD (if size ≤ b then syncK k (nameW pre N) else k) (nameW pre (if size ≤ b then N + 1 else N)) = some f.data := by unfold fileD; rw [hf]; rfl
    rw [hk1.2] at e1
    rw [putF_len]
    by_cases hz : (if size ≤ b then 0 else b) = 0
    · have hn := hS.new hz
      rw [hS.d.files _ hS.one (by omega), if_neg hn] at e1
      cases e1
    · obtain ⟨hm, hl⟩ := hS.cur hz
      rw [hS.d.at_ hm] at e1
      injection e1 with e1
      rw [← e1, ← hl]
      have : (if size ≤ b then 0 else b) ≤ b := by split <;> omega
      omega
  · rintro r w' ⟨rfl, g1, g2⟩
    exact ⟨rfl, ⟨_, g1, a2, a3, p1⟩, p2, g2⟩
theorem LogC.fit {F' : Nat → Prop} (h : LogC w F L p pre size ns R N b dn D) (hF : ∀ i, F i → i < w.heap.size → F' i) (hL : ¬ F' L) : LogC w F' L p pre size ns R N b dn D := by
  obtain ⟨k, h1, h2⟩ := h
  exact ⟨k, ⟨h1.dk.mono hF, hL, h1.row⟩, h2⟩
theorem LogC.only {S : Nat → Prop} (h : LogC w F L p pre size ns R N b dn D) (ho : Only S w w') (hF : ∀ i, S i → ¬ F i) (hL : ¬ S L) : LogC w' F L p pre size ns R N b dn D := by
  obtain ⟨k, h1, h2⟩ := h
  exact ⟨k, ⟨h1.dk.only ho hF, h1.out, (ho.block L h1.lt hL).trans h1.row⟩, h2⟩
def Lies (F : Nat → Prop) (w : World) (lo : Nat) : Prop := ∀ i, F i → i < w.heap.size ∧ tabG < i ∧ lo ≤ i
theorem Lies.two {lo : Nat} (h : Lies F w lo) : ∀ i, F i → i < w.heap.size ∧ tabG < i := fun i hi => ⟨(h i hi).1, (h i hi).2.1⟩
theorem Lies.step {lo : Nat} (h : Lies F w lo) (hs : w.heap.size ≤ w'.heap.size) : Lies F w' lo := fun i hi => ⟨Nat.lt_of_lt_of_le (h i hi).1 hs, (h i hi).2⟩
theorem wpush_calm (lo : Nat) (S : Nat → Prop) (v : Value) (rec : List UInt8) (h : LogC w F L p pre size ns R N b dn D) (ht : TabW w) (hF : Lies F w lo) (hL : tabG < L) (hlo : lo ≤ w.heap.size) (hv : Byt w S v rec) (hr : rec.length ≤ 2097152) (hpre : PreOk pre)
    (hN : (if size ≤ b then N + 1 else N) ≤ 999999) (hb40 : b ≤ 1099511627776) (hsz : 1 ≤ size) (hdn : dn < 4611686018427387800) :
    Calls Tryz.prog 19 #[.pointer (some ⟨L, 0, none⟩), v] w fun r w' => r = .returned (.int .i64 0) ∧ ∃ F', Lies F' w' lo ∧ (∀ i, F' i → F i ∨ w.heap.size ≤ i) ∧
      LogC w' F' L p pre size (pushN ns (if size ≤ b then N + 1 else N) (if size ≤ b then 0 else b)) (pushR R (if size ≤ b then N + 1 else N) (if size ≤ b then 0 else b) rec) (if size ≤ b then N + 1 else N) ((if size ≤ b then 0 else b) + (rec.length + 8)) (dn + 2)
        (putD D (nameW pre (if size ≤ b then N + 1 else N)) ((D (nameW pre (if size ≤ b then N + 1 else N))).getD [] ++ putF rec)) ∧ recsW (pushN ns (if size ≤ b then N + 1 else N) (if size ≤ b then 0 else b)) (pushR R (if size ≤ b then N + 1 else N) (if size ≤ b then 0 else b) rec) = recsW ns R ++ [((if size ≤ b then N + 1 else N), rec)] ∧ Only (fun i => F i ∨ i = L) w w' := by
  have hLw := h.lt
  have hLo := h.out
  refine (wappend_calm S v rec h ht hF.two hL hv hr hpre hN hb40 hsz hdn).mono ?_
  rintro r w' ⟨rfl, h1, hrec, h2⟩
  have hs := h2.size
  have htl := ht.lt
  refine ⟨rfl, fun i => (F i ∨ w.heap.size ≤ i) ∧ i < w'.heap.size, fun i hi => ?_, fun i hi => hi.1, h1.fit (fun i hi hlt => ⟨hi, hlt⟩) (fun hc => ?_), hrec, h2⟩
  · rcases hi.1 with h | h
    · have := hF i h; exact ⟨hi.2, this.2⟩
    · exact ⟨hi.2, by omega, by omega⟩
  · rcases hc.1 with h | h
    · exact hLo h
    · omega
theorem wsync_calm (h : LogC w F L p pre size ns R N b dn D) (ht : TabW w) (hpre : PreOk pre) (hN : N < 1000000) (hdn : dn < 4611686018427387800) :
    Calls Tryz.prog 22 #[.pointer (some ⟨L, 0, none⟩)] w fun r w' => r = .returned (.int .i64 0) ∧ LogC w' F L p pre size ns R N b (dn + 1) D ∧ Only F w w' := by
  obtain ⟨k, h1, h2, h3, h4⟩ := h
  refine (wsync_any F L p pre size N b k w h1 ht (by have := hpre.few; omega) hN h2.d0 (by have := h2.d1; omega)).mono ?_
  intro r w' h
  by_cases hb : b = 0
  · simp only [if_pos hb] at h
    exact ⟨h.1, ⟨k, h.2.1, h2.mono (Nat.le_succ _), h3, h4⟩, h.2.2⟩
  · have hs := h2.sync (nameB_nameW hpre N) (by rw [h3]; exact h4.d.at_ (h4.cur hb).1)
    simp only [if_neg hb, hs.1] at h
    exact ⟨h.1, ⟨_, h.2.1, hs.2.1, hs.2.2.trans h3, h4⟩, h.2.2⟩
theorem wsegment_calm (h : LogC w F L p pre size ns R N b dn D) (hN : N < 1000000) :
    Calls Tryz.prog 18 #[.pointer (some ⟨L, 0, none⟩)] w fun r w' => r = .returned (.int .i64 ((if size ≤ b then N + 1 else N : Nat) : Int)) ∧ fr w w' := by
  obtain ⟨k, h1, h2, h3, h4⟩ := h
  exact segment_any F L p pre size N b k w h1 (by omega)
theorem drop_calm_any (below : Int) (h : LogC w F L p pre size ns R N b dn D) (ht : TabW w) (hF : ∀ i, F i → i < w.heap.size ∧ tabG < i) (hpre : PreOk pre) (hN : N < 1000000) (hdn : dn + ns.length < 4611686018427387800) (hfew : dn * 16 ≤ 140737488355328) :
    Calls Tryz.prog 20 #[.pointer (some ⟨L, 0, none⟩), .int .i64 below] w fun r w' => r = .returned (.int .i64 0) ∧ ∃ D', (∀ x, D' x = if (ns.any fun n => goneW below N n && decide (x = nameW pre n)) = true then none else D x) ∧ LogC w' F L p pre size (ns.filter fun n => !goneW below N n) R N b (dn + ns.length) D' ∧ Only F w w' := by
  obtain ⟨k, h1, h2, h3, h4⟩ := h
  have hseg : segsP pre (listP k) = ns := (by rw [h3]; exact h4.d : LogD pre (fileD k) ns R).segs h2
  obtain ⟨d1, d2, d3⟩ := drop_calm (k := k) (dn := dn) hpre N below h4.d.srt (fun n hn => (h4.d.pos n hn).2) (fun n hn => by rw [h3, h4.d.at_ hn]; rfl) h2 (by omega)
  rw [h3] at d3
  refine (drop_any F L p pre size N b below k w h1 ht (fun i hi => (hF i hi).2) (fun i hi => (hF i hi).1) (by have := hpre.few; omega) (by have := h2.few; omega) h2.list_len hN h2.ready0 (by rw [hseg]; exact d1)).mono ?_
  rintro r w' ⟨rfl, g1, g2⟩
  rw [hseg] at g1
  exact ⟨rfl, _, d3, ⟨_, g1, d2, rfl, h4.drop below d3⟩, g2⟩
end
end Go.Proofs.YtjnolpfmchnnmaaGreatDoor
end
