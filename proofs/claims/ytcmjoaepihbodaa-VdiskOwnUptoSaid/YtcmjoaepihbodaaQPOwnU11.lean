/-
ref07's change, named.
-/
import Derived.Test.YtcmjoaepihbodaaQPOwnU10
section
namespace Go.Proofs.Ytcmjoaepihbodaa
open Go.RowKit
theorem tot_set {fs : List Fl} {i : Nat} {f : Fl} (g : Fl) (h : fs[i]? = some f) : tot (fs.set i g) + f.data.length = tot fs + g.data.length := by
  unfold tot
  induction fs generalizing i with
  | nil => simp at h
  | cons a l ih =>
    cases i with
    | zero =>
      simp at h
      subst h
      simp only [List.set_cons_zero, List.map_cons, List.sum_cons]
      omega
    | succ i =>
      have := ih (i := i) (by simpa using h)
      simp only [List.set_cons_succ, List.map_cons, List.sum_cons]
      omega
theorem tot_erase {fs : List Fl} {i : Nat} {f : Fl} (h : fs[i]? = some f) : tot (fs.eraseIdx i) + f.data.length = tot fs := by
  unfold tot
  induction fs generalizing i with
  | nil => simp at h
  | cons a l ih =>
    cases i with
    | zero =>
      simp at h
      subst h
      simp only [List.eraseIdx_cons_zero, List.map_cons, List.sum_cons]
      omega
    | succ i =>
      have := ih (i := i) (by simpa using h)
      simp only [List.eraseIdx_cons_succ, List.map_cons, List.sum_cons]
      omega
theorem tot_insI (f : Fl) (fs : List Fl) : tot (insI f fs) = tot fs + f.data.length := by
  unfold tot
  induction fs with
  | nil => simp [insI]
  | cons a l ih =>
    unfold insI
    split
    · simp only [List.map_cons, List.sum_cons]; omega
    · simp only [List.map_cons, List.sum_cons]; omega
theorem tot_ins {f : Fl} {fs : List Fl} (h : findP f.name fs = none) : tot (insP f fs) = tot fs + f.data.length := by rw [← insI_insP h, tot_insI]
theorem tot_del {x : Nm} {k : Pk} (hs : sortedP k.fs) : tot (delP x k.fs) + lenP k x = tot k.fs := by
  unfold lenP
  rcases idxP_find (x := x) (fs := k.fs) with ⟨h1, h2⟩ | ⟨i, f, h1, h2, h3, _⟩
  · rw [h2]
    have : delP x k.fs = k.fs := by
      have h := findP_none h2
      generalize k.fs = fs at h
      induction fs with
      | nil => rfl
      | cons a l ih => rw [delP, if_neg (h a List.mem_cons_self), ih fun g hg => h g (List.mem_cons_of_mem _ hg)]
    rw [this]
    rfl
  · rw [h2, erase_delP hs h1]
    exact tot_erase h3
theorem find_del_ne {x y : Nm} (h : x ≠ y) (fs : List Fl) : findP y (delP x fs) = findP y fs := by
  induction fs with
  | nil => rfl
  | cons a l ih =>
    unfold delP
    split
    · rename_i e
      rw [ih, findP, if_neg (by rw [e]; exact h)]
    · rw [findP, findP, ih]
theorem find_del_none (x : Nm) (fs : List Fl) : findP x (delP x fs) = none := by
  induction fs with
  | nil => rfl
  | cons a l ih =>
    unfold delP
    split
    · exact ih
    · rename_i e
      rw [findP, if_neg e, ih]
/-- an insertion is one without the elder. -/
theorem insP_del {f : Fl} {fs : List Fl} (hs : sortedP fs) : insP f fs = insI f (delP f.name fs) := by
  induction fs with
  | nil => rfl
  | cons a l ih =>
    obtain ⟨h1, h2⟩ := List.pairwise_cons.1 hs
    unfold insP
    by_cases hlt : f.name < a.name
    · rw [if_pos hlt]
      have hne : ¬ a.name = f.name := fun e => by rw [e] at hlt; exact List.lt_irrefl _ hlt
      have hl : delP f.name l = l := by
        have : ∀ g ∈ l, g.name ≠ f.name := fun g hg e => by have := List.lt_trans hlt (h1 g hg); rw [e] at this; exact List.lt_irrefl _ this
        clear ih h1 h2 hs hlt hne
        induction l with
        | nil => rfl
        | cons b l ih => rw [delP, if_neg (this b List.mem_cons_self), ih fun g hg => this g (List.mem_cons_of_mem _ hg)]
      rw [delP, if_neg hne, hl, insI, if_pos hlt]
    · rw [if_neg hlt]
      by_cases he : f.name = a.name
      · rw [if_pos he, delP, if_pos he.symm]
        have hl : delP f.name l = l := by
          have : ∀ g ∈ l, g.name ≠ f.name := fun g hg e => by have := h1 g hg; rw [e, he] at this; exact List.lt_irrefl _ this
          clear ih h1 h2 hs hlt he
          induction l with
          | nil => rfl
          | cons b l ih => rw [delP, if_neg (this b List.mem_cons_self), ih fun g hg => this g (List.mem_cons_of_mem _ hg)]
        rw [hl]
        cases l with
        | nil => rfl
        | cons b l => rw [insI, if_pos (by rw [he]; exact h1 b List.mem_cons_self)]
      · rw [if_neg he, delP, if_neg fun e => he e.symm, insI, if_neg hlt, ih h2]
/-- what stays true. -/
structure InvK (k : Pk) (N B M : Nat) : Prop where
  sorted : sortedP k.fs
  ok : okFs k.fs
  many : k.fs.length ≤ N
  much : tot k.fs ≤ B
  bytes : k.bytes = tot k.fs
  done0 : 0 ≤ k.done
  done : k.done ≤ M
section
variable {k : Pk} {N B M : Nat}
theorem InvK.mono {N' B' M' : Nat} (h : InvK k N B M) (h1 : N ≤ N') (h2 : B ≤ B') (h3 : M ≤ M') : InvK k N' B' M' :=
  ⟨h.sorted, h.ok, Nat.le_trans h.many h1, Nat.le_trans h.much h2, h.bytes, h.done0, by have := h.done; omega⟩
theorem inv_change (h : InvK k N B M) : InvK (changeK k) N B (M + 1) := by
  have h0 := h.done0
  have h1 := h.done
  unfold changeK
  split
  · exact ⟨h.sorted, h.ok, h.many, h.much, h.bytes, h0, by show k.done ≤ _; omega⟩
  · exact ⟨h.sorted, h.ok, h.many, h.much, h.bytes, by show 0 ≤ k.done + 1; omega, by show k.done + 1 ≤ _; omega⟩
theorem change_same (k : Pk) : (changeK k).fs = k.fs ∧ (changeK k).bytes = k.bytes := by
  unfold changeK
  split <;> exact ⟨rfl, rfl⟩
theorem upd_at {x : Nm} {fs : List Fl} (hs : sortedP fs) (g : Fl → Fl) : (idxP x fs = none ∧ updP x g fs = fs) ∨ ∃ i f, idxP x fs = some i ∧ fs[i]? = some f ∧ f.name = x ∧ findP x fs = some f ∧ updP x g fs = fs.set i (g f) := by
  rcases idxP_find (x := x) (fs := fs) with ⟨h1, h2⟩ | ⟨i, f, h1, h2, h3, rfl⟩
  · refine .inl ⟨h1, ?_⟩
    have h := findP_none h2
    unfold updP
    conv => rhs; rw [← List.map_id fs]
    exact List.map_congr_left fun a ha => by rw [if_neg (h a ha)]; rfl
  · exact .inr ⟨i, f, h1, h3, rfl, h2, updP_set (sorted_ne hs) h3 g⟩
theorem sorted_set {fs : List Fl} (hs : sortedP fs) {i : Nat} {f g : Fl} (h : fs[i]? = some f) (hn : g.name = f.name) : sortedP (fs.set i g) := by
  unfold sortedP at *
  induction fs generalizing i with
  | nil => simp at h
  | cons a l ih =>
    obtain ⟨h1, h2⟩ := List.pairwise_cons.1 hs
    cases i with
    | zero =>
      simp at h
      subst h
      rw [List.set_cons_zero]
      exact List.pairwise_cons.2 ⟨fun b hb => by rw [hn]; exact h1 b hb, h2⟩
    | succ i =>
      have h' : l[i]? = some f := by simpa using h
      rw [List.set_cons_succ]
      refine List.pairwise_cons.2 ⟨fun b hb => ?_, ih h2 h'⟩
      rcases List.mem_or_eq_of_mem_set hb with hb | rfl
      · exact h1 b hb
      · rw [hn]; exact h1 f (List.mem_of_getElem? h')
theorem ok_set {fs : List Fl} (hs : okFs fs) {i : Nat} {g : Fl} (hg : 0 ≤ g.synced ∧ g.synced ≤ g.data.length) : okFs (fs.set i g) := fun f hf => by
  rcases List.mem_or_eq_of_mem_set hf with hf | rfl
  · exact hs f hf
  · exact hg
theorem len_app {x : Nm} {b : List UInt8} {fs : List Fl} (hs : sortedP fs) (ho : okFs fs) : sortedP (appFs x b fs) ∧ okFs (appFs x b fs) ∧ (appFs x b fs).length ≤ fs.length + 1 ∧ tot (appFs x b fs) = tot fs + b.length := by
  unfold appFs
  have key : ∀ l : List Fl, sortedP l → okFs l → (findP x l).isSome = true → sortedP (updP x (fun f => { f with data := f.data ++ b }) l) ∧ okFs (updP x (fun f => { f with data := f.data ++ b }) l) ∧ (updP x (fun f => { f with data := f.data ++ b }) l).length = l.length ∧ tot (updP x (fun f => { f with data := f.data ++ b }) l) = tot l + b.length := by
    intro l h1 h2 h3
    rcases upd_at h1 (x := x) (fun f => { f with data := f.data ++ b }) with ⟨h4, _⟩ | ⟨i, f, _, h4, _, _, h5⟩
    · rcases idxP_find (x := x) (fs := l) with ⟨_, h5⟩ | ⟨i, f, h5, _⟩
      · rw [h5] at h3; cases h3
      · rw [h4] at h5; cases h5
    · rw [h5]
      have hf := h2 f (List.mem_of_getElem? h4)
      refine ⟨sorted_set h1 h4 rfl, ok_set h2 ⟨hf.1, by simp only [List.length_append]; omega⟩, by simp, ?_⟩
      have := tot_set { f with data := f.data ++ b } h4
      simp only [List.length_append] at this
      omega
  by_cases hf : (findP x fs).isSome = true
  · rw [if_pos hf]
    obtain ⟨h1, h2, h3, h4⟩ := key fs hs ho hf
    exact ⟨h1, h2, by omega, h4⟩
  · rw [if_neg hf]
    have hn : findP x fs = none := by simpa using hf
    have hp : (findP x (insP ⟨x, [], 0⟩ fs)).isSome = true := by
      clear key hf
      induction fs with
      | nil => simp [insP, findP]
      | cons a l ih =>
        have ha := findP_none hn a List.mem_cons_self
        unfold findP at hn
        rw [if_neg ha] at hn
        unfold insP
        split
        · simp [findP]
        · split
          · simp [findP]
          · rw [findP, if_neg ha]
            exact ih (List.pairwise_cons.1 hs).2 (fun f hf => ho f (List.mem_cons_of_mem _ hf)) hn
    obtain ⟨h1, h2, h3, h4⟩ := key _ (srt_ins hs) (fun f hf => by
      rcases mem_insP hf with rfl | hf
      · exact ⟨Int.le_refl _, by simp⟩
      · exact ho f hf) hp
    refine ⟨h1, h2, by rw [h3]; exact len_insP _ _, ?_⟩
    rw [h4, tot_ins (f := ⟨x, [], 0⟩) hn]
    simp
theorem inv_append {x : Nm} {b : List UInt8} (h : InvK k N B M) (hB : B + b.length ≤ 1099511627776) : InvK (appendK k x b) (N + 1) (B + b.length) (M + 1) := by
  have h0 : InvK k (N + 1) (B + b.length) (M + 1) := h.mono (by omega) (by omega) (by omega)
  unfold appendK
  split
  · split
    · exact h0
    · split
      · exact (inv_change h).mono (by omega) (by omega) (Nat.le_refl _)
      · obtain ⟨h1, h2, h3, h4⟩ := len_app (x := x) (b := b) h.sorted h.ok
        have hc := inv_change h
        have hb := h.bytes
        have hm := h.much
        have hn := h.many
        refine ⟨h1, h2, by show (appFs x b k.fs).length ≤ _; omega, by show tot (appFs x b k.fs) ≤ _; omega, ?_, hc.done0, hc.done⟩
        show wrap64 (k.bytes + b.length) = (tot (appFs x b k.fs) : Int)
        rw [hb, h4, wrap_id (by omega) (by omega)]
        omega
  · exact h0
theorem inv_sync {x : Nm} (h : InvK k N B M) : InvK (syncK k x) N B (M + 1) := by
  unfold syncK
  split
  · split
    · exact inv_change h
    · have hc := inv_change h
      rw [updK]
      rcases upd_at hc.sorted (x := x) (fun f => { f with synced := f.data.length }) with ⟨_, h5⟩ | ⟨i, f, _, h4, _, _, h5⟩
      · rw [h5]; exact hc
      · rw [h5]
        have ht := tot_set { f with synced := f.data.length } h4
        have hb := hc.bytes
        have hm := hc.much
        simp only at ht
        exact ⟨sorted_set hc.sorted h4 rfl, ok_set hc.ok ⟨by simp, by simp⟩, by show (List.set _ _ _).length ≤ _; rw [List.length_set]; exact hc.many, by show tot (List.set _ _ _) ≤ _; omega, by show (changeK k).bytes = (tot (List.set _ _ _) : Int); omega, hc.done0, hc.done⟩
  · exact h.mono (Nat.le_refl _) (Nat.le_refl _) (by omega)
theorem ok_del {x : Nm} {fs : List Fl} (h : okFs fs) : okFs (delP x fs) := fun f hf => h f (mem_delP hf)
theorem inv_delete {x : Nm} (h : InvK k N B M) (hB : B ≤ 1099511627776) : InvK (deleteK k x) N B (M + 1) := by
  unfold deleteK
  split
  · split
    · exact inv_change h
    · have hc := inv_change h
      have ht := tot_del (x := x) h.sorted
      have hb := h.bytes
      have hm := h.much
      refine ⟨srt_del h.sorted, ok_del h.ok, Nat.le_trans (len_delP _ _) h.many, by show tot (delP x k.fs) ≤ _; omega, ?_, hc.done0, hc.done⟩
      show wrap64 (k.bytes - lenP k x) = (tot (delP x k.fs) : Int)
      rw [hb, wrap_id (by omega) (by omega)]
      omega
  · exact h.mono (Nat.le_refl _) (Nat.le_refl _) (by omega)
theorem inv_rename {x y : Nm} (h : InvK k N B M) (hB : B ≤ 1099511627776) : InvK (renameK k x y) (N + 1) B (M + 1) := by
  have h0 : InvK k (N + 1) B (M + 1) := h.mono (by omega) (by omega) (by omega)
  unfold renameK
  split
  · split
    · exact (inv_change h).mono (by omega) (by omega) (by omega)
    · split
      · exact (inv_change h).mono (by omega) (by omega) (by omega)
      · rename_i hr _ hxy
        have hc := inv_change h
        have ht := tot_del (x := x) h.sorted
        have hb := h.bytes
        have hm := h.much
        have hn := h.many
        unfold renFs
        cases hf : findP x k.fs with
        | none =>
          exfalso
          unfold readyE at hr
          split at hr
          · cases hr
          · split at hr
            · cases hr
            · simp [hf] at hr
        | some f =>
          have hlx : lenP k x = f.data.length := by unfold lenP; rw [hf]
          have hsd : sortedP (delP x k.fs) := srt_del h.sorted
          have hty := tot_del (x := y) (k := { k with fs := delP x k.fs }) hsd
          have hly : lenP { k with fs := delP x k.fs } y = lenP k y := by unfold lenP; simp only; rw [find_del_ne hxy]
          rw [hly] at hty
          simp only at hty
          have hti : tot (insP { f with name := y } (delP x k.fs)) = tot (delP y (delP x k.fs)) + f.data.length := by rw [insP_del hsd, tot_insI]
          have hmem := (findP_mem hf).1
          refine ⟨srt_ins hsd, fun g hg => ?_, ?_, ?_, ?_, hc.done0, hc.done⟩
          · rcases mem_insP hg with rfl | hg
            · exact h.ok f hmem
            · exact h.ok g (mem_delP hg)
          · show (insP { f with name := y } (delP x k.fs)).length ≤ _
            have := len_insP { f with name := y } (delP x k.fs)
            have := len_delP x k.fs
            omega
          · show tot (insP { f with name := y } (delP x k.fs)) ≤ _
            omega
          · show (if (findP y (delP x k.fs)).isSome = true then wrap64 (k.bytes - lenP k y) else k.bytes) = (tot (insP { f with name := y } (delP x k.fs)) : Int)
            split
            · rw [hb, wrap_id (by omega) (by omega)]
              omega
            · rename_i hno
              have : lenP k y = 0 := by
                unfold lenP
                rw [find_del_ne hxy] at hno
                cases hfy : findP y k.fs with
                | none => rfl
                | some g => rw [hfy] at hno; simp at hno
              omega
  · exact h0
theorem rev_inv (h : InvK k N B M) (hB : B ≤ 1099511627776) (i : Nat) : sortedP (revSt k.fs k.keep k.bytes i).1 ∧ tot (revSt k.fs k.keep k.bytes i).1 ≤ B ∧ (revSt k.fs k.keep k.bytes i).2.2 = tot (revSt k.fs k.keep k.bytes i).1 := by
  induction i with
  | zero => exact ⟨h.sorted, h.much, h.bytes⟩
  | succ i ih =>
    cases hf : k.fs[i]? with
    | none =>
      have h1 := rev_later k.fs k.keep k.bytes i i (Nat.le_refl _)
      rw [hf] at h1
      have : revSt k.fs k.keep k.bytes (i + 1) = revSt k.fs k.keep k.bytes i := by
        show (match (revSt k.fs k.keep k.bytes i).1[i]? with | none => _ | some f => _) = _
        rw [h1]
      rw [this]
      exact ih
    | some f =>
      rw [rev_step hf]
      split
      · exact ih
      · obtain ⟨h1, h2, h3⟩ := ih
        have h4 := rev_later k.fs k.keep k.bytes i i (Nat.le_refl _)
        rw [hf] at h4
        have hok := h.ok f (List.mem_of_getElem? hf)
        have hk := kept_range hok.2 (revSt k.fs k.keep k.bytes i).2.1
        have ht := tot_set (cutP f (keptN f (revSt k.fs k.keep k.bytes i).2.1)) h4
        have hl : (cutP f (keptN f (revSt k.fs k.keep k.bytes i).2.1)).data.length = (f.synced + keptN f (revSt k.fs k.keep k.bytes i).2.1).toNat := by
          show (f.data.take _).length = _
          rw [List.length_take]
          unfold Fl.loose at hk
          omega
        have hlo : f.loose = (f.data.length : Int) - f.synced := rfl
        have hmem := tot_mem (List.mem_of_getElem? h4)
        refine ⟨sorted_set h1 h4 rfl, by show tot (List.set _ _ _) ≤ B; omega, ?_⟩
        show wrap64 ((revSt k.fs k.keep k.bytes i).2.2 - (f.loose - keptN f (revSt k.fs k.keep k.bytes i).2.1)) = (tot (List.set _ _ _) : Int)
        rw [wrap_id (by omega) (by omega)]
        omega
theorem inv_revive (h : InvK k N B M) (hB : B ≤ 1099511627776) (ops room : Int) (keep : List Int) : InvK (reviveK k ops room keep) N B M := by
  obtain ⟨h1, h2, h3⟩ := rev_inv h hB k.fs.length
  exact ⟨h1, fun f hf => (rev_ok h.ok f hf).2, by show (revSt _ _ _ _).1.length ≤ N; rw [rev_len]; exact h.many, h2, h3, Int.le_refl _, by show (0 : Int) ≤ M; omega⟩
theorem ofGo_sorted {acc l r : List Fl} (h : ofGo acc l = some r) (hs : sortedP acc) : sortedP r ∧ tot r = tot acc + tot l := by
  induction l generalizing acc with
  | nil =>
    obtain rfl := Option.some.inj h
    exact ⟨hs, by simp [tot]⟩
  | cons f l ih =>
    unfold ofGo at h
    split at h
    · cases h
    · rename_i hn
      have hn' : findP f.name acc = none := by simpa using hn
      obtain ⟨h1, h2⟩ := ih h (srt_ins hs)
      refine ⟨h1, ?_⟩
      rw [h2, tot_ins hn']
      unfold tot
      simp only [List.map_cons, List.sum_cons]
      omega
theorem sumB_tot {fs : List Fl} (h : tot fs ≤ 1099511627776) : sumB fs = tot fs := by
  have key : ∀ i, i ≤ fs.length → sumB (fs.take i) = tot (fs.take i) := by
    intro i
    induction i with
    | zero => intro _; rfl
    | succ i ih =>
      intro hi
      obtain ⟨f, hf⟩ : ∃ f, fs[i]? = some f := ⟨_, List.getElem?_eq_getElem (by omega)⟩
      have h1 := tot_le (fs := fs) (i + 1)
      have h2 := tot_take hf
      rw [sumB_snoc hf, ih (by omega), wrap_id (by omega) (by omega)]
      omega
  have := key fs.length (Nat.le_refl _)
  rwa [List.take_length] at this
theorem inv_of {fs : List Fl} (h : ofE fs = 0) (ht : tot fs ≤ 1099511627776) (ops room : Int) (keep : List Int) : InvK (ofK fs ops room keep) fs.length (tot fs) 0 := by
  obtain ⟨r, h1, h2, h3, _⟩ := of_ok h
  obtain ⟨h4, h5⟩ := ofGo_sorted h1 List.Pairwise.nil
  have hfs := ofK_fs h1 ops room keep
  have h5' : tot r = tot fs := by rw [h5]; simp [tot]
  exact ⟨by rw [hfs]; exact h4, by rw [hfs]; exact h2, by rw [hfs]; omega, by rw [hfs]; omega, by rw [hfs]; show sumB fs = _; rw [sumB_tot ht]; omega, Int.le_refl _, by show (0 : Int) ≤ _; omega⟩
end
end Go.Proofs.Ytcmjoaepihbodaa
end
section
namespace Go.Proofs.Ytcmjoaepihbodaa
open Go.RowKit Go.BigFrame
attribute [local go_sem ↓] Go.wp_at_zero Go.wp_at_succ
/-- what a call at ref07's disk may write to. -/
def Own (D : Nat → Prop) (base : Nat) (i : Nat) : Prop := D i ∧ base ≤ i
theorem RefV.same {w : World} {base r : Nat} {D : Nat → Prop} {v kv : Value} {k k' : Pk} (h : RefV w base D r v kv k) (h1 : k'.fs = k.fs) (h2 : k'.ops = k.ops) (h3 : k'.room = k.room) (h4 : k'.keep = k.keep) (h5 : k'.done = k.done) (h7 : k'.down = k.down) : RefV w base D r v kv k' :=
  ⟨by rw [h2, h3, h5, h7]; exact h.head, by rw [h1]; exact h.row, by rw [h4]; exact h.keep, h.lo, h.inD, h.rowD⟩
theorem RefV.stay {w : World} {base r : Nat} {D : Nat → Prop} {v kv : Value} {k k' : Pk} (h : RefV w base D r v kv k) (i : Nat) (u : Value) (hf : k'.fs = k.fs) (hk : k'.keep = k.keep)
    (hc : #[v, .int .i64 k'.ops, .int .i64 k'.room, kv, .int .i64 k'.done, .bool k'.down] = (#[v, .int .i64 k.ops, .int .i64 k.room, kv, .int .i64 k.done, .bool k.down] : Array Value).setIfInBounds i u) : RefV (w.setCell ⟨r, i, none⟩ u) base D r v kv k' :=
  h.store h.inD i u (by rw [hf]; exact h.row) (by rw [hk]; exact h.keep) h.rowD hc
/-- the row of files is made anew. -/
theorem RefV.reset {w w3 : World} {base r n : Nat} {D : Nat → Prop} {v v3 kv : Value} {k : Pk} {fs2 : List Fl} (h : RefV w base D r v kv k) (hb : Below w.heap.size w w3) (hn : n ≤ w.heap.size) (hrow : RowF w3 w.heap.size (fun i => (D i ∧ i ≠ r) ∧ i < w.heap.size) v3 fs2) :
    RefV (w3.setCell ⟨r, 0, none⟩ v3) base (orNew D n) r v3 kv { k with fs := fs2 } ∧ Only (orNew (Own D base) n) w (w3.setCell ⟨r, 0, none⟩ v3) := by
  have hlo := h.lo
  have hl := h.ltR
  have hk : IntsIn w3 (fun i => orNew D n i ∧ i ≠ r ∧ v3.ownBlock ≠ some i) kv k.keep := by
    have h1 : IntsIn w (fun i => (D i ∧ i ≠ r) ∧ i < w.heap.size) kv k.keep := h.keep.keepR fun _ _ _ _ hr => hr.monoLt fun i hi hs => ⟨⟨hs.1, hs.2.1⟩, hi⟩
    exact (h1.below hb).mono fun i hi => ⟨.inl hi.1.1, hi.1.2, fun e => by have := (hrow.lt e).1; have := hi.2; omega⟩
  have hr : RowF w3 base (fun i => orNew D n i ∧ i ≠ r ∧ v3.ownBlock ≠ some i) v3 fs2 :=
    (hrow.rebase fun g hg => by have := (hrow.lt hg).1; omega).mono fun i _ hi => ⟨.inl hi.1.1, hi.1.2, fun e => by have := (hrow.lt e).1; have := hi.2; omega⟩
  exact ⟨(h.below hb).store (.inl h.inD) 0 v3 hr hk (fun g hg => .inr (by have := (hrow.lt hg).1; omega)) rfl, (Only.of_below hb).setCell (p := ⟨r, 0, none⟩) (.inl ⟨h.inD, hlo⟩) _⟩
theorem Only.new {F : Nat → Prop} {a b : World} (h : Only (orNew F a.heap.size) a b) : Only F a b := Only.later (Only.refl F a) h
theorem orOwn {D : Nat → Prop} {n g base : Nat} (h : orNew D n g) (hb : base ≤ g) : orNew (Own D base) n g := h.imp (fun h => ⟨h, hb⟩) id
set_option maxRecDepth 100000 in
set_option maxHeartbeats 2000000 in
theorem rchange_any (base : Nat) (D : Nat → Prop) (r : Nat) (v kv : Value) (k : Pk) (w : World) (h : RefV w base D r v kv k) (hd : 0 ≤ k.done) (hd' : k.done < 4611686018427387904) :
    Calls Try.prog 39 #[.pointer (some ⟨r, 0, none⟩)] w fun e w' => e = .returned (.int .i64 (changeE k)) ∧ RefV w' base D r v kv (changeK k) ∧ Only (fun i => i = r) w w' := by
  have H := Lib.hid h
  obtain ⟨c0, c1, c2, c3, c4, c5⟩ := h.cell
  have C1 : ∀ q : Ext w, q.w.cell? { block := r, off := 1 } = _ := fun q => q.h.cell c1
  have C4 : ∀ q : Ext w, q.w.cell? { block := r, off := 4 } = _ := fun q => q.h.cell c4
  clear h
  by_cases h1 : 0 ≤ k.ops
  · by_cases h2 : k.ops ≤ k.done
    · have hc : crashes k = true := by show (decide (0 ≤ k.ops) && decide (k.ops ≤ k.done)) = true; simp [h1, h2]
      have HC := Lib.hid hc
      clear hc
      go_enter Try.func39, Try.ntmps39
      go_wp2
      (refine wp_region_quiet_ext (by kernel_rfl) (by kernel_rfl) ?_; (repeat (go_big_quiet_step (fail))); refine wpQuiet_nil ?_; intro wq hw'; obtain ⟨⟨_, hq⟩, hw''⟩ := hw'; subst hw'')
      have hv := H.out.below hq
      obtain ⟨_, _, _, _, _, x5⟩ := hv.cell
      have x5f := hv.frozen 5
      have HV := Lib.hid hv
      clear hv
      go_wp2
      refine bodyPost_ret (v := .int .i64 20) (by simp [results, Try.results39, go_sem]) rfl ?_
      refine ⟨ret_int (by rw [changeE, if_pos HC.out]), ?_, (Only.of_below (S := fun i => i = r) hq).setCell (p := ⟨r, 5, none⟩) rfl _⟩
      rw [changeK, if_pos HC.out]
      exact HV.out.stay 5 (.bool true) rfl rfl rfl
    · have hc : crashes k = false := by show (decide (0 ≤ k.ops) && decide (k.ops ≤ k.done)) = false; simp [h2]
      have HC := Lib.hid hc
      clear hc
      go_enter Try.func39, Try.ntmps39
      go_wp2
      (refine wp_region_quiet_ext (by kernel_rfl) (by kernel_rfl) ?_; (repeat (go_big_quiet_step (fail))); refine wpQuiet_nil ?_; intro wq hw'; obtain ⟨⟨_, hq⟩, hw''⟩ := hw'; subst hw'')
      have hv := H.out.below hq
      obtain ⟨_, _, _, _, x4, _⟩ := hv.cell
      have x4f := hv.frozen 4
      have HV := Lib.hid hv
      clear hv
      go_wp2
      refine bodyPost_ret (v := .int .i64 0) (by simp [results, Try.results39, go_sem]) rfl ?_
      refine ⟨ret_int (by rw [changeE, if_neg (by rw [HC.out]; simp)]), ?_, (Only.of_below (S := fun i => i = r) hq).setCell (p := ⟨r, 4, none⟩) rfl _⟩
      rw [changeK, if_neg (by rw [HC.out]; simp)]
      exact HV.out.stay 4 (.int .i64 (k.done + 1)) rfl rfl rfl
  · have hc : crashes k = false := by show (decide (0 ≤ k.ops) && decide (k.ops ≤ k.done)) = false; simp [h1]
    have HC := Lib.hid hc
    have g1 : decide (0 ≤ k.ops) = false := decide_eq_false h1
    clear hc h1
    go_enter Try.func39, Try.ntmps39
    go_wp2
    (refine wp_region_quiet_ext (by kernel_rfl) (by kernel_rfl) ?_; (repeat (go_big_quiet_step (fail))); refine wpQuiet_nil ?_; intro wq hw'; obtain ⟨⟨_, hq⟩, hw''⟩ := hw'; subst hw'')
    have hv := H.out.below hq
    obtain ⟨_, _, _, _, x4, _⟩ := hv.cell
    have x4f := hv.frozen 4
    have HV := Lib.hid hv
    clear hv
    go_wp2
    refine bodyPost_ret (v := .int .i64 0) (by simp [results, Try.results39, go_sem]) rfl ?_
    refine ⟨ret_int (by rw [changeE, if_neg (by rw [HC.out]; simp)]), ?_, (Only.of_below (S := fun i => i = r) hq).setCell (p := ⟨r, 4, none⟩) rfl _⟩
    rw [changeK, if_neg (by rw [HC.out]; simp)]
    exact HV.out.stay 4 (.int .i64 (k.done + 1)) rfl rfl rfl
theorem readyE_a (k : Pk) (x : Nm) : readyE k [x, [97]] = readyE k [x] := by
  unfold readyE
  have : ([x, [97]] : List Nm).all nameB = [x].all nameB := by
    simp only [List.all_cons, List.all_nil, Bool.and_true]
    rw [show nameB [97] = true from by decide, Bool.and_true]
  rw [this]
theorem idxI_ready {k : Pk} {x : Nm} : (idxI x k.fs < 0 ↔ findP x k.fs = none) := by
  unfold idxI
  rcases idxP_find (x := x) (fs := k.fs) with ⟨h1, h2⟩ | ⟨i, f, h1, h2, _⟩
  · rw [h1, h2]; simp
  · rw [h1, h2]; simp
set_option maxRecDepth 100000 in
set_option maxHeartbeats 2000000 in
theorem rnamed_any (base : Nat) (D : Nat → Prop) (r : Nat) (v kv : Value) (k : Pk) (x y : Nm) (w : World) (h : RefV w base D r v kv k) (hm : k.fs.length * 48 ≤ 140737488355328) (hx : x.length ≤ 140737488355328) (hy : y.length ≤ 140737488355328) :
    Calls Try.prog 54 #[.pointer (some ⟨r, 0, none⟩), .string ⟨x.toArray⟩, .string ⟨y.toArray⟩] w fun e w' => e = .returned (.int .i64 (readyE k [x, y])) ∧ w = w' := by
  have HF := Lib.hid (h.files hm)
  obtain ⟨c0, c1, c2, c3, c4, c5⟩ := h.cell
  have HX := Lib.hid (rname_any x w hx)
  have HY := Lib.hid (rname_any y w hy)
  have HD := Lib.hid (find_any _ r v k.fs x w c0 HF.out)
  have HI := Lib.hid (idxI_ready (k := k) (x := x))
  obtain ⟨z, hz⟩ : ∃ z, idxI x k.fs = z := ⟨_, rfl⟩
  rw [hz] at HD HI
  clear hz
  obtain ⟨e, he⟩ : ∃ e, readyE k [x, y] = e := ⟨_, rfl⟩
  rw [he]
  unfold readyE at he
  simp only [List.all_cons, List.all_nil, Bool.and_true] at he
  clear h
  cases hdn : k.down with
  | true =>
    rw [hdn] at he c5
    rw [if_pos rfl] at he
    subst he
    go_enter Try.func54, Try.ntmps54
    go_wp2
    refine bodyPost_ret (v := .int .i64 20) (by simp [results, Try.results54, go_sem]) rfl ?_
    exact ⟨rfl, rfl⟩
  | false =>
    rw [hdn] at he c5
    rw [if_neg (by simp)] at he
    cases hnx : nameB x with
    | false =>
      rw [hnx] at he HX
      rw [if_pos (by rfl)] at he
      subst he
      go_enter Try.func54, Try.ntmps54
      go_wp2_with (go_at_call 36; (with_reducible (refine HX.out.mono ?_)); rintro r w1 ⟨rfl, rfl⟩)
      refine bodyPost_ret (v := .int .i64 23) (by simp [results, Try.results54, go_sem]) rfl ?_
      exact ⟨rfl, rfl⟩
    | true =>
      rw [hnx] at he HX
      cases hny : nameB y with
      | false =>
        rw [hny] at he HY
        rw [if_pos (by rfl)] at he
        subst he
        go_enter Try.func54, Try.ntmps54
        go_wp2_with (first
          | (go_at_call 36; (with_reducible (refine HX.out.mono ?_)); rintro r w1 ⟨rfl, rfl⟩)
          | (go_at_call 36; (with_reducible (refine HY.out.mono ?_)); rintro r w1 ⟨rfl, rfl⟩))
        refine bodyPost_ret (v := .int .i64 23) (by simp [results, Try.results54, go_sem]) rfl ?_
        exact ⟨rfl, rfl⟩
      | true =>
        rw [hny] at he HY
        rw [if_neg (by simp)] at he
        by_cases hi : z < 0
        · rw [HI.out.1 hi] at he
          obtain rfl : 22 = e := he
          go_enter Try.func54, Try.ntmps54
          go_wp2_with (first
            | (go_at_call 36; (with_reducible (refine HX.out.mono ?_)); rintro r w1 ⟨rfl, rfl⟩)
            | (go_at_call 36; (with_reducible (refine HY.out.mono ?_)); rintro r w1 ⟨rfl, rfl⟩)
            | (go_at_call 37; refine HD.out.mono ?_; rintro r w1 ⟨rfl, rfl⟩))
          refine bodyPost_ret (v := .int .i64 22) (by simp [results, Try.results54, go_sem]) rfl ?_
          exact ⟨rfl, rfl⟩
        · obtain rfl : 0 = e := by
            rw [← he]
            cases hfd : findP x k.fs with
            | none => exact absurd (HI.out.2 hfd) hi
            | some f => rfl
          clear he
          go_enter Try.func54, Try.ntmps54
          go_wp2_with (first
            | (go_at_call 36; (with_reducible (refine HX.out.mono ?_)); rintro r w1 ⟨rfl, rfl⟩)
            | (go_at_call 36; (with_reducible (refine HY.out.mono ?_)); rintro r w1 ⟨rfl, rfl⟩)
            | (go_at_call 37; refine HD.out.mono ?_; rintro r w1 ⟨rfl, rfl⟩))
          refine bodyPost_ret (v := .int .i64 0) (by simp [results, Try.results54, go_sem]) rfl ?_
          exact ⟨rfl, rfl⟩
end Go.Proofs.Ytcmjoaepihbodaa
end
