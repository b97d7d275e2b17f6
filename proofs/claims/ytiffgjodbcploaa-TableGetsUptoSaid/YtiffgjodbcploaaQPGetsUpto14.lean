/-
table.from.
-/
import Derived.Test.YtiffgjodbcploaaQPGetsUpto13
import Derived.Test.YtiffgjodbcploaaQPGetsUpto6
section
namespace Go.Proofs.Ytiffgjodbcploaa
open Go.RowKit Go.BigFrame Go.Shelf
/-- the entries whose keys are not below one. -/
def fromQ (lo : List UInt8) (e : Ent) : Bool := decide (0 ≤ cmpB e.key lo)
def fromE (lo : List UInt8) (es : List Ent) : List Ent := es.filter (fromQ lo)
/-- what lies ahead of an entry below lo is below it. -/
theorem from_none {lo : List UInt8} {es : List Ent} {ps : List (List Ent)} {s : Nat} {p : List Ent} {e : Ent} (hall : ps.flatten = es) (hpw : es.Pairwise before) (hp : ps[s]? = some p) (he : p[0]? = some e) (hb : cmpB e.key lo < 0) : ((ps.take s).flatten).filter (fromQ lo) = [] := by
  have hl := (List.getElem?_eq_some_iff.1 hp).1
  have e1 : es = (ps.take s).flatten ++ (p ++ (ps.drop (s + 1)).flatten) := by
    rw [← hall]
    conv => lhs; rw [← List.take_append_drop s ps, List.drop_eq_getElem_cons hl, (List.getElem?_eq_some_iff.1 hp).2]
    simp
  rw [e1] at hpw
  have h2 := (List.pairwise_append.1 hpw).2.2
  refine List.filter_eq_nil_iff.2 fun a ha => ?_
  have h3 := h2 a ha e (List.mem_append_left _ (List.mem_of_getElem? he))
  have h4 : cmpB a.key lo < 0 := by
    unfold before cmpE at h3
    split at h3
    · rename_i h0
      rw [cmpB_eq.1 h0]
      exact hb
    · exact cmpB_trans h3 hb
  unfold fromQ
  simp
  omega
theorem from_rest {lo : List UInt8} {es : List Ent} {ps : List (List Ent)} {m j : Nat} {p : List Ent} {e : Ent} (hall : ps.flatten = es) (hp : ps[m]? = some p) (he : p[j]? = some e) (hq : fromQ lo e = true) :
    ∃ rest, (((ps.take m).flatten ++ p.take j).filter (fromQ lo)) ++ e :: rest = fromE lo es := by
  have hl := (List.getElem?_eq_some_iff.1 hp).1
  have hj := (List.getElem?_eq_some_iff.1 he).1
  have e1 : es = ((ps.take m).flatten ++ p.take j) ++ e :: (p.drop (j + 1) ++ (ps.drop (m + 1)).flatten) := by
    rw [← hall]
    conv => lhs; rw [← List.take_append_drop m ps, List.drop_eq_getElem_cons hl, (List.getElem?_eq_some_iff.1 hp).2]
    have e2 : p = p.take j ++ e :: p.drop (j + 1) := by
      conv => lhs; rw [← List.take_append_drop j p, List.drop_eq_getElem_cons hj, (List.getElem?_eq_some_iff.1 he).2]
    rw [List.flatten_append, List.flatten_cons]
    conv => lhs; rw [e2]
    simp
  refine ⟨(p.drop (j + 1) ++ (ps.drop (m + 1)).flatten).filter (fromQ lo), ?_⟩
  unfold fromE
  conv => rhs; rw [e1]
  rw [List.filter_append (l₂ := e :: _), List.filter_cons_of_pos hq]
/-- an opened table, all of it in blocks of S. -/
def TabS (w : World) (S : Nat → Prop) (Tb N : Nat) (es : List Ent) (ps : List (List Ent)) : Prop :=
  ∃ b o n c gp pc A ll lc ys, w.heap[Tb]? = some (.cells #[.slice (some ⟨b, o, none⟩) n c, .slice (some ⟨gp, 0, none⟩) ps.length pc, .int .i64 N, .slice A ll lc] 74 (0, 0)) ∧ n = (fileF N ps).length ∧ Byt w S (.slice (some ⟨b, o, none⟩) n c) (fileF N ps) ∧
    w.ownsRow 0 71 5 (.slice (some ⟨gp, 0, none⟩) ps.length pc) ps.length ys ∧
    (∀ (i : Nat) (p : List Ent) (e : Ent), ps[i]? = some p → p[0]? = some e → ys[5 * i]? = some (.int .i64 (offF N ps i : Nat)) ∧ ∃ k, ys[5 * i + 1]? = some k ∧ Byt w S k e.key) ∧ (∀ e, es[N - 1]? = some e → Byt w S (.slice A ll lc) e.key) ∧ S Tb ∧ S gp
theorem BytL.byt' {w : World} {lo : Nat} {v : Value} {bs : List UInt8} (h : BytL w lo v bs) : Byt w (fun i => lo ≤ i ∧ Loose w i) v bs := h
theorem own_rebase' {w : World} {base base' n size : Nat} {v : Value} {e : TypeId} {xs : List Value} (h : w.ownsRow base e size v n xs) (hb : base' ≤ base) : w.ownsRow base' e size v n xs := by
  obtain ⟨h1, h2⟩ := h
  refine ⟨h1, h2.imp id ?_⟩
  rintro ⟨g, cap, cur, e, h3, h4⟩
  exact ⟨g, cap, cur, e, Nat.le_trans hb h3, h4⟩
theorem TabV.set {w : World} {lo Tb N : Nat} {es : List Ent} {ps : List (List Ent)} (h : TabV w lo Tb N es ps) (hps : 0 < ps.length) : TabS w (fun i => lo ≤ i ∧ i < w.heap.size) Tb N es ps := by
  obtain ⟨b, o, n, c, gp, pc, A, ll, lc, ys, h1, h2, h3, h4, h5, h6, h7⟩ := h
  have hg : lo ≤ gp ∧ gp < w.heap.size := by
    obtain ⟨g, c, e, a1, a2, _⟩ := own_pos h4 hps
    simp only [Value.slice.injEq, Option.some.injEq, Addr.mk.injEq] at e
    obtain ⟨⟨rfl, _⟩, _⟩ := e
    exact ⟨a1, a2⟩
  refine ⟨b, o, n, c, gp, pc, A, ll, lc, ys, h1, h2, h3.byt'.mono fun i hi => ⟨hi.1, hi.2.lt⟩, own_rebase' h4 (Nat.zero_le _), fun i p e hp he => ?_, fun e he => (h6 e he).byt'.mono fun i hi => ⟨hi.1, hi.2.lt⟩, ⟨h7, (Array.getElem?_eq_some_iff.1 h1).1⟩, hg⟩
  obtain ⟨a1, k, a2, a3⟩ := h5 i p e (List.getElem?_eq_some_iff.1 hp).1 hp he
  exact ⟨a1, k, a2, a3.byt'.mono fun i hi => ⟨hi.1, hi.2.lt⟩⟩
theorem TabS.only {w w' : World} {S T : Nat → Prop} {Tb N : Nat} {es : List Ent} {ps : List (List Ent)} (h : TabS w S Tb N es ps) (ho : Only T w w') (hd : ∀ i, S i → ¬ T i) : TabS w' S Tb N es ps := by
  obtain ⟨b, o, n, c, gp, pc, A, ll, lc, ys, h1, h2, h3, h4, h5, h6, h7, h8⟩ := h
  refine ⟨b, o, n, c, gp, pc, A, ll, lc, ys, (ho.block Tb (Array.getElem?_eq_some_iff.1 h1).1 (hd _ h7)).trans h1, h2, h3.only ho fun i _ hi => hd i hi, own_only h4 ho fun g hg => ?_, fun i p e hp he => ?_, fun e he => (h6 e he).only ho fun i _ hi => hd i hi, h7, h8⟩
  · simp [Value.ownBlock] at hg
    subst hg
    exact hd _ h8
  · obtain ⟨a1, k, a2, a3⟩ := h5 i p e hp he
    exact ⟨a1, k, a2, a3.only ho fun i _ hi => hd i hi⟩
theorem TabS.fr {w w' : World} {S : Nat → Prop} {Tb N : Nat} {es : List Ent} {ps : List (List Ent)} (h : TabS w S Tb N es ps) (hf : fr w w') : TabS w' S Tb N es ps := h.only (T := fun _ => False) (Only.of_below hf) fun _ _ h => h
theorem TabS.cell {w : World} {S : Nat → Prop} {Tb N : Nat} {es : List Ent} {ps : List (List Ent)} (h : TabS w S Tb N es ps) : ∃ b o n c gp pc, w.cell? ⟨Tb, 0, none⟩ = some (.slice (some ⟨b, o, none⟩) n c) ∧ w.cell? ⟨Tb, 1, none⟩ = some (.slice (some ⟨gp, 0, none⟩) ps.length pc) ∧ n = (fileF N ps).length ∧ Byt w S (.slice (some ⟨b, o, none⟩) n c) (fileF N ps) ∧
    (∀ (i : Nat) (p : List Ent) (e : Ent), ps[i]? = some p → p[0]? = some e → w.cell? ⟨gp, i * 5, none⟩ = some (.int .i64 (offF N ps i : Nat)) ∧ ∃ k, w.cell? ⟨gp, i * 5 + 1, none⟩ = some k ∧ Byt w S k e.key) ∧ w.heap.size > Tb := by
  obtain ⟨b, o, n, c, gp, pc, A, ll, lc, ys, h1, h2, h3, h4, h5, h6, h7, h8⟩ := h
  have hc : ∀ (i : Nat) (u : Value), ys[i]? = some u → w.cell? ⟨gp, i, none⟩ = some u := fun i u hu => by
    have h := h4.cells (g := gp) rfl i u hu
    rwa [Addr.add_lit, Nat.zero_add] at h
  refine ⟨b, o, n, c, gp, pc, cell_of_row w Tb 0 _ _ _ h1, cell_of_row w Tb 1 _ _ _ h1, h2, h3, fun i p e hp he => ?_, (Array.getElem?_eq_some_iff.1 h1).1⟩
  obtain ⟨a1, k, a2, a3⟩ := h5 i p e hp he
  rw [Nat.mul_comm i 5]
  exact ⟨hc _ _ a1, k, hc _ _ a2, a3⟩
/-- an entry handed over: its bytes are new, and in none of the round's blocks; it is the next one. -/
def OkF (lo : Nat) (fs : List Ent) (pre : List (Value × Ent)) (T : Nat → Prop) (x : Value × Ent) (W : World) : Prop :=
  (∃ k u, x.1 = .agg #[k, .int .i64 x.2.seq, .bool x.2.dead, u] ∧ Byt W (fun i => (lo ≤ i ∧ ¬ T i) ∧ Loose W i) k x.2.key ∧ Byt W (fun i => (lo ≤ i ∧ ¬ T i) ∧ Loose W i) u x.2.val) ∧ ∃ rest, pre.map Prod.snd ++ x.2 :: rest = fs
theorem OkF.anti {lo : Nat} {fs : List Ent} {pre : List (Value × Ent)} {T T' : Nat → Prop} {x : Value × Ent} {W : World} (h : OkF lo fs pre T x W) (hT : ∀ i, T' i → T i) : OkF lo fs pre T' x W := by
  obtain ⟨⟨k, u, e, h1, h2⟩, h3⟩ := h
  exact ⟨⟨k, u, e, h1.mono fun i hi => ⟨⟨hi.1.1, fun h => hi.1.2 (hT i h)⟩, hi.2⟩, h2.mono fun i hi => ⟨⟨hi.1.1, fun h => hi.1.2 (hT i h)⟩, hi.2⟩⟩, h3⟩
end Go.Proofs.Ytiffgjodbcploaa
end
section
namespace Go.Proofs.Ytiffgjodbcploaa
open Go.RowKit Go.BigFrame Go.Shelf
attribute [local go_sem ↓] Go.wp_at_zero Go.wp_at_succ
/-- what table.from stands on. -/
structure FromK (w : World) (B Tb N lk lc : Nat) (A : Option Addr) (S0 S1 : Nat → Prop) (lo : List UInt8) (es : List Ent) (ps : List (List Ent)) : Prop where
  b1 : Boxed w B 28 (.pointer (some ⟨Tb, 0, none⟩))
  b2 : Boxed w (B + 1) 23 (.slice A lk lc)
  key : Byt w S1 (.slice A lk lc) lo
  tab : TabS w S0 Tb N es ps
section
variable {w w' : World} {B Tb N lk lc : Nat} {A : Option Addr} {S0 S1 : Nat → Prop} {lo : List UInt8} {es : List Ent} {ps : List (List Ent)}
theorem FromK.only {T : Nat → Prop} (h : FromK w B Tb N lk lc A S0 S1 lo es ps) (ho : Only T w w') (hT : ∀ i, T i → ¬ (i = B ∨ i = B + 1 ∨ S0 i ∨ S1 i)) : FromK w' B Tb N lk lc A S0 S1 lo es ps :=
  ⟨boxedOnly h.b1 ho fun t => hT _ t (.inl rfl), boxedOnly h.b2 ho fun t => hT _ t (.inr (.inl rfl)), h.key.only ho fun i _ hi t => hT i t (.inr (.inr (.inr hi))), h.tab.only ho fun i hi t => hT i t (.inr (.inr (.inl hi)))⟩
theorem FromK.fr (h : FromK w B Tb N lk lc A S0 S1 lo es ps) (hf : fr w w') : FromK w' B Tb N lk lc A S0 S1 lo es ps := h.only (T := fun _ => False) (Only.of_below hf) fun _ h => h.elim
end
theorem only_upd (w : World) (M : Nat) (o : Obj) : Only (fun i => i = M) w (upd w M o) := ⟨rfl, rfl, rfl, by simp, fun i _ hn => World.putObj_heap_other (o := o) (w := w) hn⟩
set_option maxRecDepth 100000 in
set_option maxHeartbeats 1000000 in
theorem tfrom_any (Tb lk lc : Nat) (A : Option Addr) (w : World) :
    Calls Try.prog 26 #[.pointer (some ⟨Tb, 0, none⟩), .slice A lk lc] w fun r w' => r = .returned (.func (.func 46) #[] #[.pointer (some ⟨w.heap.size, 0, none⟩), .pointer (some ⟨w.heap.size + 1, 0, none⟩)]) ∧ Boxed w' w.heap.size 28 (.pointer (some ⟨Tb, 0, none⟩)) ∧ Boxed w' (w.heap.size + 1) 23 (.slice A lk lc) ∧ fr w w' ∧ w'.heap.size = w.heap.size + 2 := by
  have p2 := Boxed.new (w.alloc (.cells #[.pointer (some ⟨Tb, 0, none⟩)] 28)) 23 (.slice A lk lc)
  have p1 := (Boxed.new w 28 (.pointer (some ⟨Tb, 0, none⟩))).alloc (.cells #[.slice A lk lc] 23)
  have hf : fr w ((w.alloc (.cells #[.pointer (some ⟨Tb, 0, none⟩)] 28)).alloc (.cells #[.slice A lk lc] 23)) := fr.alloc (fr.alloc fr.refl _) _
  rw [World.size_alloc] at p2
  have P1 := Lib.hid p1
  have P2 := Lib.hid p2
  have HF := Lib.hid hf
  clear p1 p2 hf
  go_enter Try.func26, Try.ntmps26
  go_wp2
  go_ret
  exact ⟨rfl, P1.out, P2.out, HF.out, by simp⟩
set_option maxRecDepth 100000 in
set_option maxHeartbeats 4000000 in
theorem from_tells (nn : Nat) (w : World) (B Tb N lk lc : Nat) (A : Option Addr) (S0 S1 : Nat → Prop) (lo : List UInt8) (es : List Ent) (ps : List (List Ent)) (hK : FromK w B Tb N lk lc A S0 S1 lo es ps) (hpo : PartsOk es ps) (hN : es.length = N) (hN0 : 0 < N) (hN2 : N ≤ 16777216) (_hB2 : bytesE es ≤ 16777216) (hord : orderedE es = true) (hS : ∀ i, S0 i ∨ S1 i → i < w.heap.size) :
    Tells Fence.wide nn Try.prog 46 #[.pointer (some ⟨B, 0, none⟩), .pointer (some ⟨B + 1, 0, none⟩)] (fun x : Value × Ent => #[x.1, .int .i64 0]) (fun pre T x A => OkF w.heap.size (fromE lo es) pre T x A)
      (fun xs _ => xs.map Prod.snd = fromE lo es) (fun _ _ => True) (fun i => i = B ∨ i = B + 1 ∨ S0 i ∨ S1 i) (fun _ => False) w := by
  intro l J Jx T0 W hW hT0 hJ hJx hJT hY h0
  refine callsIn_wide.2 ?_
  obtain ⟨hgl, hpw⟩ := (ordered_iff es).1 hord
  have hfle := fileF_le hpo
  rw [hN] at hfle
  have HJ := Lib.hid hJ
  have HJT := Lib.hid hJT
  have HY := Lib.hid hY
  have HT0 := Lib.hid hT0
  have HPO := Lib.hid hpo
  have HGL := Lib.hid hgl
  have HPW := Lib.hid hpw
  have HN := Lib.hid hN
  have HS := Lib.hid (show ∀ i, (i = B ∨ i = B + 1 ∨ S0 i ∨ S1 i) → i < W.heap.size by
    have h1 := hK.b1.lt
    have h2 := hK.b2.lt
    have h3 := hW.size
    rintro i (rfl | rfl | h | h)
    · omega
    · omega
    · have := hS i (.inl h); omega
    · have := hS i (.inr h); omega)
  have HWZ := Lib.hid hW.size
  have HJ0 := Lib.hid h0
  have HK := Lib.hid (hK.fr hW)
  obtain ⟨np, hnp⟩ : ∃ q, ps.length = q := ⟨_, rfl⟩
  have HNP := Lib.hid hnp
  have hnpN : np ≤ 16777216 := by
    have h1 := HPO.out.all
    have h2 : ps.length ≤ ps.flatten.length := by
      have h3 : ∀ l : List (List Ent), (∀ p ∈ l, 0 < p.length) → l.length ≤ l.flatten.length := fun l => by
        induction l with
        | nil => intro _; simp
        | cons a l ih =>
          intro h
          have h4 := ih fun p hp => h p (by simp [hp])
          have h5 := h a (by simp)
          simp only [List.length_cons, List.flatten_cons, List.length_append]
          omega
      exact h3 ps fun p hp => (HPO.out.part p hp).1
    rw [h1] at h2
    omega
  obtain ⟨b, o, n, c, gp, pc, c0, c1, hn, hbyt, hpc, hTlt⟩ := HK.out.tab.cell
  have HX1 := Lib.hid hgl
  have HF1 : Hid (fr W (W.alloc (.map #[] 0))) := Lib.hid (fr.alloc fr.refl _)
  have HK1 : Hid (FromK (W.alloc (.map #[] 0)) B Tb N lk lc A S0 S1 lo es ps) := Lib.hid (HK.out.fr HF1.out)
  have HM1 : Hid ((W.alloc (.map #[] 0)).heap[W.heap.size]? = some (.map #[] 0)) := Lib.hid (heap_alloc_new W _)
  have hcell1 := HK1.out.b1.cell
  obtain ⟨b', o', n', c', gp', pc', d0, d1, _, _, _, _⟩ := HK1.out.tab.cell
  rw [hnp] at d1
  have HSE : Hid (Calls Try.prog 47 #[.int .i64 np, .func (.func 48) #[] #[.pointer (some ⟨B, 0, none⟩), .pointer (some ⟨B + 1, 0, none⟩)]] (W.alloc (.map #[] 0)) fun r w' => ∃ k : Nat, k ≤ np ∧ r = .returned (.int .i64 k) ∧ (0 < k → ∃ p e, ps[k - 1]? = some p ∧ p[0]? = some e ∧ cmpB e.key lo < 0) ∧ fr (W.alloc (.map #[] 0)) w') := Lib.hid (by
    refine (search_any 48 _ np (fun i => decide (0 ≤ cmpB (((ps.getD i []).getD 0 ⟨[], 0, false, []⟩).key) lo)) _ (by intro args w; rfl) (by omega) fun W' i hi hf => ?_).mono ?_
    · have hKx := HK1.out.fr hf
      obtain ⟨b, o, n, c, gp, pc, c0, c1, hn, hbyt, hpc, _⟩ := hKx.tab.cell
      obtain ⟨p, hp⟩ : ∃ p, ps[i]? = some p := ⟨_, List.getElem?_eq_getElem (by omega)⟩
      obtain ⟨e, he⟩ : ∃ e, p[0]? = some e := ⟨_, List.getElem?_eq_getElem (HPO.out.part p (List.mem_of_getElem? hp)).1⟩
      obtain ⟨_, k, hk1, hk2⟩ := hpc i p e hp he
      obtain ⟨Ak, ck, rfl⟩ := slice_form hk2
      have e1 : ((ps.getD i []).getD 0 ⟨[], 0, false, []⟩) = e := by simp [List.getD, hp, he]
      rw [e1]
      rw [hnp] at c1
      exact least_any _ _ B (B + 1) Tb gp pc np i lc .nilIface .nilIface .nilIface A lk _ ck _ Ak lo e.key W' hKx.b1.cell hKx.b2.cell hKx.key c1 hi (by omega) hk1 hk2
    · rintro r w' ⟨k, hk, rfl, hp, hf⟩
      refine ⟨k, hk, rfl, fun h => ?_, hf⟩
      obtain ⟨p, hp'⟩ : ∃ p, ps[k - 1]? = some p := ⟨_, List.getElem?_eq_getElem (by omega)⟩
      obtain ⟨e, he⟩ : ∃ e, p[0]? = some e := ⟨_, List.getElem?_eq_getElem (HPO.out.part p (List.mem_of_getElem? hp')).1⟩
      have := hp h
      have e1 : ((ps.getD (k - 1) []).getD 0 ⟨[], 0, false, []⟩) = e := by simp [List.getD, hp', he]
      rw [e1] at this
      exact ⟨p, e, hp', he, by simpa using this⟩)
  clear hJ hJx hJT hY hT0 hW h0 hK hpo hgl hpw hN hS hnp hbyt hpc hTlt c0 c1 hn hord d0
  go_enter Try.func46, Try.ntmps46
  have hmk : (Instr.makeMap 97 none).run Try.prog W = .ok (.map (some W.heap.size)) (W.alloc (.map #[] 0)) := rfl
  go_upto_region 2 with (first | (rw [hmk]; simp only [Result.andThen_ok]) | (go_at_call 47; refine HSE.out.mono ?_; rintro r w1 ⟨k, hk, rfl, hkp, f1⟩))
  obtain ⟨s, hs⟩ : ∃ s, k - 1 = s := ⟨_, rfl⟩
  have hmx : max ((k : Int) - 1) 0 = (s : Int) := by omega
  have hs0 : ((ps.take s).flatten).filter (fromQ lo) = [] := by
    rcases Nat.eq_zero_or_pos k with h | h
    · obtain rfl : s = 0 := by omega
      simp
    · obtain ⟨p, e, hp, he, hb⟩ := hkp h
      rw [hs] at hp
      exact from_none HPO.out.all HPW.out hp he hb
  have hsnp : s ≤ np := by omega
  have HS0 := Lib.hid hs0
  have HK2 := Lib.hid (HK1.out.fr f1)
  have HM2 := Lib.hid (fr.hp f1 HM1.out)
  have HJ2 : Hid (J [] T0 w1) := Lib.hid (HJ.out _ _ _ _ HJ0.out (Idle.of_below (fr.step HF1.out f1)))
  have hz1 := Below.size f1
  obtain ⟨M, hM⟩ : ∃ M, W.heap.size = M := ⟨_, rfl⟩
  have hMlt : M < w1.heap.size := by rw [World.size_alloc] at hz1; omega
  rw [hM] at HM2 ⊢
  have HM := Lib.hid hM
  have hTM0 : ∀ i, T0 i → ¬ (i = B ∨ i = B + 1 ∨ S0 i ∨ S1 i) ∧ i < M := fun i hi => ⟨HT0.out i hi, by rw [← hM]; exact HJT.out _ _ _ i HJ0.out hi⟩
  have HTM0 := Lib.hid hTM0
  clear hs0 hkp f1 HK1 HM1 HJ0 HF1 HK HSE hcell1 d1 hz1 hM hTM0
  go_wp2
  go_loopw [5] (fun x wr => ∃ (m c : Nat) (T : Nat → Prop) (pre : List (Value × Ent)), x = .int .i64 m ∧ m ≤ np ∧ pre.map Prod.snd = ((ps.take m).flatten).filter (fromQ lo) ∧ FromK wr B Tb N lk lc A S0 S1 lo es ps ∧ wr.heap[M]? = some (.map #[] c) ∧ J pre T wr ∧ (∀ i, T i → ¬ (i = B ∨ i = B + 1 ∨ S0 i ∨ S1 i) ∧ i ≠ M)) (fun x _ => np - (intOf x).toNat)
  case atStart => exact ⟨s, 0, T0, [], by first | rfl | rw [hmx], hsnp, HS0.out.symm, HK2.out, HM2.out, HJ2.out, fun i hi => ⟨(HTM0.out i hi).1, by have := (HTM0.out i hi).2; omega⟩⟩
  case round =>
    clear HS0 HK2 HM2 HJ2 HTM0
    obtain ⟨m, c, T, pre, rfl, hm, hpre, hK, hMb, hj, hT⟩ := hrel
    obtain ⟨w0, hw0⟩ : ∃ x, x = wr := ⟨_, rfl⟩
    subst hw0
    obtain ⟨b, o, n, cb, gp, pc, c0, c1, hn, hbyt, hpc, hTlt⟩ := hK.tab.cell
    rw [HNP.out] at c1
    have k1 := hK.b1.cell
    have k2 := hK.b2.cell
    have HPRE := Lib.hid hpre
    have HKR := Lib.hid hK
    have HMB := Lib.hid hMb
    have HJR := Lib.hid hj
    have HTR := Lib.hid hT
    have HBY := Lib.hid hbyt
    have HPC := Lib.hid hpc
    have HFN := Lib.hid hn
    have HTL := Lib.hid hTlt
    clear hpre hK hMb hj hT hbyt hpc hn hTlt
    by_cases hmp : m < np
    · obtain ⟨p, hp⟩ : ∃ p, ps[m]? = some p := ⟨_, List.getElem?_eq_getElem (by rw [HNP.out]; exact hmp)⟩
      obtain ⟨hp0, hp1, hp2⟩ := HPO.out.part p (List.mem_of_getElem? hp)
      obtain ⟨hat, hoff⟩ := offF_at (n := N) hp
      obtain ⟨q, hq⟩ : ∃ q, offF N ps m = q := ⟨_, rfl⟩
      have hqn := offF_le N ps m
      rw [← HFN.out, hq] at hqn
      rw [hq] at hat hoff
      have hpg : GoodL p := fun e he => HGL.out e (by rw [← HPO.out.all]; exact List.mem_flatten.2 ⟨p, List.mem_of_getElem? hp, he⟩)
      obtain ⟨e0, he0⟩ : ∃ e, p[0]? = some e := ⟨_, List.getElem?_eq_getElem hp0⟩
      obtain ⟨g0, _⟩ := HPC.out m p e0 hp he0
      rw [hq] at g0
      obtain ⟨nj, hnj⟩ : ∃ q, p.length = q := ⟨_, rfl⟩
      have HNJ := Lib.hid hnj
      have HP := Lib.hid hp
      obtain ⟨w2, hw2⟩ : ∃ x, w0.alloc (.cells #[.int .i64 m, .int .i64 q] 101) = x := ⟨_, rfl⟩
      have F2 : fr w0 w2 := by rw [← hw2]; exact fr.alloc fr.refl _
      have HF2 := Lib.hid F2
      have hz2 : w2.heap.size = w0.heap.size + 1 := by rw [← hw2]; simp
      have HRD : Hid (Calls Try.prog 49 #[.pointer (some ⟨Tb, 0, none⟩), .int .i64 q] w2 fun r w' => ∃ (v : Value) (ys : List Value) (T : Nat → Prop), r = .returned (.tuple #[v, .int .i64 (q + (partF p).length : Nat), .bool true]) ∧ w'.ownsRow w2.heap.size 34 4 v nj ys ∧ EntCells w' (fun i => (w2.heap.size ≤ i ∧ ¬ T i) ∧ Loose w' i) ys p ∧ (∀ g, v.ownBlock = some g → T g) ∧ fr w2 w') := Lib.hid (by
        rw [← hnj]
        exact tread_any S0 Tb b o n cb q (fileF N ps) _ p w2 (F2.cell c0) (HBY.out.below F2) HFN.out.symm (by omega) hat hp0 hp1 hp2 hpg)
      obtain ⟨q2, hq2⟩ : ∃ x, q + (partF p).length = x := ⟨_, rfl⟩
      rw [hq2] at HRD
      have b0 : w2.cell? ⟨w0.heap.size, 0, none⟩ = some (.int .i64 m) := by rw [← hw2]; exact cell_of_row _ _ 0 _ _ _ (heap_alloc_new w0 _)
      have b1 : w2.cell? ⟨w0.heap.size, 1, none⟩ = some (.int .i64 q) := by rw [← hw2]; exact cell_of_row _ _ 1 _ _ _ (heap_alloc_new w0 _)
      have hTlt0 : ∀ i, T i → i < w0.heap.size := fun i hi => HJT.out _ _ _ i HJR.out hi
      have HT0' := Lib.hid hTlt0
      have hM0 := (Array.getElem?_eq_some_iff.1 HMB.out).1
      have k1' := F2.cell k1
      rw [hnj] at hp0 hp1
      have HW2 := Lib.hid hw2
      clear hat hoff hpg he0 hnj hp F2 hq2 hp2 hTlt0 hq
      go_upto_region 7 with (first | rw [HW2.out] | (go_at_call 49; refine HRD.out.mono ?_; rintro r w3 ⟨v, yl, T2, rfl, hrl, hel, hTl, f3⟩; obtain ⟨gl, cl, rfl⟩ : ∃ g cap, v = .slice (some ⟨g, 0, none⟩) nj cap := by (have h := hrl; rw [show nj = (nj - 1) + 1 by omega] at h ⊢; exact ownsRow_succ h)))
      have F3 := fr.step HF2.out f3
      have hz3 := Below.size f3
      have hb3 : w3.heap[M]? = some (.map #[] c) := fr.hp F3 HMB.out
      have hput := map_put m q M c (.slice (some ⟨gl, 0, none⟩) nj cl) w3 hb3
      obtain ⟨w4, hw4⟩ : ∃ x, upd w3 M (.map #[{ key := pkey m q, val := .slice (some ⟨gl, 0, none⟩) nj cl, born := c }] (c + 1)) = x := ⟨_, rfl⟩
      rw [hw4] at hput
      have O4 : Only (fun i => i = M) w3 w4 := by rw [← hw4]; exact only_upd _ _ _
      have hM3 := (Array.getElem?_eq_some_iff.1 hb3).1
      have hb4 : w4.heap[M]? = some (.map #[{ key := pkey m q, val := .slice (some ⟨gl, 0, none⟩) nj cl, born := c }] (c + 1)) := by rw [← hw4]; exact World.putObj_heap_same hM3
      have hget := map_get m q M c (c + 1) (.slice (some ⟨gl, 0, none⟩) nj cl) w4 hb4
      have hz4 := O4.size
      have hne : ¬ w0.heap.size = M := by omega
      have d0 := O4.cell' (f3.cell b0) hne
      have d1 := O4.cell' (f3.cell b1) hne
      have e0 := f3.cell b0
      have e1 := f3.cell b1
      have hgl : w2.heap.size ≤ gl ∧ gl < w3.heap.size := by
        obtain ⟨g, c, e, a1, a2, _⟩ := own_pos hrl hp0
        simp only [Value.slice.injEq, Option.some.injEq, Addr.mk.injEq] at e
        obtain ⟨⟨rfl, _⟩, _⟩ := e
        exact ⟨a1, a2⟩
      obtain ⟨hgl1, hgl2⟩ := hgl
      have HLC : Hid (∀ i u, yl[i]? = some u → w4.cell? ⟨gl, i, none⟩ = some u) := Lib.hid fun i u hu => by
        have h := hrl.cells (g := gl) rfl i u hu
        rw [Addr.add_lit, Nat.zero_add] at h
        exact O4.cell' h (by show ¬ gl = M; omega)
      have HEL : Hid (EntCells w4 (fun i => (w2.heap.size ≤ i ∧ i < w3.heap.size) ∧ Loose w4 i) yl p) := Lib.hid (EntCells.imp hel fun v bs h => Byt.looseOnly (R := fun i => w2.heap.size ≤ i ∧ i < w3.heap.size) (h.mono fun i hi => ⟨⟨hi.1.1, hi.2.lt⟩, hi.2⟩) O4 fun i hi e => by omega)
      have HK4 : Hid (FromK w4 B Tb N lk lc A S0 S1 lo es ps) := Lib.hid ((HKR.out.fr F3).only O4 fun i hi h => by
        have h1 := HS.out i h
        have h2 := HM.out
        omega)
      have HJ4 : Hid (J pre T w4) := Lib.hid (HJ.out _ _ _ _ (HJ.out _ _ _ _ HJR.out (Idle.of_below F3)) (by rw [← hw4]; exact Idle.putObj (by have := HM.out; omega) hb3 rfl))
      have HB4 := Lib.hid hb4
      have hput' : (Instr.mapUpdate 97 (.map (some M)) (.agg #[.int .i64 m, .int .i64 q]) (.slice (some ⟨gl, 0, none⟩) nj cl)).run Try.prog w3 = .ok () w4 := hput
      have hget' : (Instr.lookup 97 (.map (some M)) (.agg #[.int .i64 m, .int .i64 q]) false).run Try.prog w4 = .ok (.slice (some ⟨gl, 0, none⟩) nj cl) w4 := hget
      clear hrl hel hTl f3 F3 hb3 hput hget hw4 O4 hb4 c0 c1 k1 k2 b0 b1 k1' g0 HRD
      go_wp2_with (first | (rw [hput']; simp only [Result.andThen_ok]) | (rw [hget']; simp only [Result.andThen_ok]))
      go_loopw [62] (fun t wx => ∃ (j : Nat) (T' : Nat → Prop) (pre' : List (Value × Ent)), t = .int .i64 j ∧ j ≤ nj ∧ pre'.map Prod.snd = ((ps.take m).flatten ++ p.take j).filter (fromQ lo) ∧ Only T w4 wx ∧ J pre' T' wx ∧ (∀ i, T' i → T i ∨ w4.heap.size ≤ i)) (fun t _ => nj - (intOf t).toNat)
      case atStart => exact ⟨0, T, pre, rfl, Nat.zero_le _, by rw [HPRE.out]; simp, Only.refl _ _, HJ4.out, fun i hi => .inl hi⟩
      case round =>
        clear HJ4
        obtain ⟨j, T', pre', rfl, hj, hpre', hox, hjx, hT'⟩ := hrel
        obtain ⟨w5, hw5⟩ : ∃ x, x = wr := ⟨_, rfl⟩
        subst hw5
        have hz5 := hox.size
        have nT : ∀ i, w0.heap.size ≤ i → ¬ T i := fun i hi h => by have := HT0'.out i h; omega
        have HK5 := Lib.hid (HK4.out.only hox fun i hi => (HTR.out i hi).1)
        have HCL : Hid (∀ i u, yl[i]? = some u → w5.cell? ⟨gl, i, none⟩ = some u) := Lib.hid fun i u hu => hox.cell' (HLC.out i u hu) (nT gl (by omega))
        have HEL5 : Hid (EntCells w5 (fun i => (w2.heap.size ≤ i ∧ i < w3.heap.size) ∧ Loose w5 i) yl p) := Lib.hid (EntCells.imp HEL.out fun v bs h => Byt.looseOnly h hox fun i hi => nT i (by omega))
        have d0' := hox.cell' d0 (nT _ (Nat.le_refl _))
        have d1' := hox.cell' d1 (nT _ (Nat.le_refl _))
        have HB5 : Hid (w5.heap[M]? = some (.map #[{ key := pkey m q, val := .slice (some ⟨gl, 0, none⟩) nj cl, born := c }] (c + 1))) := Lib.hid ((hox.block M (Array.getElem?_eq_some_iff.1 HB4.out).1 fun h => (HTR.out M h).2 rfl).trans HB4.out)
        have HPRE' := Lib.hid hpre'
        have HOX := Lib.hid hox
        have HJX' := Lib.hid hjx
        have HT' := Lib.hid hT'
        have HNT := Lib.hid nT
        clear hpre' hox hjx hT' nT d0 d1 e0 e1
        by_cases hjn : j < nj
        · obtain ⟨e, he⟩ : ∃ e, p[j]? = some e := ⟨_, List.getElem?_eq_getElem (by rw [HNJ.out]; exact hjn)⟩
          obtain ⟨k1, u1, y0, y1, y2, y3, r0, r1⟩ := HEL5.out.at_ he
          have x0 := HCL.out _ _ y0
          have x1 := HCL.out _ _ y1
          have x2 := HCL.out _ _ y2
          have x3 := HCL.out _ _ y3
          rw [Nat.mul_comm 4 j] at x0 x1 x2 x3
          obtain ⟨A1, c1', rfl⟩ := slice_form r0
          obtain ⟨A2, c2', rfl⟩ := slice_form r1
          obtain ⟨nk, hnk⟩ : ∃ q, e.key.length = q := ⟨_, rfl⟩
          obtain ⟨nu, hnu⟩ : ∃ q, e.val.length = q := ⟨_, rfl⟩
          rw [hnk] at x0 r0
          rw [hnu] at x3 r1
          have FY : fr w5 (w5.alloc (.cells #[.slice A1 nk c1', .int .i64 e.seq, .bool e.dead, .slice A2 nu c2'] 34)) := fr.alloc fr.refl _
          obtain ⟨wy, hwy⟩ : ∃ x, w5.alloc (.cells #[.slice A1 nk c1', .int .i64 e.seq, .bool e.dead, .slice A2 nu c2'] 34) = x := ⟨_, rfl⟩
          rw [hwy] at FY
          have hby : wy.heap[w5.heap.size]? = some (.cells #[.slice A1 nk c1', .int .i64 e.seq, .bool e.dead, .slice A2 nu c2'] 34 (0, 0)) := by rw [← hwy]; exact heap_alloc_new w5 _
          have z0 := cell_of_row wy _ 0 _ _ _ hby
          have z1 := cell_of_row wy _ 1 _ _ _ hby
          have z2 := cell_of_row wy _ 2 _ _ _ hby
          have z3 := cell_of_row wy _ 3 _ _ _ hby
          have HKY := Lib.hid (HK5.out.fr FY)
          have kl := HKY.out.b2.cell
          have hzy := Below.size FY
          have hR0 : Byt wy (fun i => (w2.heap.size ≤ i ∧ i < w3.heap.size) ∧ Loose wy i) (.slice A1 nk c1') e.key := Byt.looseOnly (S := fun _ => False) r0 (Only.of_below FY) fun _ _ h => h
          have hR1 : Byt wy (fun i => (w2.heap.size ≤ i ∧ i < w3.heap.size) ∧ Loose wy i) (.slice A2 nu c2') e.val := Byt.looseOnly (S := fun _ => False) r1 (Only.of_below FY) fun _ _ h => h
          have HR0 := Lib.hid hR0
          have HR1 := Lib.hid hR1
          have HJY : Hid (J pre' T' wy) := Lib.hid (HJ.out _ _ _ _ HJX'.out (Idle.of_below FY))
          have HOY : Hid (Only T w4 wy) := Lib.hid (Only.trans HOX.out (Only.of_below FY))
          obtain ⟨z, hz⟩ : ∃ z, cmpB e.key lo = z := ⟨_, rfl⟩
          have HCM := Lib.hid (bcompare_any _ _ _ _ e.key lo wy HR0.out HKY.out.key)
          rw [hz] at HCM
          have htk := take_snoc he
          have HE := Lib.hid he
          have HZ := Lib.hid hz
          have HTK := Lib.hid htk
          have HWY := Lib.hid hwy
          clear r0 r1 y0 y1 y2 y3 hnk hnu he hz hR0 hR1 htk FY hby
          by_cases hz0 : 0 ≤ z
          · have hq0 : fromQ lo e = true := by unfold fromQ; rw [HZ.out]; simpa using hz0
            have hok : OkF w.heap.size (fromE lo es) pre' T' (.agg #[.slice A1 nk c1', .int .i64 e.seq, .bool e.dead, .slice A2 nu c2'], e) wy := by
              have hd : ∀ i, (w2.heap.size ≤ i ∧ i < w3.heap.size) ∧ Loose wy i → (w.heap.size ≤ i ∧ ¬ T' i) ∧ Loose wy i := fun i hi => ⟨⟨by have := HWZ.out; have := HM.out; omega, fun h => by
                rcases HT'.out i h with h | h
                · exact HNT.out i (by omega) h
                · omega⟩, hi.2⟩
              refine ⟨⟨_, _, rfl, HR0.out.mono hd, HR1.out.mono hd⟩, ?_⟩
              obtain ⟨rest, hr⟩ := from_rest HPO.out.all HP.out HE.out hq0
              exact ⟨rest, by rw [HPRE'.out]; exact hr⟩
            obtain ⟨fn, tmps, assign, body, hy, hR⟩ := HY.out pre' T' _ wy HJY.out hok
            dsimp only at hy
            have HQ0 := Lib.hid hq0
            clear hok hq0
            refine (wpIn_wide (n := nn)).1 ?_
            gi_wp2_with (first | rw [HWY.out] | (refine ⟨trivial, fun h => absurd h (by decide), ?_⟩; gi_at_call 45; refine (callsIn_wide.2 HCM.out).mono ?_; rintro r w' ⟨rfl, rfl⟩))
            refine ⟨fun h => absurd h (by decide), hR.mono ?_⟩
            rintro ee w6 ⟨T6, gT, oT, (⟨rfl, hj6⟩ | ⟨rfl, hj6⟩)⟩
            · have HJ6 := Lib.hid hj6
              have HG6 := Lib.hid gT
              have HO6 := Lib.hid oT
              clear hy hR hj6 gT oT z0 z1 z2 z3 kl x0 x1 x2 x3
              gi_wp2
              go_wp2
              refine ⟨⟨j + 1, T6, _, by go_num, by omega, ?_, ⟨HO6.out.os.trans HOY.out.os, HO6.out.tape.trans HOY.out.tape, HO6.out.output.trans HOY.out.output, Nat.le_trans HOY.out.size HO6.out.size, fun i hi hn => (HO6.out.block i (by have := HOY.out.size; omega) fun h => ?_).trans (HOY.out.block i hi hn)⟩, HJ6.out, fun i hi => ?_⟩, by simp [intOf]; omega⟩
              · rw [List.map_append, HPRE'.out, HTK.out, ← List.append_assoc, List.filter_append (l₂ := [e])]
                simp [HQ0.out]
              · rcases HT'.out i h with h | h
                · exact hn h
                · omega
              · rcases HG6.out i hi with h | h
                · exact HT'.out i h
                · exact .inr (by omega)
            · have HJX6 := Lib.hid hj6
              clear hy hR hj6 gT oT z0 z1 z2 z3 kl x0 x1 x2 x3
              gi_wp2
              go_wp2
              refine bodyPost_ret (results_none rfl _ _ _) rfl ?_
              exact ⟨⟨_, rfl⟩, .inr ⟨_, T6, trivial, HJX6.out⟩⟩
          · go_wp2_with (first | rw [HWY.out] | (go_at_call 45; refine HCM.out.mono ?_; rintro r w' ⟨rfl, rfl⟩))
            refine ⟨⟨j + 1, T', pre', by go_num, by omega, ?_, HOY.out, HJY.out, HT'.out⟩, by simp [intOf]; omega⟩
            have hq0 : fromQ lo e = false := by unfold fromQ; rw [HZ.out]; simpa using hz0
            rw [HPRE'.out, HTK.out, ← List.append_assoc, List.filter_append (l₂ := [e])]
            simp [hq0]
        · obtain rfl : j = nj := by omega
          have hdel : ∀ ty, (Builtin.delete_ #[97, 101] ty #[.map (some M), .agg #[.int .i64 m, .int .i64 q]]).run Try.prog w5 = .ok (.tuple #[]) (upd w5 M (.map #[] (c + 1))) := fun ty => map_del m q M c (c + 1) _ ty w5 HB5.out
          go_wp2_with (first | (rw [hdel]; simp only [Result.andThen_ok]))
          have hM5 := (Array.getElem?_eq_some_iff.1 HB5.out).1
          refine ⟨⟨m + 1, c + 1, T', pre', by go_num, by omega, ?_, HK5.out.only (only_upd _ _ _) fun i hi h => ?_, World.putObj_heap_same hM5, HJ.out _ _ _ _ HJX'.out (Idle.putObj (by have := HM.out; omega) HB5.out rfl), fun i hi => ?_⟩, by simp [intOf]; omega⟩
          · have ht : p.take j = p := List.take_of_length_le (by rw [HNJ.out]; exact Nat.le_refl _)
            rw [HPRE'.out, take_snoc HP.out, List.flatten_append, ht]
            simp
          · have h1 := HS.out i h
            have h2 := HM.out
            omega
          · rcases HT'.out i hi with h | h
            · exact HTR.out i h
            · refine ⟨fun h' => ?_, fun h' => by omega⟩
              have h1 := HS.out i h'
              have h2 := HM.out
              omega
    · obtain rfl : m = np := by omega
      have hfin : pre.map Prod.snd = fromE lo es := by
        rw [HPRE.out, List.take_of_length_le (by rw [HNP.out]; exact Nat.le_refl _), HPO.out.all]
        rfl
      have HFIN := Lib.hid hfin
      clear hfin
      go_wp2
      go_end0
      exact ⟨⟨_, rfl⟩, .inl ⟨pre, T, HFIN.out, HJR.out⟩⟩
end Go.Proofs.Ytiffgjodbcploaa
end
