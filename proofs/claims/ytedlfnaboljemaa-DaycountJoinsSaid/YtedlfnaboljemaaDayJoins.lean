/-
The walk of the law DaycountJoins, and how its argument, an array of three numbers, is opened.
-/
import Derived.Test.YtedlfnaboljemaaDayLaws
import Derived.OpenShut
import Derived.ProofKit
import Derived.Lib.SmallJoins
namespace Go.Proofs.Ytedlfnaboljemaa
open Go.RowKit

theorem thirty_pos {a b y m d y' m' d' : Int} (hA : Date (a + 719162) y m d) (hB : Date (b + 719162) y' m' d') (h : a ≤ b) : 0 ≤ thirtyI y m d y' m' d' := by
  have ba := hA.bds
  have bb := hB.bds
  have hy : y ≤ y' := by
    rcases (by omega : y ≤ y' ∨ y' + 1 ≤ y) with e | e
    · exact e
    · have := aheadI_mono _ _ e
      omega
  obtain ⟨h1, h2, h3, h4, h5, h6⟩ := hA
  obtain ⟨h1', h2', h3', h4', h5', h6'⟩ := hB
  have hm : y = y' → m ≤ m' := by
    rintro rfl
    rcases (by omega : m ≤ m' ∨ m' + 1 ≤ m) with e | e
    · exact e
    · have h7 := cumI_mono y _ _ (by omega) e (by omega)
      have h8 := cumI_succ y m' h2' h3'
      omega
  have hd : y = y' → m = m' → d ≤ d' := by
    rintro rfl rfl
    omega
  have k1 := daysI_bd y m
  have k2 := daysI_bd y' m'
  unfold thirtyI
  split <;> split <;> omega

def GoodC (c a b : Int) : Prop := 1 ≤ c ∧ c ≤ 3 ∧ -719162 ≤ a ∧ b ≤ 2932896 ∧ a ≤ b
theorem count_props (c a b : Int) : ∃ x y e : Int, (∀ w, Calls Try.prog 7 #[.int .i64 c, .int .i64 a, .int .i64 b] w fun e' w' => e' = .returned (R3 x y e) ∧ Below w.heap.size w w') ∧
    ((¬ GoodC c a b ∧ (e = 2 ∨ e = 6) ∧ x = 0) ∨ (GoodC c a b ∧ e = 0 ∧ 0 ≤ x ∧ x ≤ 10000000 ∧ y = (if c = 3 then 365 else 360) ∧ (c ≠ 1 → x = b - a))) := by
  by_cases h1 : c < 1 ∨ 3 < c
  · exact ⟨0, 0, 2, fun w => ccount_conv c a b w h1, .inl ⟨by unfold GoodC; omega, .inl rfl, rfl⟩⟩
  · by_cases h2 : a < -719162 ∨ 2932896 < b ∨ b < a
    · exact ⟨0, 0, 6, fun w => ccount_date c a b w (by omega) (by omega) h2, .inl ⟨by unfold GoodC; omega, .inr rfl, rfl⟩⟩
    · have hg : GoodC c a b := by unfold GoodC; omega
      rcases (by omega : c = 1 ∨ (c = 2 ∨ c = 3)) with rfl | h3
      · obtain ⟨y, m, d, hA⟩ := date_ex a (by omega) (by omega)
        obtain ⟨y', m', d', hB⟩ := date_ex b (by omega) (by omega)
        have ya := hA.year (by omega)
        have yb := hB.year (by omega)
        refine ⟨thirtyI y m d y' m' d', 360, 0, fun w => ccount_1 a b y m d y' m' d' w (by omega) (by omega) (by omega) hA hB, .inr ⟨hg, rfl, thirty_pos hA hB (by omega), ?_, by simp, fun h => absurd rfl h⟩⟩
        obtain ⟨h1, h2, h3, h4, h5, h6⟩ := hA
        obtain ⟨h1', h2', h3', h4', h5', h6'⟩ := hB
        have k1 := daysI_bd y m
        have k2 := daysI_bd y' m'
        unfold thirtyI
        split <;> split <;> omega
      · refine ⟨b - a, if c = 2 then 360 else 365, 0, fun w => ccount_23 c a b w h3 (by omega) (by omega) (by omega), .inr ⟨hg, rfl, by omega, by omega, ?_, fun _ => rfl⟩⟩
        rcases h3 with rfl | rfl <;> simp

theorem new3 (w w' : World) (a b c : Value) (t : TypeId) (hb : Below (w.heap.size + 1) (w.alloc (.cells #[a, b, c] t)) w') :
    w'.cell? ⟨w.heap.size, 0, none⟩ = some a ∧ w'.cell? ⟨w.heap.size, 1, none⟩ = some b ∧ w'.cell? ⟨w.heap.size, 2, none⟩ = some c := by
  refine ⟨?_, ?_, ?_⟩ <;> (rw [hb.cell (by simp), World.cell?_alloc_at _ _ _ _ rfl]; rfl)

/-- what the array reads as -/
def Arr3 (v : Value) (x : Int × Int × Int) : Prop := v = .agg #[.int .i64 x.1, .int .i64 x.2.1, .int .i64 x.2.2]

theorem arr3_open {H : Type} {enc : TypeId × Value → H} {w : World} {b0 base : Nat} {spare : Nat → Bool} {held : Bool} {v : Value} {d : DataW H} {p : List MemPlace}
    (hv : Value.okWide Try.prog w .any b0 35 v) (h : DataW.Trod enc Try.prog w base spare held 35 v d p) : ∃ x, Arr3 v x := by
  unfold Value.okWide at hv
  rw [Try.underlying35] at hv
  obtain ⟨cs, rfl, hsz, _⟩ := hv
  have hC : Try.prog.cellsOf 35 = 3 := by kernel_rfl
  have hE : Try.prog.cellsOf 3 = 1 := by kernel_rfl
  obtain ⟨c0, c1, c2, rfl⟩ := Joins.array3 (hsz.trans hC)
  obtain ⟨fuel, hf⟩ := h
  obtain ⟨xs, m, _, _, _, hl, hx⟩ := DataW.trod_array Try.underlying35 hf
  have g0 := hx 0 (by omega)
  have g1 := hx 1 (by omega)
  have g2 := hx 2 (by omega)
  rw [hE] at g0 g1 g2
  rw [List.getElem?_eq_getElem (by omega)] at g0 g1 g2
  obtain ⟨k0, e0, _, _⟩ := DataW.trod_int Try.underlying3 g0
  obtain ⟨k1, e1, _, _⟩ := DataW.trod_int Try.underlying3 g1
  obtain ⟨k2, e2, _, _⟩ := DataW.trod_int Try.underlying3 g2
  simp [Value.cells] at e0 e1 e2
  subst e0 e1 e2
  exact ⟨(k0, k1, k2), rfl⟩

set_option maxHeartbeats 4000000 in
theorem joinsLaw (c : Int) (v : Value) (x : Int × Int × Int) (w : World) (_ : (Lit.int .i64 c).wf = true) (hv : Arr3 v x) :
    Calls Try.prog 5 #[.int .i64 c, v] w fun e w' => e = .returned (.bool true) ∧ Below w.heap.size w w' := by
  obtain ⟨a0, a1, a2⟩ := x
  subst hv
  obtain ⟨x1, y1, e1, h1, p1⟩ := count_props c a0 a1
  obtain ⟨x2, y2, e2, h2, p2⟩ := count_props c a1 a2
  obtain ⟨x3, y3, e3, h3, p3⟩ := count_props c a0 a2
  have H1 := Lib.hid h1
  have H2 := Lib.hid h2
  have H3 := Lib.hid h3
  clear h1 h2 h3
  have key : (¬ e1 = 0 ∧ x1 = 0) ∨ (e1 = 0 ∧ ¬ e2 = 0 ∧ x2 = 0) ∨ (e1 = 0 ∧ e2 = 0 ∧ e3 = 0 ∧ y1 = y2 ∧ y2 = y3 ∧ 0 ≤ x1 ∧ x1 ≤ 10000000 ∧ 0 ≤ x2 ∧ x2 ≤ 10000000 ∧ (c = 1 ∨ (¬ c = 1 ∧ x1 + x2 = x3))) := by
    unfold GoodC at p1 p2 p3
    rcases p1 with p1 | p1 <;> rcases p2 with p2 | p2 <;> rcases p3 with p3 | p3 <;> omega
  clear p1 p2 p3
  rcases key with ⟨k1, rfl⟩ | ⟨rfl, k2, rfl⟩ | ⟨rfl, rfl, rfl, rfl, rfl, k4, k4', k5, k5', k6⟩
  · have k1' : (e1 != 0) = true := by rw [bne_iff_ne]; exact k1
    clear k1
    go_enter Try.func5, Try.ntmps5
    go_wp2_with fail
    refine (wakes_any _).mono ?_
    rintro e w1 ⟨rfl, hb1⟩
    obtain ⟨c0, c1, c2⟩ := new3 w w1 _ _ _ _ (by simpa using hb1)
    go_wp2_with fail
    refine (H1.out _).mono ?_
    rintro e w2 ⟨rfl, hb2⟩
    unfold R3
    have hb12 := hb1.trans (hb2.mono hb1.size)
    obtain ⟨c0', c1', c2'⟩ := new3 w w2 _ _ _ _ (by simpa using hb12)
    go_wp2_with fail
    refine (H2.out _).mono ?_
    rintro e w3 ⟨rfl, hb3⟩
    unfold R3
    have hb13 := hb12.trans (hb3.mono hb12.size)
    obtain ⟨c0'', c1'', c2''⟩ := new3 w w3 _ _ _ _ (by simpa using hb13)
    go_wp2_with fail
    refine (H3.out _).mono ?_
    rintro e w4 ⟨rfl, hb4⟩
    unfold R3
    have hb14 := hb13.trans (hb4.mono hb13.size)
    have hb0 := ((Below.refl w.heap.size w).alloc (Nat.le_refl _) (.cells #[.int .i64 a0, .int .i64 a1, .int .i64 a2] 35)).trans (hb14.mono (by simp))
    go_wp2
    all_goals (go_ret; exact ⟨rfl, hb0⟩)
  · have k1' : (e2 != 0) = true := by rw [bne_iff_ne]; exact k2
    clear k2
    go_enter Try.func5, Try.ntmps5
    go_wp2_with fail
    refine (wakes_any _).mono ?_
    rintro e w1 ⟨rfl, hb1⟩
    obtain ⟨c0, c1, c2⟩ := new3 w w1 _ _ _ _ (by simpa using hb1)
    go_wp2_with fail
    refine (H1.out _).mono ?_
    rintro e w2 ⟨rfl, hb2⟩
    unfold R3
    have hb12 := hb1.trans (hb2.mono hb1.size)
    obtain ⟨c0', c1', c2'⟩ := new3 w w2 _ _ _ _ (by simpa using hb12)
    go_wp2_with fail
    refine (H2.out _).mono ?_
    rintro e w3 ⟨rfl, hb3⟩
    unfold R3
    have hb13 := hb12.trans (hb3.mono hb12.size)
    obtain ⟨c0'', c1'', c2''⟩ := new3 w w3 _ _ _ _ (by simpa using hb13)
    go_wp2_with fail
    refine (H3.out _).mono ?_
    rintro e w4 ⟨rfl, hb4⟩
    unfold R3
    have hb14 := hb13.trans (hb4.mono hb13.size)
    have hb0 := ((Below.refl w.heap.size w).alloc (Nat.le_refl _) (.cells #[.int .i64 a0, .int .i64 a1, .int .i64 a2] 35)).trans (hb14.mono (by simp))
    go_wp2
    all_goals (go_ret; exact ⟨rfl, hb0⟩)
  · have k6' : (c == 1) = true ∨ ((c == 1) = false ∧ ((x1 + x2) == x3) = true) := by
      rcases k6 with h | ⟨h, h'⟩
      · exact .inl (beq_iff_eq.2 h)
      · exact .inr ⟨beq_eq_false_iff_ne.2 h, beq_iff_eq.2 h'⟩
    clear k6
    rcases k6' with k6 | ⟨k6, k7⟩
    all_goals
      go_enter Try.func5, Try.ntmps5
      go_wp2_with fail
      refine (wakes_any _).mono ?_
      rintro e w1 ⟨rfl, hb1⟩
      obtain ⟨c0, c1, c2⟩ := new3 w w1 _ _ _ _ (by simpa using hb1)
      go_wp2_with fail
      refine (H1.out _).mono ?_
      rintro e w2 ⟨rfl, hb2⟩
      unfold R3
      have hb12 := hb1.trans (hb2.mono hb1.size)
      obtain ⟨c0', c1', c2'⟩ := new3 w w2 _ _ _ _ (by simpa using hb12)
      go_wp2_with fail
      refine (H2.out _).mono ?_
      rintro e w3 ⟨rfl, hb3⟩
      unfold R3
      have hb13 := hb12.trans (hb3.mono hb12.size)
      obtain ⟨c0'', c1'', c2''⟩ := new3 w w3 _ _ _ _ (by simpa using hb13)
      go_wp2_with fail
      refine (H3.out _).mono ?_
      rintro e w4 ⟨rfl, hb4⟩
      unfold R3
      have hb14 := hb13.trans (hb4.mono hb13.size)
      have hb0 := ((Below.refl w.heap.size w).alloc (Nat.le_refl _) (.cells #[.int .i64 a0, .int .i64 a1, .int .i64 a2] 35)).trans (hb14.mono (by simp))
      go_wp2
      all_goals (go_ret; exact ⟨rfl, hb0⟩)
end Go.Proofs.Ytedlfnaboljemaa
