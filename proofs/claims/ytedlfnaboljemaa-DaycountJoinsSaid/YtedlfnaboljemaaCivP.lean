/-
Plain arithmetic of the calendar: the functions that the walks of civil and usanceref02 compute. No program in sight.
-/
import Derived.KernelRfl
namespace Go.Proofs.Ytedlfnaboljemaa

def goodB (d : Int) : Bool := decide (-719162 ≤ d ∧ d ≤ 2932896)
def leapB (y : Int) : Bool := y % 4 == 0 && y % 100 != 0 || y % 400 == 0
def daysI (y m : Int) : Int := if m = 2 then (if leapB y = true then 29 else 28) else if m = 4 ∨ m = 6 ∨ m = 9 ∨ m = 11 then 30 else 31
def aheadI (y : Int) : Int := 365 * (y - 1) + (y - 1) / 4 - (y - 1) / 100 + (y - 1) / 400
theorem goodB_t {d : Int} : goodB d = true ↔ -719162 ≤ d ∧ d ≤ 2932896 := by simp [goodB]
theorem goodB_f {d : Int} : goodB d = false ↔ ¬ (-719162 ≤ d ∧ d ≤ 2932896) := by unfold goodB; exact decide_eq_false_iff_not
theorem goodB_no1 {d : Int} (h : d < -719162) : goodB d = false := goodB_f.2 (by omega)
theorem goodB_no2 {d : Int} (h : 2932896 < d) : goodB d = false := goodB_f.2 (by omega)
theorem goodB_yes {d : Int} (h1 : -719162 ≤ d) (h2 : d ≤ 2932896) : goodB d = true := goodB_t.2 ⟨h1, h2⟩
theorem daysI_bd (y m : Int) : 28 ≤ daysI y m ∧ daysI y m ≤ 31 := by unfold daysI; split <;> (try split) <;> omega
theorem leapB_t {y : Int} : leapB y = true ↔ (y % 4 = 0 ∧ ¬ y % 100 = 0) ∨ y % 400 = 0 := by simp [leapB]

/-- days of a year ahead of a month -/
def lpI (y : Int) : Int := if leapB y = true then 1 else 0
def cumI (y m : Int) : Int := (if m = 1 then 0 else if m = 2 then 31 else if m = 3 then 59 else if m = 4 then 90 else if m = 5 then 120 else if m = 6 then 151 else if m = 7 then 181 else if m = 8 then 212 else if m = 9 then 243 else if m = 10 then 273 else if m = 11 then 304 else if m = 12 then 334 else 365) + if 3 ≤ m then lpI y else 0
theorem lpI_01 (y : Int) : 0 ≤ lpI y ∧ lpI y ≤ 1 := by unfold lpI; split <;> omega
theorem months {m : Int} (h1 : 1 ≤ m) (h2 : m ≤ 12) : m = 1 ∨ m = 2 ∨ m = 3 ∨ m = 4 ∨ m = 5 ∨ m = 6 ∨ m = 7 ∨ m = 8 ∨ m = 9 ∨ m = 10 ∨ m = 11 ∨ m = 12 := by omega
theorem cumI_succ (y m : Int) (h1 : 1 ≤ m) (h2 : m ≤ 12) : cumI y (m + 1) = cumI y m + daysI y m := by
  have e : daysI y 2 = 28 + lpI y := by by_cases h : leapB y = true <;> simp [daysI, lpI, h]
  rcases months h1 h2 with rfl | rfl | rfl | rfl | rfl | rfl | rfl | rfl | rfl | rfl | rfl | rfl <;> first | (rw [e]; simp [cumI]; omega) | (simp [cumI, daysI]; done) | (simp [cumI, daysI]; omega)
theorem cumI_one (y : Int) : cumI y 1 = 0 := by simp [cumI]
theorem cumI_bd (y m : Int) (h1 : 1 ≤ m) (h2 : m ≤ 12) : 0 ≤ cumI y m ∧ cumI y m + daysI y m ≤ 365 + lpI y := by
  have hl := lpI_01 y
  have e : daysI y 2 = 28 + lpI y := by by_cases h : leapB y = true <;> simp [daysI, lpI, h]
  rcases months h1 h2 with rfl | rfl | rfl | rfl | rfl | rfl | rfl | rfl | rfl | rfl | rfl | rfl <;> first | (rw [e]; simp [cumI]; omega) | (simp [cumI, daysI]; omega)
theorem cumI_mono1 (y a : Int) (h1 : 1 ≤ a) (h2 : a ≤ 12) : cumI y a ≤ cumI y (a + 1) := by
  have := cumI_succ y a h1 h2
  have := daysI_bd y a
  omega
theorem cumI_mono_n (y a : Int) (n : Nat) (h1 : 1 ≤ a) (h2 : a + n ≤ 13) : cumI y a ≤ cumI y (a + n) := by
  induction n with
  | zero => simp
  | succ n ih =>
    have h3 := cumI_mono1 y (a + n) (by omega) (by omega)
    have h4 := ih (by omega)
    have e : a + ((n + 1 : Nat) : Int) = a + n + 1 := by omega
    rw [e]
    omega
theorem cumI_mono (y a b : Int) (h1 : 1 ≤ a) (h : a ≤ b) (h2 : b ≤ 13) : cumI y a ≤ cumI y b := by
  have h3 := cumI_mono_n y a (b - a).toNat h1 (by omega)
  have e : a + ((b - a).toNat : Int) = b := by omega
  rwa [e] at h3
theorem lpI_ahead (y : Int) : aheadI (y + 1) = aheadI y + 365 + lpI y := by
  unfold aheadI lpI
  by_cases h : leapB y = true
  · rw [if_pos h]
    rw [leapB_t] at h
    omega
  · rw [if_neg h]
    rw [leapB_t] at h
    omega
theorem aheadI_mono (a b : Int) (h : a ≤ b) : aheadI a ≤ aheadI b := by unfold aheadI; omega
theorem aheadI_bd (a : Int) (h0 : 1 ≤ a) (h : a ≤ 10000) : 0 ≤ aheadI a ∧ aheadI a ≤ 3652059 := by unfold aheadI; omega
theorem aheadI_year (a : Int) : 365 * (a - 1) ≤ aheadI a + 0 ∨ a < 1 := by unfold aheadI; omega
theorem aheadI_guess (n : Int) (h0 : 0 ≤ n) (h1 : n ≤ 3652058) : aheadI (n / 366 + 1) ≤ n := by unfold aheadI; omega

/-- A DATE: a year, a month and a day of it that are day number n from 0001-01-01 on. -/
def Date (n y m d : Int) : Prop := 1 ≤ y ∧ 1 ≤ m ∧ m ≤ 12 ∧ 1 ≤ d ∧ d ≤ daysI y m ∧ aheadI y + cumI y m + d - 1 = n
theorem Date.bds {n y m d : Int} (h : Date n y m d) : aheadI y ≤ n ∧ n < aheadI (y + 1) := by
  obtain ⟨h1, h2, h3, h4, h5, h6⟩ := h
  have := cumI_bd y m h2 h3
  have := lpI_ahead y
  omega
theorem Date.year {n y m d : Int} (h : Date n y m d) (hn : n ≤ 3652058) : y ≤ 9999 := by
  have h2 := h.bds
  rcases (by omega : y < 10000 ∨ 10000 ≤ y) with h1 | h1
  · omega
  · have := aheadI_mono 10000 y h1
    have : aheadI 10000 = 3652059 := by decide
    omega


-- an era of 400 years, its years beginning in March: which year, which day of it
def stN (k : Nat) : Nat := 365 * k + k / 4 - k / 100 + k / 400
def fN (o : Nat) : Nat := o - o / 1460 + o / 36524 - o / 146096
theorem fN_mono (a b : Nat) (h : a ≤ b) : fN a ≤ fN b := by
  unfold fN
  have h1 : a - a / 1460 ≤ b - b / 1460 := by omega
  have h2 : a / 36524 - a / 146096 ≤ b / 36524 - b / 146096 := by omega
  have h3 : a / 146096 ≤ a / 36524 := by omega
  have h4 : b / 146096 ≤ b / 36524 := by omega
  omega
theorem chk_years : ((List.range 400).all fun k => Nat.beq (fN (stN k) / 365) k && Nat.beq (fN (stN (k + 1) - 1) / 365) k) = true := by decide +kernel
theorem year_of (o k : Nat) (hk : k < 400) (h1 : stN k ≤ o) (h2 : o < stN (k + 1)) : fN o / 365 = k := by
  have h3 := chk_years
  rw [List.all_eq_true] at h3
  have h4 := h3 k (by rw [List.mem_range]; omega)
  rw [Bool.and_eq_true, Nat.beq_eq, Nat.beq_eq] at h4
  have h5 := Nat.div_le_div_right (c := 365) (fN_mono _ _ h1)
  have h6 := Nat.div_le_div_right (c := 365) (fN_mono o (stN (k + 1) - 1) (by omega))
  omega
theorem year_ex (o K : Nat) (h : o < stN K) : ∃ k, k < K ∧ stN k ≤ o ∧ o < stN (k + 1) := by
  induction K with
  | zero => exact absurd h (by unfold stN; omega)
  | succ K ih =>
    by_cases h1 : o < stN K
    · obtain ⟨k, a, b, c⟩ := ih h1
      exact ⟨k, by omega, b, c⟩
    · exact ⟨K, by omega, by omega, h⟩
def monN (mp : Nat) : Nat := match mp with
  | 0 => 31 | 1 => 30 | 2 => 31 | 3 => 30 | 4 => 31 | 5 => 31 | 6 => 30 | 7 => 31 | 8 => 30 | 9 => 31 | 10 => 31 | _ => 29
theorem chk_days : ((List.range 366).all fun r => Nat.ble ((5 * r + 2) / 153) 11 && Nat.ble ((153 * ((5 * r + 2) / 153) + 2) / 5) r && Nat.ble (r - (153 * ((5 * r + 2) / 153) + 2) / 5 + 1) (monN ((5 * r + 2) / 153))) = true := by decide +kernel
theorem day_of (r : Nat) (hr : r < 366) : (5 * r + 2) / 153 ≤ 11 ∧ (153 * ((5 * r + 2) / 153) + 2) / 5 ≤ r ∧ r - (153 * ((5 * r + 2) / 153) + 2) / 5 + 1 ≤ monN ((5 * r + 2) / 153) := by
  have h3 := chk_days
  rw [List.all_eq_true] at h3
  have h4 := h3 r (by rw [List.mem_range]; omega)
  rw [Bool.and_eq_true, Bool.and_eq_true, Nat.ble_eq, Nat.ble_eq, Nat.ble_eq] at h4
  exact ⟨h4.1.1, h4.1.2, h4.2⟩

theorem q4 (u v : Nat) (h : u ≤ v) : v / 4 + u ≤ u / 4 + v := by omega
theorem stN_eq (k : Nat) : stN k + k / 100 = 365 * k + k / 4 + k / 100 / 4 := by
  have h1 : k / 400 = k / 100 / 4 := (Nat.div_div_eq_div_mul k 100 4).symm
  unfold stN
  rw [h1]
  omega
theorem stN_step (k : Nat) : stN (k + 1) ≤ stN k + 366 := by
  have a := stN_eq k
  have b := stN_eq (k + 1)
  have a1 : (k + 1) / 4 ≤ k / 4 + 1 := by omega
  have a2 : k / 100 ≤ (k + 1) / 100 := by omega
  have a3 := q4 _ _ a2
  generalize (k + 1) / 100 = v at *
  generalize k / 100 = u at *
  generalize k / 4 = u4 at *
  generalize (k + 1) / 4 = v4 at *
  generalize v / 4 = v4' at *
  generalize u / 4 = u4' at *
  omega
theorem stN_plain (k : Nat) (y : Int) (e : Int) (hy : y = 400 * e + k + 1) (h : ¬ leapB y = true) : stN (k + 1) ≤ stN k + 365 := by
  rw [leapB_t] at h
  have a := stN_eq k
  have b := stN_eq (k + 1)
  have a1 : (k + 1) / 4 ≤ k / 4 + 1 := by omega
  have a2 : k / 100 ≤ (k + 1) / 100 := by omega
  have a3 := q4 _ _ a2
  have a5 : (k + 1) / 4 = k / 4 ∨ ((k + 1) / 100 = k / 100 + 1 ∧ (k + 1) / 100 / 4 = k / 100 / 4) := by
    rcases (by omega : (k + 1) % 4 = 0 ∨ ¬ (k + 1) % 4 = 0) with c | c
    · right
      have c2 : (k + 1) % 100 = 0 := by omega
      have c3 : ¬ (k + 1) % 400 = 0 := by omega
      obtain ⟨v, hv⟩ : ∃ v, k + 1 = 100 * v := ⟨(k + 1) / 100, by omega⟩
      have c4 : (k + 1) / 100 = v := by omega
      have c5 : k / 100 = v - 1 := by omega
      have c6 : 1 ≤ v := by omega
      rw [c4, c5]
      have c7 : ¬ v % 4 = 0 := by omega
      omega
    · left; omega
  generalize (k + 1) / 100 = v at *
  generalize k / 100 = u at *
  generalize k / 4 = u4 at *
  generalize (k + 1) / 4 = v4 at *
  generalize v / 4 = v4' at *
  generalize u / 4 = u4' at *
  omega
theorem era_ahead (E : Int) (k : Nat) : aheadI (400 * E + k + 1) = 146097 * E + stN k := by
  have h1 : (400 * E + (k : Int) + 1 - 1) / 4 = 100 * E + (k : Int) / 4 := by omega
  have h2 : (400 * E + (k : Int) + 1 - 1) / 100 = 4 * E + (k : Int) / 100 := by omega
  have h3 : (400 * E + (k : Int) + 1 - 1) / 400 = E + (k : Int) / 400 := by omega
  unfold aheadI stN
  rw [h1, h2, h3]
  omega
theorem mps {m : Nat} (h2 : m ≤ 11) : m = 0 ∨ m = 1 ∨ m = 2 ∨ m = 3 ∨ m = 4 ∨ m = 5 ∨ m = 6 ∨ m = 7 ∨ m = 8 ∨ m = 9 ∨ m = 10 ∨ m = 11 := by omega

/-- THE PARTS THAT civil.Split RECKONS, over Int, with what is known of them. -/
theorem era_parts (d : Int) (h1 : -719162 ≤ d) (h2 : d ≤ 2932896) : ∃ e o ys r mp dd : Int,
    (d + 719468) / 146097 = e ∧ (d + 719468) % 146097 = o ∧ (o - o / 1460 + o / 36524 - o / 146096) / 365 = ys ∧ o - (365 * ys + ys / 4 - ys / 100) = r ∧ (5 * r + 2) / 153 = mp ∧ r - (153 * mp + 2) / 5 + 1 = dd ∧
    0 ≤ e ∧ e ≤ 24 ∧ 0 ≤ o ∧ o ≤ 146096 ∧ 0 ≤ ys ∧ ys ≤ 399 ∧ 0 ≤ r ∧ r ≤ 365 ∧ 0 ≤ mp ∧ mp ≤ 11 ∧ 1 ≤ dd ∧ dd ≤ 31 ∧
    (mp + 3 ≤ 12 → Date (d + 719162) (400 * e + ys) (mp + 3) dd) ∧ (12 < mp + 3 → Date (d + 719162) (400 * e + ys + 1) (mp + 3 - 12) dd) := by
  obtain ⟨o, ho⟩ : ∃ o : Nat, ((d + 719468) % 146097) = (o : Int) := ⟨((d + 719468) % 146097).toNat, by omega⟩
  have ho' : o < 146097 := by omega
  obtain ⟨k, hk, hk1, hk2⟩ := year_ex o 400 (by unfold stN; omega)
  have hy := year_of o k hk hk1 hk2
  have hr366 : o - stN k < 366 := by have := stN_step k; omega
  obtain ⟨d1, d2, d3⟩ := day_of (o - stN k) hr366
  have hst : stN k = 365 * k + k / 4 - k / 100 := by unfold stN; omega
  have e1 : ((o : Int) - (o : Int) / 1460 + (o : Int) / 36524 - (o : Int) / 146096) / 365 = (k : Int) := by unfold fN at hy; omega
  have e2 : (o : Int) - (365 * (k : Int) + (k : Int) / 4 - (k : Int) / 100) = ((o - stN k : Nat) : Int) := by omega
  obtain ⟨r, hr⟩ : ∃ r : Nat, o - stN k = r := ⟨_, rfl⟩
  rw [hr] at d1 d2 d3 e2 hr366
  obtain ⟨mp, hmp⟩ : ∃ mp : Nat, (5 * r + 2) / 153 = mp := ⟨_, rfl⟩
  rw [hmp] at d1 d2 d3
  refine ⟨(d + 719468) / 146097, o, k, r, mp, ((r : Int) - (153 * (mp : Int) + 2) / 5 + 1), rfl, ho, e1, e2, by omega, rfl, by omega, by omega, by omega, by omega, by omega, by omega, by omega, by omega, by omega, by omega, by omega, ?_, ?_, ?_⟩
  · have : monN mp ≤ 31 := by unfold monN; split <;> omega
    omega
  · intro hm
    have hl := lpI_ahead (400 * ((d + 719468) / 146097) + (k : Int))
    have hsum : aheadI (400 * ((d + 719468) / 146097) + (k : Int) + 1) + r - 306 = d + 719162 := by rw [era_ahead]; omega
    have hy1 : 1 ≤ 400 * ((d + 719468) / 146097) + (k : Int) := by
      rcases (by omega : (1 : Int) ≤ (d + 719468) / 146097 ∨ (d + 719468) / 146097 = 0) with h | h <;> omega
    generalize 400 * ((d + 719468) / 146097) + (k : Int) = y at hl hsum hy1 ⊢
    clear hk1 hk2 hst e1 ho hy
    rcases mps d1 with rfl | rfl | rfl | rfl | rfl | rfl | rfl | rfl | rfl | rfl | rfl | rfl <;> first | (exfalso; omega) | (refine ⟨hy1, by omega, by omega, by omega, ?_, ?_⟩ <;> simp [daysI, cumI, monN] at d3 ⊢ <;> omega)
  · intro hm
    have hl := lpI_ahead (400 * ((d + 719468) / 146097) + (k : Int) + 1)
    have hsum : aheadI (400 * ((d + 719468) / 146097) + (k : Int) + 1) + r - 306 = d + 719162 := by rw [era_ahead]; omega
    have hy1 : 1 ≤ 400 * ((d + 719468) / 146097) + (k : Int) + 1 := by omega
    have hpl := stN_plain k _ ((d + 719468) / 146097) rfl
    generalize 400 * ((d + 719468) / 146097) + (k : Int) + 1 = y at hl hsum hy1 hpl ⊢
    have hpl' : ¬ leapB y = true → r ≤ 364 := fun h => by have := hpl h; omega
    clear hk1 hk2 hst e1 ho hy hpl
    rcases mps d1 with rfl | rfl | rfl | rfl | rfl | rfl | rfl | rfl | rfl | rfl | rfl | rfl <;> first | (exfalso; omega) | skip
    · refine ⟨hy1, by omega, by omega, by omega, ?_, ?_⟩ <;> simp [daysI, cumI, monN] at d3 ⊢ <;> omega
    · refine ⟨hy1, by omega, by omega, by omega, ?_, ?_⟩
      · by_cases h : leapB y = true
        · simp [daysI, h, monN] at d3 ⊢; omega
        · have := hpl' h
          simp [daysI, h, monN] at d3 ⊢; omega
      · simp [cumI, monN] at d3 ⊢; omega

/-- TWO DATES OF ONE DAY ARE ONE. -/
theorem Date.uniq {n y m d y' m' d' : Int} (h : Date n y m d) (h' : Date n y' m' d') : y = y' ∧ m = m' ∧ d = d' := by
  have hb := h.bds
  have hb' := h'.bds
  have hy : y = y' := by
    rcases (by omega : y = y' ∨ y + 1 ≤ y' ∨ y' + 1 ≤ y) with e | e | e
    · exact e
    · have := aheadI_mono _ _ e; omega
    · have := aheadI_mono _ _ e; omega
  subst hy
  obtain ⟨h1, h2, h3, h4, h5, h6⟩ := h
  obtain ⟨h1', h2', h3', h4', h5', h6'⟩ := h'
  have hm : m = m' := by
    rcases (by omega : m = m' ∨ m + 1 ≤ m' ∨ m' + 1 ≤ m) with e | e | e
    · exact e
    · have h7 := cumI_mono y _ _ (by omega) e (by omega)
      have h8 := cumI_succ y m h2 h3
      omega
    · have h7 := cumI_mono y _ _ (by omega) e (by omega)
      have h8 := cumI_succ y m' h2' h3'
      omega
  subst hm
  exact ⟨rfl, rfl, by omega⟩

/-- civil.Of's number and the reference's are one. -/
def ofI (y m d : Int) : Int := -719162 + aheadI y + cumI y m + d - 1
theorem ofI_march (y m d : Int) (hm : 3 ≤ m) (hm2 : m ≤ 12) : y / 400 * 146097 + y % 400 * 365 + y % 400 / 4 - y % 400 / 100 + (153 * (m - 3) + 2) / 5 + d - 1 - 719468 = ofI y m d := by
  have hl := lpI_ahead y
  have hs : y / 400 * 146097 + y % 400 * 365 + y % 400 / 4 - y % 400 / 100 = aheadI (y + 1) := by unfold aheadI; omega
  unfold ofI
  rcases (by omega : m = 3 ∨ m = 4 ∨ m = 5 ∨ m = 6 ∨ m = 7 ∨ m = 8 ∨ m = 9 ∨ m = 10 ∨ m = 11 ∨ m = 12) with rfl | rfl | rfl | rfl | rfl | rfl | rfl | rfl | rfl | rfl <;> simp [cumI] <;> omega
theorem ofI_ahead (y m d : Int) (hm : 1 ≤ m) (hm2 : m < 3) : (y - 1) / 400 * 146097 + (y - 1) % 400 * 365 + (y - 1) % 400 / 4 - (y - 1) % 400 / 100 + (153 * (m + 12 - 3) + 2) / 5 + d - 1 - 719468 = ofI y m d := by
  have hs : (y - 1) / 400 * 146097 + (y - 1) % 400 * 365 + (y - 1) % 400 / 4 - (y - 1) % 400 / 100 = aheadI y := by unfold aheadI; omega
  unfold ofI
  rcases (by omega : m = 1 ∨ m = 2) with rfl | rfl <;> simp [cumI] <;> omega
end Go.Proofs.Ytedlfnaboljemaa
