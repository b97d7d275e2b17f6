/-
What a crash leaves of the files: as plain data.
-/
import Derived.Test.YtcmjoaepihbodaaDkX
namespace Go.Proofs.Ytcmjoaepihbodaa
open Go.RowKit

/-- the files' bytes that were not synced. -/
def Fl.loose (f : Fl) : Int := (f.data.length : Int) - f.synced
/-- the rest by the first number, as the plan has it. -/
def modP (z m : Int) : Int := if z.tmod m < 0 then z.tmod m + m else z.tmod m
def keptN (f : Fl) : List Int → Int
  | [] => 0
  | z :: _ => modP z (f.loose + 1)
def cutP (f : Fl) (n : Int) : Fl := { f with data := f.data.take (f.synced + n).toNat, synced := f.synced + n }
/-- behind i files: the files, the numbers left, the count of bytes. -/
def revSt (fs : List Fl) (keep : List Int) (b : Int) : Nat → List Fl × List Int × Int
  | 0 => (fs, keep, b)
  | i + 1 =>
    let s := revSt fs keep b i
    match s.1[i]? with
    | none => s
    | some f => if f.loose = 0 then s else (s.1.set i (cutP f (keptN f s.2.1)), s.2.1.tail, wrap64 (s.2.2 - (f.loose - keptN f s.2.1)))
def okFs (fs : List Fl) : Prop := ∀ f ∈ fs, 0 ≤ f.synced ∧ f.synced ≤ f.data.length
theorem modP_range {z m : Int} (h : 0 < m) : 0 ≤ modP z m ∧ modP z m < m := by
  unfold modP
  have h1 := Int.tmod_lt_of_pos z h
  have h2 : -m < z.tmod m := by
    have := Int.tmod_lt_of_pos (-z) h
    rw [Int.neg_tmod] at this
    omega
  split <;> omega
theorem kept_range {f : Fl} (h1 : f.synced ≤ f.data.length) (ks : List Int) : 0 ≤ keptN f ks ∧ keptN f ks ≤ f.loose := by
  have hl : 0 ≤ f.loose := by unfold Fl.loose; omega
  cases ks with
  | nil => exact ⟨Int.le_refl _, hl⟩
  | cons z ks =>
    have := modP_range (z := z) (m := f.loose + 1) (by omega)
    show 0 ≤ modP z (f.loose + 1) ∧ modP z (f.loose + 1) ≤ f.loose
    omega
theorem rev_len (fs : List Fl) (keep : List Int) (b : Int) (i : Nat) : (revSt fs keep b i).1.length = fs.length := by
  induction i with
  | zero => rfl
  | succ i ih =>
    unfold revSt
    dsimp only
    split
    · exact ih
    · split
      · exact ih
      · rw [List.length_set]; exact ih
theorem rev_later (fs : List Fl) (keep : List Int) (b : Int) (i j : Nat) (h : i ≤ j) : (revSt fs keep b i).1[j]? = fs[j]? := by
  induction i with
  | zero => rfl
  | succ i ih =>
    unfold revSt
    dsimp only
    split
    · exact ih (by omega)
    · split
      · exact ih (by omega)
      · rw [List.getElem?_set_ne (by omega)]; exact ih (by omega)
theorem rev_names (fs : List Fl) (keep : List Int) (b : Int) (i : Nat) : (revSt fs keep b i).1.map Fl.name = fs.map Fl.name := by
  induction i with
  | zero => rfl
  | succ i ih =>
    unfold revSt
    dsimp only
    split
    · exact ih
    · rename_i f hf
      split
      · exact ih
      · rw [List.map_set]
        show ((revSt fs keep b i).1.map Fl.name).set i f.name = _
        rw [ih]
        have h1 := rev_later fs keep b i i (Nat.le_refl _)
        rw [hf] at h1
        have h2 : (fs.map Fl.name)[i]? = some f.name := by rw [List.getElem?_map, ← h1]; rfl
        refine List.ext_getElem? fun j => ?_
        rw [List.getElem?_set]
        split
        · rename_i e
          subst e
          rw [h2, if_pos (List.getElem?_eq_some_iff.1 h2).1]
        · rfl
theorem rev_step {fs : List Fl} {keep : List Int} {b : Int} {i : Nat} {f : Fl} (h : fs[i]? = some f) : revSt fs keep b (i + 1) = if f.loose = 0 then revSt fs keep b i else ((revSt fs keep b i).1.set i (cutP f (keptN f (revSt fs keep b i).2.1)), (revSt fs keep b i).2.1.tail, wrap64 ((revSt fs keep b i).2.2 - (f.loose - keptN f (revSt fs keep b i).2.1))) := by
  have h1 := rev_later fs keep b i i (Nat.le_refl _)
  rw [h] at h1
  show (match (revSt fs keep b i).1[i]? with | none => _ | some f => _) = _
  rw [h1]
/-- what Revive makes of the disk. -/
def reviveK (k : Pk) (ops room : Int) (keep : List Int) : Pk := ⟨(revSt k.fs k.keep k.bytes k.fs.length).1, ops, room, keep, 0, (revSt k.fs k.keep k.bytes k.fs.length).2.2, false⟩
theorem updP_set {fs : List Fl} {i : Nat} {f : Fl} (hd : fs.Pairwise fun a b => a.name ≠ b.name) (h : fs[i]? = some f) (g : Fl → Fl) : updP f.name g fs = fs.set i (g f) := by
  induction fs generalizing i with
  | nil => simp at h
  | cons a l ih =>
    have ha := (List.pairwise_cons.1 hd).1
    cases i with
    | zero =>
      simp at h
      subst h
      show (if a.name = a.name then g a else a) :: updP a.name g l = _
      rw [if_pos rfl]
      show g a :: updP a.name g l = g a :: l
      congr 1
      unfold updP
      conv => rhs; rw [← List.map_id l]
      refine List.map_congr_left fun x hx => ?_
      rw [if_neg fun e => ha x hx e.symm]
      rfl
    | succ i =>
      have h' : l[i]? = some f := by simpa using h
      have hne : ¬ a.name = f.name := ha f (List.mem_of_getElem? h')
      show (if a.name = f.name then g a else a) :: updP f.name g l = _
      rw [if_neg hne, ih (List.pairwise_cons.1 hd).2 h']
      rfl
end Go.Proofs.Ytcmjoaepihbodaa
