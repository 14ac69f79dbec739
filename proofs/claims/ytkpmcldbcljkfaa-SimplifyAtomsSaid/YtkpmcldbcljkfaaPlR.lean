/- Plain mathematics: a stable sort by merging in place, as the program's library does it. Conditions: none. -/
import Derived.Test.YtkpmcldbcljkfaaPlX
set_option linter.unusedVariables false
set_option linter.unusedSimpArgs false
namespace Go.Rt
open Go Go.RowKit

def swp (xs : List Tm) (i j : Nat) : List Tm := (xs.set i (atT xs j)).set j (atT xs i)
theorem swp_len (xs : List Tm) (i j : Nat) : (swp xs i j).length = xs.length := by simp [swp]
/-- n elements from a on change places with those from b on. -/
def swR (a b : Nat) : Nat → List Tm → List Tm
  | 0, xs => xs
  | n + 1, xs => swp (swR a b n xs) (a + n) (b + n)
theorem swR_len (a b : Nat) : ∀ n xs, (swR a b n xs).length = xs.length
  | 0, _ => rfl
  | n + 1, xs => by rw [swR, swp_len, swR_len a b n]
/-- Binary search. -/
def bsr (P : Nat → Bool) (i j : Nat) : Nat := if i < j then (if P ((i + j) / 2) = true then bsr P ((i + j) / 2 + 1) j else bsr P i ((i + j) / 2)) else i
termination_by j - i
theorem bsr_T {P : Nat → Bool} {i j : Nat} (h : i < j) (hP : P ((i + j) / 2) = true) : bsr P ((i + j) / 2 + 1) j = bsr P i j := by
  conv => rhs; rw [bsr]
  rw [if_pos h, if_pos hP]
theorem bsr_F {P : Nat → Bool} {i j : Nat} (h : i < j) (hP : ¬ P ((i + j) / 2) = true) : bsr P i ((i + j) / 2) = bsr P i j := by
  conv => rhs; rw [bsr]
  rw [if_pos h, if_neg hP]
theorem bsr_stop {P : Nat → Bool} {i j : Nat} (h : ¬ i < j) : bsr P i j = i := by rw [bsr, if_neg h]
/-- The element at k goes up by n places; down by n places. -/
def upS : Nat → Nat → List Tm → List Tm
  | 0, _, xs => xs
  | n + 1, k, xs => upS n (k + 1) (swp xs k (k + 1))
def dnS : Nat → Nat → List Tm → List Tm
  | 0, _, xs => xs
  | n + 1, k, xs => dnS n (k - 1) (swp xs k (k - 1))
theorem upS_len : ∀ n k xs, (upS n k xs).length = xs.length
  | 0, _, _ => rfl
  | n + 1, k, xs => by rw [upS, upS_len n, swp_len]
theorem dnS_len : ∀ n k xs, (dnS n k xs).length = xs.length
  | 0, _, _ => rfl
  | n + 1, k, xs => by rw [dnS, dnS_len n, swp_len]
theorem upS_step {i k : Nat} {xs : List Tm} (h : k + 1 < i) : upS (i - 1 - (k + 1)) (k + 1) (swp xs k (k + 1)) = upS (i - 1 - k) k xs := by
  rw [show i - 1 - k = (i - 1 - (k + 1)) + 1 by omega, upS]
theorem dnS_step {i k : Nat} {xs : List Tm} (h : i < k) : dnS (k - 1 - i) (k - 1) (swp xs k (k - 1)) = dnS (k - i) k xs := by
  rw [show k - i = (k - 1 - i) + 1 by omega, dnS]
/-- The i elements ahead of m and the j elements from m on change places. -/
def rotF : Nat → Nat → Nat → Nat → List Tm → List Tm
  | 0, _, _, _, xs => xs
  | f + 1, m, i, j, xs => if i = j then swR (m - i) m i xs else if j < i then rotF f m (i - j) j (swR (m - i) m j xs) else rotF f m i (j - i) (swR (m - i) (m + j - i) i xs)
theorem rotF_len : ∀ f m i j xs, (rotF f m i j xs).length = xs.length
  | 0, _, _, _, _ => rfl
  | f + 1, m, i, j, xs => by
    rw [rotF]; split
    · exact swR_len ..
    · split
      · rw [rotF_len f, swR_len]
      · rw [rotF_len f, swR_len]
theorem rotF_gt {f m i j : Nat} {xs : List Tm} (hf : i + j ≤ f) (hj : 0 < j) (h : j < i) : rotF (f - 1) m (i - j) j (swR (m - i) m j xs) = rotF f m i j xs := by
  obtain ⟨g, rfl⟩ : ∃ g, f = g + 1 := ⟨f - 1, by omega⟩
  rw [rotF.eq_2, if_neg (by omega), if_pos h]; rfl
theorem rotF_lt {f m i j : Nat} {xs : List Tm} (hf : i + j ≤ f) (hi : 0 < i) (h : i < j) : rotF (f - 1) m i (j - i) (swR (m - i) (m + j - i) i xs) = rotF f m i j xs := by
  obtain ⟨g, rfl⟩ : ∃ g, f = g + 1 := ⟨f - 1, by omega⟩
  rw [rotF.eq_2, if_neg (by omega), if_neg (by omega)]; rfl
theorem rotF_eq {f m i j : Nat} {xs : List Tm} (hf : i + j ≤ f) (hi : 0 < i) (h : i = j) : swR (m - i) m i xs = rotF f m i j xs := by
  obtain ⟨g, rfl⟩ : ∃ g, f = g + 1 := ⟨f - 1, by omega⟩
  rw [rotF.eq_2, if_pos h]
abbrev rotT (m a b : Nat) (xs : List Tm) : List Tm := rotF (b - a) m (m - a) (b - m) xs

abbrev insA (lo md hi : Nat) (xs : List Tm) : Nat := bsr (fun h => decide (cmpT (atT xs h) (atT xs lo) < 0)) md hi
abbrev insB (lo md : Nat) (xs : List Tm) : Nat := bsr (fun h => !decide (cmpT (atT xs md) (atT xs h) < 0)) lo md
abbrev cutP (n : Nat) (xs : List Tm) (c : Nat) : Bool := !decide (cmpT (atT xs (n - 1 - c)) (atT xs c) < 0)
abbrev cutS (lo md hi : Nat) (xs : List Tm) : Nat := bsr (cutP ((lo + hi) / 2 + md) xs) (if (lo + hi) / 2 < md then (lo + hi) / 2 + md - hi else lo) (if (lo + hi) / 2 < md then (lo + hi) / 2 else md)
/-- The sorted runs from lo to md and from md to hi are merged. -/
def symF : Nat → Nat → Nat → Nat → List Tm → List Tm
  | 0, _, _, _, xs => xs
  | f + 1, lo, md, hi, xs =>
    if md - lo = 1 then upS (insA lo md hi xs - 1 - lo) lo xs
    else if hi - md = 1 then dnS (md - insB lo md xs) md xs
    else
      let s := cutS lo md hi xs
      let e := (lo + hi) / 2 + md - s
      let y := if s < md ∧ md < e then rotT md s e xs else xs
      let z := if lo < s ∧ s < (lo + hi) / 2 then symF f lo s ((lo + hi) / 2) y else y
      if (lo + hi) / 2 < e ∧ e < hi then symF f ((lo + hi) / 2) e hi z else z
theorem symF_len : ∀ f lo md hi xs, (symF f lo md hi xs).length = xs.length
  | 0, _, _, _, _ => rfl
  | f + 1, lo, md, hi, xs => by
    rw [symF]; split
    · exact upS_len ..
    · split
      · exact dnS_len ..
      · have hy : (if cutS lo md hi xs < md ∧ md < (lo + hi) / 2 + md - cutS lo md hi xs then rotT md (cutS lo md hi xs) ((lo + hi) / 2 + md - cutS lo md hi xs) xs else xs).length = xs.length := by
          split
          · exact rotF_len ..
          · rfl
        have hz : (if lo < cutS lo md hi xs ∧ cutS lo md hi xs < (lo + hi) / 2 then symF f lo (cutS lo md hi xs) ((lo + hi) / 2) (if cutS lo md hi xs < md ∧ md < (lo + hi) / 2 + md - cutS lo md hi xs then rotT md (cutS lo md hi xs) ((lo + hi) / 2 + md - cutS lo md hi xs) xs else xs)
            else (if cutS lo md hi xs < md ∧ md < (lo + hi) / 2 + md - cutS lo md hi xs then rotT md (cutS lo md hi xs) ((lo + hi) / 2 + md - cutS lo md hi xs) xs else xs)).length = xs.length := by
          split
          · rw [symF_len f]; exact hy
          · exact hy
        dsimp only
        split
        · rw [symF_len f]; exact hz
        · exact hz
theorem symF_A {f lo md hi : Nat} {xs : List Tm} (h : md - lo = 1) {i : Nat} (hi' : i = insA lo md hi xs) : upS (i - 1 - lo) lo xs = symF (f + 1) lo md hi xs := by rw [symF, if_pos h, hi']
theorem symF_B {f lo md hi : Nat} {xs : List Tm} (h0 : ¬ md - lo = 1) (h : hi - md = 1) {i : Nat} (hi' : i = insB lo md xs) : dnS (md - i) md xs = symF (f + 1) lo md hi xs := by rw [symF, if_neg h0, if_pos h, hi']
theorem symF_C {f lo md hi : Nat} {xs y z : List Tm} {s e : Nat} (h0 : ¬ md - lo = 1) (h : ¬ hi - md = 1) (hs : s = cutS lo md hi xs) (he : e = (lo + hi) / 2 + md - s) (hy : y = if s < md ∧ md < e then rotT md s e xs else xs)
    (hz : z = if lo < s ∧ s < (lo + hi) / 2 then symF f lo s ((lo + hi) / 2) y else y) : (if (lo + hi) / 2 < e ∧ e < hi then symF f ((lo + hi) / 2) e hi z else z) = symF (f + 1) lo md hi xs := by
  subst hz; subst hy; subst he; subst hs
  rw [symF.eq_2, if_neg h0, if_neg h]
theorem cmpT_def (x y : Tm) : cmpMo y.exp x.exp = cmpT x y := rfl
theorem w_half {i j : Nat} : ((i : Int) + (j : Int)).fdiv (2 ^ (min (1 : Int).toNat 64)) = (((i + j) / 2 : Nat) : Int) := by
  have e : ((2 : Int) ^ (min (1 : Int).toNat 64)) = 2 := by decide
  rw [e, Int.fdiv_eq_ediv_of_nonneg _ (by decide)]; omega

/-- Blocks of 20 are sorted, from a on. -/
def blF (n : Nat) : Nat → Nat → List Tm → List Tm
  | 0, _, xs => xs
  | f + 1, a, xs => if a + 20 ≤ n then blF n f (a + 20) (insT a (a + 20 - (a + 1)) (a + 1) xs) else insT a (n - (a + 1)) (a + 1) xs
/-- Runs of z are merged in pairs, from a on. -/
def psF (n z : Nat) : Nat → Nat → List Tm → List Tm
  | 0, _, xs => xs
  | f + 1, a, xs => if a + 2 * z ≤ n then psF n z f (a + 2 * z) (symF (2 * z) a (a + z) (a + 2 * z) xs) else if a + z < n then symF (n - a) a (a + z) n xs else xs
def mgF (n : Nat) : Nat → Nat → List Tm → List Tm
  | 0, _, xs => xs
  | f + 1, z, xs => if z < n then mgF n f (z * 2) (psF n z (n + 1) 0 xs) else xs
/-- The stable sort. -/
def stT (xs : List Tm) : List Tm := mgF xs.length xs.length 20 (blF xs.length (xs.length + 1) 0 xs)
theorem blF_len (n : Nat) : ∀ f a xs, (blF n f a xs).length = xs.length
  | 0, _, _ => rfl
  | f + 1, a, xs => by
    rw [blF]; split
    · rw [blF_len n f, insT_len]
    · exact insT_len ..
theorem psF_len (n z : Nat) : ∀ f a xs, (psF n z f a xs).length = xs.length
  | 0, _, _ => rfl
  | f + 1, a, xs => by
    rw [psF]; split
    · rw [psF_len n z f, symF_len]
    · split
      · exact symF_len ..
      · rfl
theorem mgF_len (n : Nat) : ∀ f z xs, (mgF n f z xs).length = xs.length
  | 0, _, _ => rfl
  | f + 1, z, xs => by
    rw [mgF]; split
    · rw [mgF_len n f, psF_len]
    · rfl
theorem stT_len (xs : List Tm) : (stT xs).length = xs.length := by rw [stT, mgF_len, blF_len]
theorem blF_go {n f a : Nat} {xs : List Tm} (hf : 0 < f) (h : a + 20 ≤ n) : blF n (f - 1) (a + 20) (insT a (a + 20 - (a + 1)) (a + 1) xs) = blF n f a xs := by
  obtain ⟨g, rfl⟩ : ∃ g, f = g + 1 := ⟨f - 1, by omega⟩
  rw [blF.eq_2, if_pos h]; rfl
theorem blF_end {n f a : Nat} {xs : List Tm} (hf : 0 < f) (h : ¬ a + 20 ≤ n) : insT a (n - (a + 1)) (a + 1) xs = blF n f a xs := by
  obtain ⟨g, rfl⟩ : ∃ g, f = g + 1 := ⟨f - 1, by omega⟩
  rw [blF.eq_2, if_neg h]
theorem psF_go {n z f a : Nat} {xs : List Tm} (hf : 0 < f) (h : a + 2 * z ≤ n) : psF n z (f - 1) (a + 2 * z) (symF (2 * z) a (a + z) (a + 2 * z) xs) = psF n z f a xs := by
  obtain ⟨g, rfl⟩ : ∃ g, f = g + 1 := ⟨f - 1, by omega⟩
  rw [psF.eq_2, if_pos h]; rfl
theorem psF_end {n z f a : Nat} {xs : List Tm} (hf : 0 < f) (h : ¬ a + 2 * z ≤ n) : (if a + z < n then symF (n - a) a (a + z) n xs else xs) = psF n z f a xs := by
  obtain ⟨g, rfl⟩ : ∃ g, f = g + 1 := ⟨f - 1, by omega⟩
  rw [psF.eq_2, if_neg h]
theorem mgF_go {n f z : Nat} {xs : List Tm} (hf : 0 < f) (h : z < n) : mgF n (f - 1) (z * 2) (psF n z (n + 1) 0 xs) = mgF n f z xs := by
  obtain ⟨g, rfl⟩ : ∃ g, f = g + 1 := ⟨f - 1, by omega⟩
  rw [mgF.eq_2, if_pos h]; rfl
theorem mgF_end {n f z : Nat} {xs : List Tm} (h : ¬ z < n) : xs = mgF n f z xs := by
  cases f with
  | zero => rfl
  | succ f => rw [mgF, if_neg h]
end Go.Rt
