/- Plain mathematics: polynomials as lists of terms, as the program's functions treat them. Conditions: none. -/
import Derived.Test.YtkpmcldbcljkfaaPlP
import Derived.Test.YtkpmcldbcljkfaaRtM
set_option linter.unusedVariables false
set_option linter.unusedSimpArgs false
namespace Go.Rt
open Go Go.RowKit

/-- Monomials compared in their first k exponents, the last one of them first. -/
def cmpTo : Nat → Mo → Mo → Int
  | 0, _, _ => 0
  | k + 1, m, n => if m.at k < n.at k then -1 else if n.at k < m.at k then 1 else cmpTo k m n
def cmpMo (m n : Mo) : Int := cmpTo 4 m n
theorem cmpTo_lt {k : Nat} {m n : Mo} (h0 : 0 < k) (h : m.at (k - 1) < n.at (k - 1)) : (-1 : Int) = cmpTo k m n := by
  obtain ⟨j, rfl⟩ : ∃ j, k = j + 1 := ⟨k - 1, by omega⟩
  have h' : m.at j < n.at j := h
  rw [cmpTo, if_pos h']
theorem cmpTo_gt {k : Nat} {m n : Mo} (h0 : 0 < k) (h : n.at (k - 1) < m.at (k - 1)) : (1 : Int) = cmpTo k m n := by
  obtain ⟨j, rfl⟩ : ∃ j, k = j + 1 := ⟨k - 1, by omega⟩
  have h' : n.at j < m.at j := h
  rw [cmpTo, if_neg (by omega), if_pos h']
theorem cmpTo_eq {k : Nat} {m n : Mo} (h0 : 0 < k) (h : ¬ m.at (k - 1) < n.at (k - 1)) (h1 : ¬ n.at (k - 1) < m.at (k - 1)) : cmpTo (k - 1) m n = cmpTo k m n := by
  obtain ⟨j, rfl⟩ : ∃ j, k = j + 1 := ⟨k - 1, by omega⟩
  have h2 : ¬ m.at j < n.at j := h
  have h3 : ¬ n.at j < m.at j := h1
  rw [cmpTo.eq_2, if_neg h2, if_neg h3]; rfl

def minL : Int → List Int → Int
  | a, [] => a
  | a, b :: l => minL (min a b) l
def t0 : Tm := ⟨z0, ⟨0, 0, 0, 0⟩⟩
def atT (ts : List Tm) (i : Nat) : Tm := ts.getD i t0
theorem atT_some {ts : List Tm} {i : Nat} (h : i < ts.length) : ts[i]? = some (atT ts i) := by
  unfold atT; simp [List.getD_eq_getElem?_getD, List.getElem?_eq_getElem h]
theorem atT_at {ts : List Tm} {i : Int} {j : Nat} (h1 : i.toNat = j) (h2 : j < ts.length) : ts[i.toNat]? = some (atT ts j) := by subst h1; exact atT_some h2
theorem atT_mem {ts : List Tm} {i : Nat} (h : i < ts.length) : atT ts i ∈ ts := List.mem_of_getElem? (atT_some h)
def atN (l : List Int) (i : Nat) : Int := l.getD i 0
theorem atN_at {l : List Int} {i : Int} {j : Nat} (h1 : i.toNat = j) (h2 : j < l.length) : l[i.toNat]? = some (atN l j) := by
  subst h1; unfold atN; simp [List.getD_eq_getElem?_getD, List.getElem?_eq_getElem h2]
theorem drop_atN {l : List Int} {k : Nat} (h : k < l.length) : l.drop k = atN l k :: l.drop (k + 1) := by
  rw [List.drop_eq_getElem_cons h]; unfold atN; simp [List.getD_eq_getElem?_getD, List.getElem?_eq_getElem h]
theorem minL_step {l : List Int} {k : Nat} {a : Int} (h : k < l.length) : minL (min a (atN l k)) (l.drop (k + 1)) = minL a (l.drop k) := by rw [drop_atN h]; rfl
theorem minL_end {l : List Int} {k : Nat} {a : Int} (h : l.length ≤ k) : minL a (l.drop k) = a := by rw [List.drop_of_length_le h]; rfl
/-- How terms are compared: the greatest monomial first. -/
def cmpT (x y : Tm) : Int := cmpMo y.exp x.exp
/-- The element j is moved to the front, as long as it belongs ahead, but not ahead of a. -/
def siftT (a : Nat) : Nat → List Tm → List Tm
  | 0, xs => xs
  | j + 1, xs => if a < j + 1 ∧ cmpT (atT xs (j + 1)) (atT xs j) < 0 then siftT a j ((xs.set (j + 1) (atT xs j)).set j (atT xs (j + 1))) else xs
theorem siftT_go {a j : Nat} {xs : List Tm} (h : a < j) (h1 : cmpT (atT xs j) (atT xs (j - 1)) < 0) : siftT a (j - 1) ((xs.set j (atT xs (j - 1))).set (j - 1) (atT xs j)) = siftT a j xs := by
  obtain ⟨k, rfl⟩ : ∃ k, j = k + 1 := ⟨j - 1, by omega⟩
  have h1' : cmpT (atT xs (k + 1)) (atT xs k) < 0 := h1
  rw [siftT.eq_2, if_pos ⟨h, h1'⟩]; rfl
theorem siftT_stop {a j : Nat} {xs : List Tm} (h : ¬ a < j ∨ ¬ cmpT (atT xs j) (atT xs (j - 1)) < 0) : siftT a j xs = xs := by
  cases j with
  | zero => rfl
  | succ k =>
    have h' : ¬ (a < k + 1 ∧ cmpT (atT xs (k + 1)) (atT xs k) < 0) := fun q => h.elim (fun h => h q.1) (fun h => h q.2)
    rw [siftT, if_neg h']
theorem siftT_len (a : Nat) : ∀ (j : Nat) (xs : List Tm), (siftT a j xs).length = xs.length
  | 0, xs => rfl
  | j + 1, xs => by
    rw [siftT]; split
    · rw [siftT_len a j]; simp
    · rfl
/-- n more elements, from i on, are put in. -/
def insT (a : Nat) : Nat → Nat → List Tm → List Tm
  | 0, _, xs => xs
  | n + 1, i, xs => insT a n (i + 1) (siftT a i xs)
theorem insT_len (a : Nat) : ∀ (n i : Nat) (xs : List Tm), (insT a n i xs).length = xs.length
  | 0, _, xs => rfl
  | n + 1, i, xs => by rw [insT, insT_len a n, siftT_len]
theorem insT_step {a b i : Nat} {xs : List Tm} (h : i < b) : insT a (b - (i + 1)) (i + 1) (siftT a i xs) = insT a (b - i) i xs := by
  rw [show b - i = (b - (i + 1)) + 1 by omega, insT]
theorem insT_end {a b i : Nat} {xs : List Tm} (h : b ≤ i) : insT a (b - i) i xs = xs := by rw [Nat.sub_eq_zero_of_le h]; rfl
/-- At most one block. -/
def sortT (xs : List Tm) : List Tm := insT 0 (xs.length - 1) 1 xs
theorem sortT_len (xs : List Tm) : (sortT xs).length = xs.length := insT_len ..

/-! ### The canonical form of a list of terms -/
/-- No exponent is negative. -/
def okT (t : Tm) : Bool := decide (0 ≤ minL t.exp.a [t.exp.b, t.exp.c, t.exp.d])
def keepT (ts : List Tm) : List Tm := ts.filter okT
theorem keepT_take {ts : List Tm} {k : Nat} (h : k < ts.length) : keepT (ts.take (k + 1)) = keepT (ts.take k) ++ (if okT (atT ts k) then [atT ts k] else []) := by
  have : ts.take (k + 1) = ts.take k ++ [atT ts k] := by
    rw [List.take_succ_eq_append_getElem h, atT, List.getD_eq_getElem?_getD, List.getElem?_eq_getElem h]; rfl
  rw [this, keepT, keepT, List.filter_append]
  congr 1
  by_cases q : okT (atT ts k) = true <;> simp [q]
theorem keepT_yes {ts : List Tm} {k : Nat} (h : k < ts.length) (h1 : okT (atT ts k) = true) : keepT (ts.take k) ++ [atT ts k] = keepT (ts.take (k + 1)) := by rw [keepT_take h, if_pos h1]
theorem keepT_no {ts : List Tm} {k : Nat} (h : k < ts.length) (h1 : ¬ okT (atT ts k) = true) : keepT (ts.take k) = keepT (ts.take (k + 1)) := by rw [keepT_take h, if_neg h1, List.append_nil]
theorem keepT_len (ts : List Tm) : (keepT ts).length ≤ ts.length := List.length_filter_le _ _
theorem okT_iff {t : Tm} : okT t = true ↔ 0 ≤ minL (atN t.exp.list 0) (t.exp.list.drop 1) := by unfold okT; rw [decide_eq_true_eq]; rfl

/-- The sum of the coefficients of the first terms that have the monomial m, from the number c on; and the terms behind them. -/
def sumRun (m : Mo) : Int → List Tm → Int × List Tm
  | c, [] => (c, [])
  | c, t :: ts => if t.exp = m then sumRun m (c + zval t.coef) ts else (c, t :: ts)
theorem sumRun_len (m : Mo) : ∀ (c : Int) (ts : List Tm), (sumRun m c ts).2.length ≤ ts.length
  | c, [] => Nat.le_refl _
  | c, t :: ts => by
    rw [sumRun]; split
    · exact Nat.le_succ_of_le (sumRun_len m _ ts)
    · exact Nat.le_refl _
/-- Neighbours with the same monomial are added up; zeros are left out. -/
def mergeT : List Tm → List Tm
  | [] => []
  | t :: ts => (if (sumRun t.exp (zval t.coef) ts).1 = 0 then [] else [⟨ofI (sumRun t.exp (zval t.coef) ts).1, t.exp⟩]) ++ mergeT (sumRun t.exp (zval t.coef) ts).2
termination_by ts => ts.length
decreasing_by simp; exact Nat.lt_succ_of_le (sumRun_len ..)
/-- The canonical form. -/
def normS (ts : List Tm) : List Tm := mergeT (sortT (keepT ts))
theorem drop_atT {ts : List Tm} {k : Nat} (h : k < ts.length) : ts.drop k = atT ts k :: ts.drop (k + 1) := by
  rw [List.drop_eq_getElem_cons h]; unfold atT; simp [List.getD_eq_getElem?_getD, List.getElem?_eq_getElem h]
theorem mergeT_drop {ts : List Tm} {k : Nat} (h : k < ts.length) : mergeT (ts.drop k) = (if (sumRun (atT ts k).exp 0 (ts.drop k)).1 = 0 then [] else [⟨ofI (sumRun (atT ts k).exp 0 (ts.drop k)).1, (atT ts k).exp⟩]) ++ mergeT (sumRun (atT ts k).exp 0 (ts.drop k)).2 := by
  rw [drop_atT h, mergeT]
  have : sumRun (atT ts k).exp 0 (atT ts k :: ts.drop (k + 1)) = sumRun (atT ts k).exp (zval (atT ts k).coef) (ts.drop (k + 1)) := by rw [sumRun, if_pos rfl, Int.zero_add]
  rw [this]
theorem sumRun_step {ts : List Tm} {k : Nat} {m : Mo} {c : Int} (h : k < ts.length) (h1 : (atT ts k).exp = m) : sumRun m (c + zval (atT ts k).coef) (ts.drop (k + 1)) = sumRun m c (ts.drop k) := by rw [drop_atT h, sumRun, if_pos h1]
theorem sumRun_stop {ts : List Tm} {k : Nat} {m : Mo} {c : Int} (h : ¬ k < ts.length ∨ ¬ (atT ts k).exp = m) : sumRun m c (ts.drop k) = (c, ts.drop k) := by
  by_cases hk : k < ts.length
  · rw [drop_atT hk, sumRun, if_neg (h.resolve_left (fun q => q hk))]
  · rw [List.drop_of_length_le (by omega)]; rfl
theorem merge_yes {A O : List Tm} {i j : Nat} {q : Int} (hi : i < A.length) (hO : O ++ mergeT (A.drop i) = mergeT A) (hr : sumRun (atT A i).exp 0 (A.drop i) = (q, A.drop j)) (hq : ¬ q = 0) : (O ++ [⟨ofI q, (atT A i).exp⟩]) ++ mergeT (A.drop j) = mergeT A := by
  rw [← hO, mergeT_drop hi, hr, if_neg hq, List.append_assoc]
theorem merge_no {A O : List Tm} {i j : Nat} {q : Int} (hi : i < A.length) (hO : O ++ mergeT (A.drop i) = mergeT A) (hr : sumRun (atT A i).exp 0 (A.drop i) = (q, A.drop j)) (hq : q = 0) : O ++ mergeT (A.drop j) = mergeT A := by
  rw [← hO, mergeT_drop hi, hr, if_pos hq, List.nil_append]
theorem merge_end {A O : List Tm} {i : Nat} (hi : A.length ≤ i) (hO : O ++ mergeT (A.drop i) = mergeT A) (hn : mergeT [] = []) : O = mergeT A := by
  rw [← hO, List.drop_of_length_le hi, hn, List.append_nil]
theorem sum_fit {B j : Nat} {q : Int} (h : q.natAbs ≤ j * B32 ^ B) (hj : j ≤ 4294967295) : (dig q.natAbs).length ≤ B + 1 := by
  refine dig_len_pow (Nat.lt_of_le_of_lt h ?_)
  rw [Nat.pow_succ, Nat.mul_comm]
  exact Nat.mul_lt_mul_of_pos_left (Nat.lt_of_le_of_lt hj (by decide)) (Nat.pow_pos (by decide))
theorem sum_next {B j : Nat} {q : Int} {z : Z} (h : q.natAbs ≤ j * B32 ^ B) (hd : Digs z.abs) (hz : z.abs.length ≤ B) : (q + zval z).natAbs ≤ (j + 1) * B32 ^ B := by
  have h1 := Nat.lt_of_lt_of_le (val_pow hd) (pow_mono hz)
  have h2 : (q + zval z).natAbs ≤ q.natAbs + (zval z).natAbs := Int.natAbs_add_le _ _
  rw [Nat.add_mul, Nat.one_mul]
  omega
theorem mergeT_nil : mergeT [] = [] := by rw [mergeT]
theorem mem_set_or {α : Type} {l : List α} {i : Nat} {x y : α} (h : y ∈ l.set i x) : y ∈ l ∨ y = x := List.mem_or_eq_of_mem_set h
theorem siftT_mem {a : Nat} : ∀ {j : Nat} {xs : List Tm}, j < xs.length → ∀ t ∈ siftT a j xs, t ∈ xs
  | 0, xs, _, t, h => h
  | j + 1, xs, hj, t, h => by
    rw [siftT] at h
    split at h
    · have := siftT_mem (j := j) (by simp; omega) t h
      rcases mem_set_or this with q | q
      · rcases mem_set_or q with q | q
        · exact q
        · subst q; exact atT_mem (by omega)
      · subst q; exact atT_mem hj
    · exact h
theorem insT_mem {a : Nat} : ∀ {n i : Nat} {xs : List Tm}, i + n ≤ xs.length → ∀ t ∈ insT a n i xs, t ∈ xs
  | 0, _, _, _, _, h => h
  | n + 1, i, xs, hi, t, h => by
    rw [insT] at h
    exact siftT_mem (by omega) t (insT_mem (by rw [siftT_len]; omega) t h)
theorem sortT_mem {xs : List Tm} : ∀ t ∈ sortT xs, t ∈ xs := by
  intro t h
  by_cases h0 : xs.length = 0
  · have : xs = [] := List.eq_nil_of_length_eq_zero h0
    subst this; exact h
  · exact insT_mem (by omega) t h
end Go.Rt
