/- Plain mathematics: relations as sets of signs. Conditions: none. -/
import Derived.Test.YtkpmcldbcljkfaaPlT
set_option linter.unusedVariables false
set_option linter.unusedSimpArgs false
namespace Go.Rt
open Go Go.RowKit

/-- The signs that a relation permits, as bits. -/
def bitsR (r : Int) : Int := if r = 1 then 1 else if r = 2 then 3 else if r = 4 then 5 else if r = 5 then 6 else if r = 6 then 4 else 2
def relR (b : Int) : Int × Bool := if bitsR 1 = b then (1, true) else if bitsR 2 = b then (2, true) else if bitsR 3 = b then (3, true) else if bitsR 4 = b then (4, true) else if bitsR 5 = b then (5, true) else if bitsR 6 = b then (6, true) else (0, false)
theorem relR_at {b : Int} {n : Nat} (hn : n < 6) (h : ∀ i : Nat, i < n → ¬ bitsR ((i : Int) + 1) = b) (h1 : bitsR ((n : Int) + 1) = b) : relR b = ((n : Int) + 1, true) := by
  match n, hn with
  | 0, _ => unfold relR; rw [if_pos (show bitsR 1 = b from h1)]; rfl
  | 1, _ => unfold relR; rw [if_neg (show ¬ bitsR 1 = b from h 0 (by omega)), if_pos (show bitsR 2 = b from h1)]; rfl
  | 2, _ => unfold relR; rw [if_neg (show ¬ bitsR 1 = b from h 0 (by omega)), if_neg (show ¬ bitsR 2 = b from h 1 (by omega)), if_pos (show bitsR 3 = b from h1)]; rfl
  | 3, _ => unfold relR; rw [if_neg (show ¬ bitsR 1 = b from h 0 (by omega)), if_neg (show ¬ bitsR 2 = b from h 1 (by omega)), if_neg (show ¬ bitsR 3 = b from h 2 (by omega)), if_pos (show bitsR 4 = b from h1)]; rfl
  | 4, _ => unfold relR; rw [if_neg (show ¬ bitsR 1 = b from h 0 (by omega)), if_neg (show ¬ bitsR 2 = b from h 1 (by omega)), if_neg (show ¬ bitsR 3 = b from h 2 (by omega)), if_neg (show ¬ bitsR 4 = b from h 3 (by omega)), if_pos (show bitsR 5 = b from h1)]; rfl
  | 5, _ => unfold relR; rw [if_neg (show ¬ bitsR 1 = b from h 0 (by omega)), if_neg (show ¬ bitsR 2 = b from h 1 (by omega)), if_neg (show ¬ bitsR 3 = b from h 2 (by omega)), if_neg (show ¬ bitsR 4 = b from h 3 (by omega)), if_neg (show ¬ bitsR 5 = b from h 4 (by omega)), if_pos (show bitsR 6 = b from h1)]; rfl
theorem relR_no {b : Int} {n : Nat} (hn : 6 ≤ n) (h : ∀ i : Nat, i < n → ¬ bitsR ((i : Int) + 1) = b) : relR b = (0, false) := by
  unfold relR
  rw [if_neg (show ¬ bitsR 1 = b from h 0 (by omega)), if_neg (show ¬ bitsR 2 = b from h 1 (by omega)), if_neg (show ¬ bitsR 3 = b from h 2 (by omega)), if_neg (show ¬ bitsR 4 = b from h 3 (by omega)), if_neg (show ¬ bitsR 5 = b from h 4 (by omega)), if_neg (show ¬ bitsR 6 = b from h 5 (by omega))]
theorem sign_w {n : Int} (h : -1 ≤ n ∧ n ≤ 1) : IntKind.i64.wrap (1 * 2 ^ (min (n + 1).toNat IntKind.i64.bits)) = 2 ^ (n + 1).toNat := by
  rcases (show n = -1 ∨ n = 0 ∨ n = 1 by omega) with rfl | rfl | rfl <;> rfl
def truthM (b : Bool) : Mx := if b = true then .mk 1 0 p0 [] else .mk 0 0 p0 []
def holdsR (r s : Int) : Bool := if r = 1 then decide (s < 0) else if r = 2 then decide (s ≤ 0) else if r = 4 then !decide (s = 0) else if r = 5 then decide (0 ≤ s) else if r = 6 then decide (0 < s) else decide (s = 0)
abbrev meetR (a b : Int) : Int × Bool := relR (bitsOf .and .i64 (bitsR a) (bitsR b))
abbrev joinR (a b : Int) : Int × Bool := relR (bitsOf .or .i64 (bitsR a) (bitsR b))
def someR (a b : Int) : Nat → Bool
  | 0 => false
  | n + 1 => someR a b n || (holdsR a ((n : Int) - 1) && holdsR b ((n : Int) - 1))
def allR (a b : Int) : Nat → Bool
  | 0 => true
  | n + 1 => allR a b n && (holdsR a ((n : Int) - 1) || holdsR b ((n : Int) - 1))
/-- A relation that is none of the six counts as '='. -/
def stdR (r : Int) : Int := if r = 1 ∨ r = 2 ∨ r = 4 ∨ r = 5 ∨ r = 6 then r else 3
theorem stdR_cases (r : Int) : stdR r = 1 ∨ stdR r = 2 ∨ stdR r = 3 ∨ stdR r = 4 ∨ stdR r = 5 ∨ stdR r = 6 := by
  unfold stdR; split <;> omega
theorem bitsR_std (r : Int) : bitsR r = bitsR (stdR r) := by
  by_cases h : r = 1 ∨ r = 2 ∨ r = 4 ∨ r = 5 ∨ r = 6
  · unfold stdR; rw [if_pos h]
  · unfold stdR; rw [if_neg h]; unfold bitsR
    rw [if_neg (by omega), if_neg (by omega), if_neg (by omega), if_neg (by omega), if_neg (by omega)]; rfl
theorem holdsR_std (r s : Int) : holdsR r s = holdsR (stdR r) s := by
  by_cases h : r = 1 ∨ r = 2 ∨ r = 4 ∨ r = 5 ∨ r = 6
  · unfold stdR; rw [if_pos h]
  · unfold stdR; rw [if_neg h]; unfold holdsR
    rw [if_neg (by omega), if_neg (by omega), if_neg (by omega), if_neg (by omega), if_neg (by omega)]; rfl
theorem someR_std (a b : Int) (n : Nat) : someR a b n = someR (stdR a) (stdR b) n := by
  induction n with
  | zero => rfl
  | succ n ih => rw [someR, someR, ih, holdsR_std a, holdsR_std b]
theorem allR_std (a b : Int) (n : Nat) : allR a b n = allR (stdR a) (stdR b) n := by
  induction n with
  | zero => rfl
  | succ n ih => rw [allR, allR, ih, holdsR_std a, holdsR_std b]
def wrongR (a b s : Int) : Bool := ((meetR a b).2 && !(holdsR (meetR a b).1 s == (holdsR a s && holdsR b s))) || ((joinR a b).2 && !(holdsR (joinR a b).1 s == (holdsR a s || holdsR b s)))
def endR (a b : Int) : Bool :=
  (((meetR a b).2 == someR a b 3) && ((joinR a b).2 == !(allR a b 3))) &&
  ((((meetR a b).2 && decide (1 ≤ (meetR a b).1)) && decide ((meetR a b).1 ≤ 6)) || (!(meetR a b).2 && decide ((meetR a b).1 = 0))) &&
  ((((joinR a b).2 && decide (1 ≤ (joinR a b).1)) && decide ((joinR a b).1 ≤ 6)) || (!(joinR a b).2 && decide ((joinR a b).1 = 0)))
theorem wrongR_no (a b s : Int) (hs : s = -1 ∨ s = 0 ∨ s = 1) : wrongR a b s = false := by
  unfold wrongR meetR joinR
  rw [bitsR_std a, bitsR_std b, holdsR_std a, holdsR_std b]
  rcases stdR_cases a with h | h | h | h | h | h <;> rcases stdR_cases b with k | k | k | k | k | k <;> rcases hs with rfl | rfl | rfl <;> rw [h, k] <;> rfl
theorem endR_yes (a b : Int) : endR a b = true := by
  unfold endR meetR joinR
  rw [bitsR_std a, bitsR_std b, someR_std, allR_std]
  rcases stdR_cases a with h | h | h | h | h | h <;> rcases stdR_cases b with k | k | k | k | k | k <;> rw [h, k] <;> rfl

/-! ### The sign normal form of a list of terms -/
def gcdT (ts : List Tm) : Int := ts.foldl (fun g t => (Int.gcd g (zval t.coef) : Int)) 0
def contS (ts : List Tm) : Int := gcdT (normS ts)
def signC (ts : List Tm) : Int := if zval (atT (normS ts) 0).coef < 0 then - contS (normS ts) else contS (normS ts)
def divT (c : Int) (t : Tm) : Tm := ⟨ofI (zval t.coef / c), t.exp⟩
def signS (ts : List Tm) : List Tm := (normS ts).map (divT (signC ts))
/-- The divisor that the program takes: the content is taken of what is already canonical. -/
def signO (ts : List Tm) : Int := if zval (atT (normS ts) 0).coef < 0 then - contS (normS ts) else contS (normS ts)
theorem signO_abs (ts : List Tm) : (signO ts).natAbs = (contS (normS ts)).natAbs := by unfold signO; split <;> simp
theorem contO_len {ts : List Tm} (hc : 0 < (signO ts).natAbs ∧ (signO ts).natAbs < 4294967296) : (ofI (contS (normS ts))).abs.length ≤ 1099511627776 := by
  rw [signO_abs] at hc
  have := dig_len_pow (n := (contS (normS ts)).natAbs) (k := 1) (by simpa [B32] using hc.2)
  exact Nat.le_trans this (by omega)
theorem signO_len {ts : List Tm} {g : Int} (h : g = signO ts) (hc : 0 < (signO ts).natAbs ∧ (signO ts).natAbs < 4294967296) : (ofI g).abs.length ≤ 1099511627776 := by
  subst h
  have := dig_len_pow (n := (signO ts).natAbs) (k := 1) (by simpa [B32] using hc.2)
  exact Nat.le_trans this (by omega)
theorem signO_val {ts : List Tm} {g : Int} (h : g = signO ts) (hc : 0 < (signO ts).natAbs ∧ (signO ts).natAbs < 4294967296) : 0 < val (ofI g).abs ∧ val (ofI g).abs < 4294967296 := by
  subst h; show 0 < val (dig _) ∧ val (dig _) < _; rw [val_dig]; exact hc
/-- The first k elements are done. -/
def fillT (f : Tm → Tm) (ts : List Tm) (k : Nat) : List Tm := (ts.take k).map f ++ ts.drop k
theorem fillT_len {f : Tm → Tm} {ts : List Tm} (k : Nat) : (fillT f ts k).length = ts.length := by
  unfold fillT; simp; omega
theorem fillT_zero {f : Tm → Tm} {ts : List Tm} : ts = fillT f ts 0 := by simp [fillT]
theorem fillT_full {f : Tm → Tm} {ts : List Tm} {k : Nat} (h : ts.length ≤ k) : fillT f ts k = ts.map f := by simp [fillT, List.take_of_length_le h, List.drop_of_length_le h]
theorem fillT_el {f : Tm → Tm} {ts : List Tm} {k : Nat} (h : k < ts.length) : (fillT f ts k)[k]? = some (atT ts k) := by
  unfold fillT
  rw [List.getElem?_append_right (by simp; omega)]
  have e : k - ((ts.take k).map f).length = 0 := by simp; omega
  rw [e, List.getElem?_drop, Nat.add_zero, atT_some h]
theorem fillT_set {f : Tm → Tm} {ts : List Tm} {k : Nat} (h : k < ts.length) : (fillT f ts k).set k (f (atT ts k)) = fillT f ts (k + 1) := by
  unfold fillT
  have hl : ((ts.take k).map f).length = k := by simp; omega
  have e : ts.take (k + 1) = ts.take k ++ [atT ts k] := by
    rw [List.take_succ_eq_append_getElem h, atT, List.getD_eq_getElem?_getD, List.getElem?_eq_getElem h]; rfl
  rw [List.set_append_right _ _ (by omega), hl, Nat.sub_self, e, drop_atT h]
  simp
end Go.Rt
