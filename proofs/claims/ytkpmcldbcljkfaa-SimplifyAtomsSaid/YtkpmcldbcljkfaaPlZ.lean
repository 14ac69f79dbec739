/- Plain mathematics: integers as a sign and digits. Conditions: none. -/
import Derived.Test.YtkpmcldbcljkfaaRtJ
set_option linter.unusedVariables false
set_option linter.unusedSimpArgs false
namespace Go.Rt
def sgn (n : Int) : Int := if n < 0 then -1 else if n = 0 then 0 else 1
theorem mkZ_int {n : Bool} {ds : List Nat} : Z.mk (n && decide ((0 : Int) < (ds.length : Int))) ds = mkZ n ds := by
  unfold mkZ; congr 2; rw [decide_eq_decide]; omega
theorem mkZ_dig (n : Bool) (k : Nat) : mkZ n (dig k) = ofI (if n then -(k : Int) else (k : Int)) := by
  unfold mkZ ofI
  by_cases h : k = 0
  · subst h; rw [dig_zero]; cases n <;> simp [dig_zero]
  · have := dig_len_pos.2 h
    cases n with
    | true =>
      simp only [if_true, Bool.true_and, Int.natAbs_neg, Int.natAbs_natCast]
      rw [decide_eq_true this, decide_eq_true (by omega)]
    | false =>
      simp only [Bool.false_and, Int.natAbs_natCast]
      rw [decide_eq_false (by simp)]; simp
theorem mkZ_neg {n : Int} (h : n < 0) : mkZ true (dig (0 - n).toNat) = ofI n := by
  rw [mkZ_dig]; congr 1; simp; omega
theorem mkZ_pos {n : Int} (h : 0 ≤ n) : mkZ false (dig n.toNat) = ofI n := by
  rw [mkZ_dig]; congr 1; simp; omega
theorem zval_ofI (n : Int) : zval (ofI n) = n := by
  unfold zval ofI
  simp only [decide_eq_true_eq, val_dig]
  split <;> omega
/-- An integer whose digits are digits. -/
def ZOk (z : Z) : Prop := Digs z.abs
theorem zok_ofI (n : Int) : ZOk (ofI n) := digs_dig _
/-- The canonical form. -/
theorem mkZ_ofI {n : Bool} {ds : List Nat} (h : Digs ds) : mkZ n (trimD ds) = ofI (zval ⟨n, ds⟩) := by
  rw [trimD_eq h, mkZ_dig]; rfl
theorem sgn_zero {z : Z} (h : val z.abs = 0) : (0 : Int) = sgn (zval z) := by unfold zval sgn; split <;> simp [h]
theorem sgn_neg {z : Z} (h : ¬ val z.abs = 0) (h1 : z.neg = true) : (-1 : Int) = sgn (zval z) := by unfold zval sgn; rw [if_pos h1, if_pos (by omega)]
theorem sgn_pos {z : Z} (h : ¬ val z.abs = 0) (h1 : z.neg = false) : (1 : Int) = sgn (zval z) := by unfold zval sgn; rw [h1]; simp only [Bool.false_eq_true, if_false]; rw [if_neg (by omega), if_neg (by omega)]
theorem sgn_cases (n : Int) : (sgn n = -1 ∧ n < 0) ∨ (sgn n = 0 ∧ n = 0) ∨ (sgn n = 1 ∧ 0 < n) := by
  unfold sgn; split
  · exact .inl ⟨rfl, by assumption⟩
  · split
    · exact .inr (.inl ⟨rfl, by assumption⟩)
    · exact .inr (.inr ⟨rfl, by omega⟩)
theorem cmp_gt {x y : Int} (h : sgn y < sgn x) : (1 : Int) = sgn (x - y) := by
  rcases sgn_cases x with h1 | h1 | h1 <;> rcases sgn_cases y with h2 | h2 | h2 <;> rcases sgn_cases (x - y) with h3 | h3 | h3 <;> omega
theorem cmp_lt {x y : Int} (h : sgn x < sgn y) : (-1 : Int) = sgn (x - y) := by
  rcases sgn_cases x with h1 | h1 | h1 <;> rcases sgn_cases y with h2 | h2 | h2 <;> rcases sgn_cases (x - y) with h3 | h3 | h3 <;> omega
theorem cmpN_sgn (a b : Nat) : cmpN a b = sgn ((a : Int) - b) := by
  unfold cmpN sgn
  split
  · rw [if_pos (by omega)]
  · split
    · rw [if_neg (by omega), if_neg (by omega)]
    · rw [if_neg (by omega), if_pos (by omega)]
theorem cmp_neg {x y : Z} (h : ¬ sgn (zval y) < sgn (zval x)) (h0 : ¬ sgn (zval x) < sgn (zval y)) (h1 : sgn (zval x) < 0) : cmpN (val y.abs) (val x.abs) = sgn (zval x - zval y) := by
  rw [cmpN_sgn]
  have hx : zval x < 0 := by rcases sgn_cases (zval x) with q | q | q <;> omega
  have hy : zval y < 0 := by rcases sgn_cases (zval y) with q | q | q <;> omega
  congr 1
  unfold zval at *
  split at hx <;> split at hy <;> first | omega | (rename_i a b; rw [if_pos a, if_pos b]; omega)
theorem cmp_pos {x y : Z} (h : ¬ sgn (zval y) < sgn (zval x)) (h0 : ¬ sgn (zval x) < sgn (zval y)) (h1 : ¬ sgn (zval x) < 0) : cmpN (val x.abs) (val y.abs) = sgn (zval x - zval y) := by
  rw [cmpN_sgn]
  have hx : 0 ≤ zval x := by rcases sgn_cases (zval x) with q | q | q <;> omega
  have hy : 0 ≤ zval y := by rcases sgn_cases (zval y) with q | q | q <;> omega
  have ex : zval x = val x.abs := by unfold zval at *; split at hx <;> simp [*] <;> omega
  have ey : zval y = val y.abs := by unfold zval at *; split at hy <;> simp [*] <;> omega
  rw [ex, ey]
theorem sgn_sub_zero {x y : Int} : decide (sgn (x - y) = 0) = decide (x = y) := by
  rw [decide_eq_decide]; rcases sgn_cases (x - y) with q | q | q <;> omega
theorem add_same {x y : Z} (h : x.neg = y.neg) : mkZ x.neg (dig (val x.abs + val y.abs)) = ofI (zval x + zval y) := by
  rw [mkZ_dig]; congr 1; unfold zval; rw [h]; split <;> omega
theorem add_ge {x y : Z} (h : ¬ x.neg = y.neg) (h1 : val y.abs ≤ val x.abs) : mkZ x.neg (dig (val x.abs - val y.abs)) = ofI (zval x + zval y) := by
  rw [mkZ_dig]; congr 1; unfold zval
  cases hx : x.neg <;> cases hy : y.neg <;> simp_all <;> omega
theorem add_lt {x y : Z} (h : ¬ x.neg = y.neg) (h1 : ¬ val y.abs ≤ val x.abs) : mkZ y.neg (dig (val y.abs - val x.abs)) = ofI (zval x + zval y) := by
  rw [mkZ_dig]; congr 1; unfold zval
  cases hx : x.neg <;> cases hy : y.neg <;> simp_all <;> omega
theorem mul_made {x y : Z} : mkZ (!(x.neg == y.neg)) (dig (val x.abs * val y.abs)) = ofI (zval x * zval y) := by
  rw [mkZ_dig]; congr 1; unfold zval
  cases hx : x.neg <;> cases hy : y.neg <;> simp [Int.neg_mul, Int.mul_neg]
theorem slP_encI {z : Z} {v : Value} {s : St} (h : (tV encI z).p v s) : ZOk z := by
  obtain ⟨_, _, h2⟩ := h
  revert h2
  generalize v.cells.toList = cs
  intro h2
  match cs, h2 with
  | [_, _], ⟨_, _, h, _⟩ => exact slP_encD h
theorem neg_made {n : Bool} {ds : List Nat} (h : Digs ds) : mkZ (!n) (trimD ds) = ofI (- zval ⟨n, ds⟩) := by
  rw [mkZ_ofI h]; congr 1; cases n <;> simp [zval]

theorem zval_not {z : Z} : zval (Z.mk (!z.neg) z.abs) = - zval z := by unfold zval; cases z.neg <;> simp
theorem wu64_neg1 {n : Int} (h : n < 0) (h1 : -9223372036854775808 ≤ n) : IntKind.u64.wrap n = n + 18446744073709551616 := by
  simp [IntKind.wrap, IntKind.signed, IntKind.bits]; omega
theorem wu64_neg {n : Int} (h : n < 0 ∧ -9223372036854775808 ≤ n) : IntKind.u64.wrap (0 - (n + 18446744073709551616)) = 0 - n := by
  simp [IntKind.wrap, IntKind.signed, IntKind.bits]; omega
end Go.Rt
