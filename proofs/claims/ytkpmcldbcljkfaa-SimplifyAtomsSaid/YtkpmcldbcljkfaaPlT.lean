/- Plain mathematics: quotients and greatest common divisors of integers as signs and digits. Conditions: none. -/
import Derived.Test.YtkpmcldbcljkfaaPlS
set_option linter.unusedVariables false
set_option linter.unusedSimpArgs false
namespace Go.Rt
open Go Go.RowKit

theorem trimD_one {ds : List Nat} (h : Digs ds) (hb : 0 < val ds ∧ val ds < 4294967296) : (trimD ds).length = 1 := by
  rw [trimD_eq h]
  have h1 := dig_len_pow (n := val ds) (k := 1) (by simpa [B32] using hb.2)
  have h2 := dig_len_pos (n := val ds)
  have := h2.2 (by omega)
  omega
theorem zval_zero' {z : Z} : (val z.abs = 0) = (zval z = 0) := by unfold zval; apply propext; split <;> omega
theorem zval_zero {z : Z} : decide (val z.abs = 0) = decide (zval z = 0) := by rw [decide_eq_decide, zval_zero']
theorem quo_fit {ds : Z} {b : Nat} (h : ZOk ds) : (dig (val ds.abs / b)).length ≤ ds.abs.length ∧ (dig (val ds.abs % b)).length ≤ ds.abs.length :=
  ⟨dig_len_pow (Nat.lt_of_le_of_lt (Nat.div_le_self _ _) (val_lt h)), dig_len_pow (Nat.lt_of_le_of_lt (Nat.mod_le _ _) (val_lt h))⟩
theorem natAbs_zval (z : Z) : (zval z).natAbs = val z.abs := by unfold zval; split <;> simp
theorem tmod_fit {x y : Z} (h : ZOk x) : (ofI ((zval x).tmod (zval y))).abs.length ≤ x.abs.length := by
  refine dig_len_pow ?_
  rw [Int.natAbs_tmod, natAbs_zval]
  exact Nat.lt_of_le_of_lt (Nat.mod_le _ _) (val_lt h)
theorem quo_tdiv {x y : Z} : ofI (zval (Z.mk (!(x.neg == y.neg)) (dig (val x.abs / val y.abs)))) = ofI ((zval x).tdiv (zval y)) := by
  congr 1; unfold zval
  cases hx : x.neg <;> cases hy : y.neg <;> simp [val_dig, Int.neg_tdiv, Int.tdiv_neg, Int.ofNat_tdiv]
theorem quo_tmod {x y : Z} : ofI (zval (Z.mk (x.neg) (dig (val x.abs % val y.abs)))) = ofI ((zval x).tmod (zval y)) := by
  congr 1; unfold zval
  cases hx : x.neg <;> cases hy : y.neg <;> simp [val_dig, Int.neg_tmod, Int.tmod_neg, Int.tmod_eq_emod_of_nonneg (Int.natCast_nonneg _)]
theorem gcd_ret {x y : Z} {m n : Nat} (hg : Nat.gcd m n = Nat.gcd (val x.abs) (val y.abs)) (hn : n = 0) : ofI (zval (Z.mk false (dig m))) = ofI (Int.gcd (zval x) (zval y)) := by
  subst hn
  rw [Nat.gcd_zero_right] at hg
  congr 1
  rw [Int.gcd_eq_natAbs_gcd_natAbs, natAbs_zval, natAbs_zval, ← hg]
  simp [zval, val_dig]
theorem gcd_ret0 {x y : Z} (hd : ZOk x) (h : val y.abs = 0) : ofI (zval (Z.mk false (trimD x.abs))) = ofI (Int.gcd (zval x) (zval y)) := by
  congr 1
  rw [Int.gcd_eq_natAbs_gcd_natAbs, natAbs_zval, natAbs_zval, h, Nat.gcd_zero_right]
  simp [zval, val_trimD hd]

/-! ### The terms of a polynomial in recursive form -/
mutual
def termsP : Pol → Mo → List Tm
  | .mk l c cs, m => if l = 0 then [⟨c, m⟩] else termsL l cs 0 m
def termsL : Int → List Pol → Nat → Mo → List Tm
  | _, [], _, _ => []
  | l, p :: ps, i, m => termsP p (m.set (l - 1).toNat i) ++ termsL l ps (i + 1) m
end
/-- The terms of the first k coefficients. -/
def termsK (f : Pol → Nat → List Tm) (cs : List Pol) (k : Nat) : List Tm := (List.range k).flatMap fun i => f (atP cs i) i
theorem termsK_succ (f : Pol → Nat → List Tm) (cs : List Pol) (k : Nat) : termsK f cs (k + 1) = termsK f cs k ++ f (atP cs k) k := by
  unfold termsK; rw [List.range_succ, List.flatMap_append]; simp
theorem termsL_eq (l : Int) (m : Mo) : ∀ (cs : List Pol) (i : Nat), termsL l cs i m = (List.range cs.length).flatMap fun j => termsP (atP cs j) (m.set (l - 1).toNat ((i + j : Nat) : Int))
  | [], i => by simp [termsL]
  | p :: ps, i => by
    rw [termsL, termsL_eq l m ps (i + 1), List.length_cons, List.range_succ_eq_map, List.flatMap_cons, List.flatMap_map]
    congr 1
    congr 1
    funext j
    show termsP (atP ps j) _ = termsP (atP (p :: ps) (j + 1)) _
    rw [show i + 1 + j = i + (j + 1) by omega]
    rfl
theorem termsP_eq (p : Pol) (m : Mo) : termsP p m = if p.lv = 0 then [⟨p.c, m⟩] else termsK (fun q i => termsP q (m.set (p.lv - 1).toNat (i : Int))) p.cs p.cs.length := by
  cases p with
  | mk l c cs =>
    rw [termsP]
    show (if l = 0 then _ else _) = if l = 0 then _ else _
    split
    · rfl
    · rw [termsL_eq]; unfold termsK; simp [Pol.lv, Pol.cs]
theorem termsK_mono (f : Pol → Nat → List Tm) (cs : List Pol) {k n : Nat} (h : k ≤ n) : (termsK f cs k).length ≤ (termsK f cs n).length := by
  induction h with
  | refl => exact Nat.le_refl _
  | step _ ih => rw [termsK_succ, List.length_append]; omega
theorem termsK_at (f : Pol → Nat → List Tm) (cs : List Pol) {k n : Nat} (h : k < n) : (f (atP cs k) k).length ≤ (termsK f cs n).length := by
  have := termsK_mono f cs (show k + 1 ≤ n by omega)
  rw [termsK_succ, List.length_append] at this
  omega
theorem Lev.sub {k : Nat} {p : Pol} (h : Lev k p) (hl : ¬ p.lv = 0) : 0 < p.cs.length ∧ 0 < p.lv ∧ p.lv ≤ k ∧ ∀ q ∈ p.cs, Lev k q := by
  cases h with
  | zero => exact absurd rfl hl
  | succ h hc hs => exact ⟨hc, by simp only [Pol.lv]; omega, by simp only [Pol.lv]; omega, fun q hq => (hs q hq).mono (by omega)⟩
theorem termsP_ne {k : Nat} {p : Pol} : ∀ {m : Mo}, Lev k p → termsP p m ≠ [] := by
  induction p using Pol.ind
  rename_i p ih
  intro m h
  rw [termsP_eq]
  split
  · simp
  · rename_i hl
    obtain ⟨h1, _, _, h2⟩ := h.sub hl
    obtain ⟨n, hn⟩ : ∃ n, p.cs.length = n + 1 := ⟨p.cs.length - 1, by omega⟩
    rw [hn, termsK_succ]
    intro e
    exact ih _ (atP_mem (by omega)) (h2 _ (atP_mem (by omega))) (List.append_eq_nil_iff.1 e).2
theorem Mo.set_set {m : Mo} {j : Nat} {x y : Int} : (m.set j x).set j y = m.set j y := by
  match j with
  | 0 => rfl
  | 1 => rfl
  | 2 => rfl
  | n + 3 => rfl
theorem termsP_fit {B : Nat} {p : Pol} : ∀ {m : Mo}, Fit B p → ∀ t ∈ termsP p m, Digs t.coef.abs ∧ t.coef.abs.length ≤ B := by
  induction p using Pol.ind
  rename_i p ih
  intro m h t ht
  rw [termsP_eq] at ht
  split at ht
  · simp at ht; subst ht; exact ⟨h.d, h.c⟩
  · obtain ⟨i, hi, h2⟩ := List.mem_flatMap.1 ht
    have hi' := List.mem_range.1 hi
    exact ih _ (atP_mem hi') (h.at hi') t h2
def mo0 : Mo := ⟨0, 0, 0, 0⟩
end Go.Rt
