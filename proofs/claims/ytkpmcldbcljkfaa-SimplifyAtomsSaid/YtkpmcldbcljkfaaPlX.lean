/- Plain mathematics: the polynomial -x_1 on its way through the sign normal form. Conditions: none. -/
import Derived.Test.YtkpmcldbcljkfaaPlW
set_option linter.unusedVariables false
set_option linter.unusedSimpArgs false
namespace Go.Rt
open Go Go.RowKit

def e1 : Mo := ⟨1, 0, 0, 0⟩
def tA : Tm := ⟨ofI (-1), e1⟩
def tB : Tm := ⟨ofI 1, e1⟩
def pA : Pol := .mk 1 z0 [p0, constP (-1)]
def pB : Pol := .mk 1 z0 [p0, constP 1]
theorem zval_z0 : zval z0 = 0 := by rw [← ofI_zero, zval_ofI]
theorem pair_eq (n k : Int) (hn : n * k ≠ 0) : scaleP (.mk 1 z0 [p0, constP n]) k = .mk 1 z0 [p0, constP (n * k)] := by
  have h0 : scaleP p0 k = p0 := by rw [scaleP_eq, if_pos (show p0.lv = 0 from rfl)]; show constP (zval z0 * k) = p0; rw [zval_z0, Int.zero_mul, constP_zero]
  have h1 : scaleP (constP n) k = constP (n * k) := by rw [scaleP_eq, if_pos (show (constP n).lv = 0 from rfl)]; show constP (zval (ofI n) * k) = _; rw [zval_ofI]
  rw [scaleP_eq, if_neg (show ¬ (Pol.mk 1 z0 [p0, constP n]).lv = 0 from (by decide : ¬ (1 : Int) = 0))]
  show joinP 1 [scaleP p0 k, scaleP (constP n) k] = _
  rw [h0, h1]
  have hz : zeroP (constP (n * k)) = false := by
    show (decide ((0 : Int) = 0) && decide (zval (ofI (n * k)) = 0)) = false
    rw [zval_ofI, decide_eq_false hn]; rfl
  have ht : trimP [p0, constP (n * k)] = [p0, constP (n * k)] := trimB_pos [p0] hz
  unfold joinP; rw [ht]
theorem normC_pair {n : Int} (hn : n ≠ 0) : normC (.mk 1 z0 [p0, constP n]) = .mk 1 z0 [p0, constP n] := by
  rw [normC, if_neg (show ¬ (Pol.mk 1 z0 [p0, constP n]).lv ≤ 0 from (by decide : ¬ (1 : Int) ≤ 0)), if_neg (show ¬ 4 < (Pol.mk 1 z0 [p0, constP n]).lv from (by decide : ¬ (4 : Int) < 1)), pair_eq n 1 (by omega), Int.mul_one]
theorem varP_1 : varP 1 = .mk 1 z0 [p0, constP 1] := by rw [varP, if_neg (by decide)]
theorem negVar : scaleP (normC (varP 1)) (-1) = pA := by rw [varP_1, normC_pair (by decide), pair_eq 1 (-1) (by decide)]; rfl
theorem canon_pair {n : Int} (hn : n ≠ 0) : canonB (.mk 1 z0 [p0, constP n]) 5 = true := by
  rw [canonB_eq, if_neg (show ¬ (Pol.mk 1 z0 [p0, constP n]).lv = 0 from (by decide : ¬ (1 : Int) = 0))]
  have hz : zeroP (constP n) = false := by
    show (decide ((0 : Int) = 0) && decide (zval (ofI n) = 0)) = false
    rw [zval_ofI, decide_eq_false hn]; rfl
  have h1 : canonB p0 1 = true := by rw [canonB_eq, if_pos (show p0.lv = 0 from rfl)]; rfl
  have h2 : canonB (constP n) 1 = true := by
    rw [canonB_eq, if_pos (show (constP n).lv = 0 from rfl)]
    show (decide (([] : List Pol).length = 0) && (!(ofI n).neg || !decide (zval (ofI n) = 0))) = true
    rw [zval_ofI, decide_eq_false hn]; simp
  show (!(decide ((1 : Int) < 0) || decide ((5 : Int) ≤ 1) || decide (2 < 2) || !decide (zval z0 = 0)) && (canonB p0 1 && (canonB (constP n) 1 && true)) && !zeroP (constP n)) = true
  rw [zval_z0, h1, h2, hz]; rfl
theorem canon_pA : canonB pA 5 = true := canon_pair (by decide)
theorem canon_v1 : canonB (varP 1) 5 = true := by rw [varP_1]; exact canon_pair (by decide)
theorem len_1 {n : Int} (h : n.natAbs = 1) : (ofI n).abs.length ≤ 1 := dig_len_pow (k := 1) (by rw [h]; decide)
theorem fit_pair {n : Int} (h : n.natAbs = 1) : Fit 1 (.mk 1 z0 [p0, constP n]) :=
  .mk (fun d h => by cases h) (Nat.zero_le _) (show 2 ≤ 4294967296 by decide) fun q hq => by
    simp only [List.mem_cons, List.not_mem_nil, or_false] at hq
    rcases hq with rfl | rfl
    · exact fit_p0
    · exact fit_const (len_1 h)
theorem fit_pA : Fit 1 pA := fit_pair rfl
theorem fit_v1 : Fit 1 (varP 1) := by rw [varP_1]; exact fit_pair rfl
theorem normC_pA : normC pA = pA := normC_pair (by decide)
theorem lev_pA : Lev 4 (normC pA) := by
  rw [normC_pA]
  exact Lev.succ (k := 4) (l := 0) (by decide) (show 0 < 2 by decide) fun q hq => by
    simp only [List.mem_cons, List.not_mem_nil, or_false] at hq
    rcases hq with rfl | rfl <;> exact .zero
theorem terms_pA : termsP (normC pA) mo0 = [⟨z0, mo0⟩, tA] := by rw [normC_pA]; rfl
theorem norm_one {c : Z} (hc : zval c ≠ 0) : normS [⟨c, e1⟩] = [⟨ofI (zval c), e1⟩] := by
  have h : sortT (keepT [⟨c, e1⟩]) = [⟨c, e1⟩] := rfl
  rw [normS, h, mergeT]
  show (if zval c = 0 then [] else [(⟨ofI (zval c), e1⟩ : Tm)]) ++ mergeT [] = _
  rw [mergeT_nil, if_neg hc]; rfl
theorem toA : normS (termsP (normC pA) mo0) = [tA] := by
  have h : sortT (keepT [⟨z0, mo0⟩, tA]) = [tA, ⟨z0, mo0⟩] := rfl
  have h1 : ¬ mo0 = e1 := by decide
  rw [terms_pA, normS, h, mergeT]
  show (if (sumRun e1 (zval (ofI (-1))) [⟨z0, mo0⟩]).1 = 0 then [] else [⟨ofI (sumRun e1 (zval (ofI (-1))) [⟨z0, mo0⟩]).1, e1⟩]) ++ mergeT (sumRun e1 (zval (ofI (-1))) [⟨z0, mo0⟩]).2 = [tA]
  have h2 : sumRun e1 (zval (ofI (-1))) [⟨z0, mo0⟩] = (-1, [⟨z0, mo0⟩]) := by rw [zval_ofI]; simp [sumRun, h1]
  rw [h2, mergeT]
  simp [sumRun, zval_z0, mergeT_nil, tA]
theorem normA : normS [tA] = [tA] := by
  rw [tA, norm_one (by rw [zval_ofI]; decide), zval_ofI]
theorem normB : normS [tB] = [tB] := by
  rw [tB, norm_one (by rw [zval_ofI]; decide), zval_ofI]
theorem contA : contS [tA] = 1 := by
  rw [contS, normA]
  show (Int.gcd 0 (zval (ofI (-1))) : Int) = 1
  rw [zval_ofI]; rfl
theorem signA : signO [tA] = -1 := by
  rw [signO, normA, if_pos (by show zval (ofI (-1)) < 0; rw [zval_ofI]; decide), contA]
theorem divA : (normS [tA]).map (divT (signO [tA])) = [tB] := by
  rw [normA, signA]
  show [(⟨ofI (zval (ofI (-1)) / -1), e1⟩ : Tm)] = [tB]
  rw [zval_ofI]; rfl
theorem termB : termP tB = pB := by
  show monoP e1 (.mk 0 (ofI (zval (ofI 1))) []) 4 = pB
  rw [zval_ofI]; rfl
theorem ofB : ofS (normS [tB]) = pB := by
  rw [normB]
  show addF 4 p0 (termP tB) = pB
  rw [termB]
  have hz : zeroP (constP 1) = false := by
    show (decide ((0 : Int) = 0) && decide (zval (ofI 1) = 0)) = false
    rw [zval_ofI]; rfl
  have h0 : addF 3 p0 p0 = p0 := by
    rw [← addF_const (show max p0.lv p0.lv = 0 from rfl)]; show constP (zval z0 + zval z0) = p0; rw [zval_z0]; exact constP_zero
  have h := addF_join (k := 3) (p := p0) (q := pB) (by decide)
  rw [← h]
  show joinP 1 [addF 3 p0 p0, constP 1] = pB
  rw [h0]
  have ht : trimP [p0, constP 1] = [p0, constP 1] := trimB_pos [p0] hz
  unfold joinP; rw [ht]; rfl
theorem canon_pB : canonB pB 5 = true := canon_pair (by decide)
theorem fit_pB : Fit 1 pB := fit_pair rfl
theorem all1 {t : Tm} {C : Tm → Prop} (h : C t) : ∀ x ∈ [t], C x := fun x hx => by
  simp only [List.mem_singleton] at hx
  subst hx; exact h
theorem e1_at : ∀ i, i < 4 → e1.at i < 4294967295
  | 0, _ => by decide
  | 1, _ => by decide
  | 2, _ => by decide
  | 3, _ => by decide
  | _ + 4, h => by omega
theorem zvalA : zval tA.coef = -1 := zval_ofI _
theorem bitsA : bitsOf .or .i64 (bitsOf .or .i64 (bitsOf .and .i64 1 2) (IntKind.i64.wrap (bitsOf .and .i64 1 1 * 2 ^ (min (2 : Int).toNat 64)))) ((bitsOf .and .i64 1 4).fdiv (2 ^ (min (2 : Int).toNat 64))) = 4 := by decide
theorem relA : relR 4 = (6, true) := by decide
def mB : Mx := .mk 2 6 pB []
end Go.Rt
