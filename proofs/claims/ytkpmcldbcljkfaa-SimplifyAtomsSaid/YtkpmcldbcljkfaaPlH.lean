/- Plain mathematics: atoms in sign normal form. Conditions: none. -/
import Derived.Test.YtkpmcldbcljkfaaPlG
import Derived.Test.YtkpmcldbcljkfaaPlV
set_option linter.unusedVariables false
set_option linter.unusedSimpArgs false
namespace Go.Rt
open Go Go.RowKit

/-- What mainvar.SignNormal wants to know. -/
structure MsF (B : Nat) (p : Pol) : Prop where
  tl : (toS (normN p)).length ≤ 4294967295
  td : ∀ t ∈ toS (normN p), Digs t.coef.abs
  tz : ∀ t ∈ toS (normN p), t.coef.abs.length ≤ B
  tn : toS (normN p) ≠ []
  sl : (sgnT (toS (normN p))).length ≤ 4294967295
  sd : ∀ t ∈ sgnT (toS (normN p)), Digs t.coef.abs
  sz : ∀ t ∈ sgnT (toS (normN p)), t.coef.abs.length ≤ B
  se : ∀ t ∈ sgnT (toS (normN p)), ∀ i, i < 4 → t.exp.at i < 4294967295
  n1 : normS (toS (normN p)) = toS (normN p)
  n2 : normS (sgnT (toS (normN p))) = sgnT (toS (normN p))
theorem msF {B : Nat} {p : Pol} (np : nrm p < B32 ^ B) (hcn : cnt p ≤ 1000000000) (hlen : (termsP (normN p) mo0).length ≤ 4294967295) (hne : normN p ≠ p0) : MsF B p := by
  have h := toS_can (normN p)
  have hn : toS (normN p) ≠ [] := fun e => hne ((toS_nil (can_norm p)).1 e)
  have h2 := sgnT_can h
  have hl : (toS (normN p)).length ≤ 4294967295 := Nat.le_trans (normS_len _) hlen
  have hm : nrmT (toS (normN p)) < B32 ^ B := Nat.lt_of_le_of_lt (Nat.le_trans (toS_nrm _) (nrm_norm p)) np
  have hm2 := Nat.lt_of_le_of_lt (sgnT_nrm (lcT_ne h hn)) hm
  refine ⟨hl, coefT_digs h.ofI, coefT_len h.ofI hm, hn, by unfold sgnT; rw [List.length_map]; exact hl, coefT_digs h2.ofI, coefT_len h2.ofI hm2, fun t ht i hi => ?_, normS_id h, normS_id h2⟩
  have := sgnT_exp (toS_exp (lev_norm p) (sz_norm p) (by omega)) t ht i hi
  omega

/-- The bits for the opposite sign. -/
def flipE (b : Int) : Int := bitsOf .or .i64 (bitsOf .or .i64 (bitsOf .and .i64 b 2) (IntKind.i64.wrap (bitsOf .and .i64 b 1 * 2 ^ (min (2 : Int).toNat 64)))) ((bitsOf .and .i64 b 4).fdiv (2 ^ (min (2 : Int).toNat 64)))
def bitsN (p : Pol) (r : Int) : Int := if zval (atT (toS (normN p)) 0).coef < 0 then flipE (bitsR r) else bitsR r
def atomM (p : Pol) (r : Int) : Mx :=
  if 0 < (normN p).lv then .mk 2 (relR (bitsN p r)).1 (msign p) [] else truthM (!decide (bitsOf .and .i64 (bitsR r) (2 ^ (sgn (zval (normN p).c) + 1).toNat) = 0))
theorem bitsR_cases (r : Int) : bitsR r = 1 ∨ bitsR r = 2 ∨ bitsR r = 3 ∨ bitsR r = 4 ∨ bitsR r = 5 ∨ bitsR r = 6 := by
  rw [bitsR_std]
  rcases stdR_cases r with h | h | h | h | h | h <;> rw [h] <;> decide
end Go.Rt
