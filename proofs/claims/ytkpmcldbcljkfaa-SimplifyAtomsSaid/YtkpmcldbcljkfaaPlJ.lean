/- Plain mathematics: what the law SimplifyAtoms compares. Conditions: none. -/
import Derived.Test.YtkpmcldbcljkfaaPlI
import Derived.Test.YtkpmcldbcljkfaaPlX
set_option linter.unusedVariables false
set_option linter.unusedSimpArgs false
namespace Go.Rt
open Go Go.RowKit

/-! ### Relations -/
theorem holdsR_sgn {r a b : Int} (h1 : a < 0 ↔ b < 0) (h2 : a = 0 ↔ b = 0) : holdsR r a = holdsR r b := by
  rcases Int.lt_trichotomy a 0 with q | q | q
  · have hb : b < 0 := h1.1 q
    unfold holdsR
    rw [decide_eq_true q, decide_eq_true hb, decide_eq_true (show a ≤ 0 by omega), decide_eq_true (show b ≤ 0 by omega), decide_eq_false (show ¬ a = 0 by omega), decide_eq_false (show ¬ b = 0 by omega),
      decide_eq_false (show ¬ 0 ≤ a by omega), decide_eq_false (show ¬ 0 ≤ b by omega), decide_eq_false (show ¬ 0 < a by omega), decide_eq_false (show ¬ 0 < b by omega)]
  · have hb : b = 0 := h2.1 q
    rw [q, hb]
  · have hb : 0 < b := by omega
    unfold holdsR
    rw [decide_eq_false (show ¬ a < 0 by omega), decide_eq_false (show ¬ b < 0 by omega), decide_eq_false (show ¬ a ≤ 0 by omega), decide_eq_false (show ¬ b ≤ 0 by omega), decide_eq_false (show ¬ a = 0 by omega), decide_eq_false (show ¬ b = 0 by omega),
      decide_eq_true (show 0 ≤ a by omega), decide_eq_true (show 0 ≤ b by omega), decide_eq_true q, decide_eq_true hb]
theorem holds_const (r n : Int) : (!decide (bitsOf .and .i64 (bitsR r) (2 ^ (sgn n + 1).toNat) = 0)) = holdsR r (sgn n) := by
  rw [bitsR_std, holdsR_std]
  rcases sgn_cases n with ⟨h, _⟩ | ⟨h, _⟩ | ⟨h, _⟩ <;> rw [h] <;> rcases stdR_cases r with q | q | q | q | q | q <;> rw [q] <;> decide
theorem rel_keep (r s : Int) : holdsR (relR (bitsR r)).1 s = holdsR r s := by rw [rel_bits, ← holdsR_std]
theorem truth_const (x : Mo) (b : Bool) : truthV x (truthM b) = b := by cases b <;> rfl
theorem truth_mk (x : Mo) (r : Int) (p : Pol) : truthV x (.mk 2 r p []) = holdsR r (sgn (valP x p)) := rfl
theorem sgn_mul_neg {v c : Int} (h : c < 0) : sgn (v * c) = - sgn v := by
  rcases Int.lt_trichotomy v 0 with q | q | q
  · have := Int.mul_pos_of_neg_of_neg q h
    rcases sgn_cases (v * c) with ⟨h1, _⟩ | ⟨h1, _⟩ | ⟨h1, _⟩ <;> rcases sgn_cases v with ⟨h2, _⟩ | ⟨h2, _⟩ | ⟨h2, _⟩ <;> omega
  · subst q; rw [Int.zero_mul]; rfl
  · have := Int.mul_neg_of_pos_of_neg q h
    rcases sgn_cases (v * c) with ⟨h1, _⟩ | ⟨h1, _⟩ | ⟨h1, _⟩ <;> rcases sgn_cases v with ⟨h2, _⟩ | ⟨h2, _⟩ | ⟨h2, _⟩ <;> omega
theorem sgn_mul_pos {v c : Int} (h : 0 < c) : sgn (v * c) = sgn v := by
  rcases Int.lt_trichotomy v 0 with q | q | q
  · have := Int.mul_neg_of_neg_of_pos q h
    rcases sgn_cases (v * c) with ⟨h1, _⟩ | ⟨h1, _⟩ | ⟨h1, _⟩ <;> rcases sgn_cases v with ⟨h2, _⟩ | ⟨h2, _⟩ | ⟨h2, _⟩ <;> omega
  · subst q; rw [Int.zero_mul]
  · have := Int.mul_pos q h
    rcases sgn_cases (v * c) with ⟨h1, _⟩ | ⟨h1, _⟩ | ⟨h1, _⟩ <;> rcases sgn_cases v with ⟨h2, _⟩ | ⟨h2, _⟩ | ⟨h2, _⟩ <;> omega
/-- The head's sign decides whether the relation is turned. -/
theorem lc_sign {p : Pol} (h : normN p ≠ p0) : (zval (atT (toS (normN p)) 0).coef < 0 → lcT (toS (normN p)) < 0) ∧ (¬ zval (atT (toS (normN p)) 0).coef < 0 → 0 < lcT (toS (normN p))) := by
  have hn : toS (normN p) ≠ [] := fun e => h ((toS_nil (can_norm p)).1 e)
  have h1 := gcdT_nonneg (L := toS (normN p))
  have h2 := gcdT_ne (toS_can (normN p)) hn
  unfold lcT
  constructor
  · intro q; rw [if_pos q]; omega
  · intro q; rw [if_neg q]; omega
theorem ne_p0 {p : Pol} (h : 0 < p.lv) : p ≠ p0 := fun e => absurd (e ▸ h) (by decide)
/-- The atom in sign normal form has the same truth value as the atom. -/
theorem truth_atom (x : Mo) (p : Pol) (r : Int) : truthV x (atomM p r) = truthV x (.mk 2 (relN r) (normN p) []) := by
  rw [truth_mk, relN_holds]
  unfold atomM
  split
  · rename_i hl
    rw [truth_mk]
    obtain ⟨h1, h2⟩ := lc_sign (ne_p0 hl)
    have hv := val_msign x p
    unfold bitsN
    split
    · rename_i q
      rw [(rel_flip r _).1, ← hv, sgn_mul_neg (h1 q)]
    · rename_i q
      rw [rel_keep, ← hv, sgn_mul_pos (h2 q)]
  · rename_i hl
    obtain ⟨n, hn⟩ := const_of (can_norm p) hl
    rw [truth_const, holds_const, hn]
    have : valP x (constP n) = n := by rw [valP_eq, if_pos (show (constP n).lv ≤ 0 from Int.le_refl 0)]; exact zval_ofI n
    rw [this]
    show holdsR r (sgn (zval (ofI n))) = _
    rw [zval_ofI]
def sameK (a b : Int) : Nat → Bool
  | 0 => true
  | n + 1 => sameK a b n && (holdsR a ((n : Int) - 1) == holdsR b ((n : Int) - 1))
def oppK (a b : Int) : Nat → Bool
  | 0 => true
  | n + 1 => oppK a b n && (holdsR a ((n : Int) - 1) == holdsR b (0 - ((n : Int) - 1)))
theorem sameK_all {a b : Int} (h : ∀ s, holdsR a s = holdsR b s) : ∀ n, sameK a b n = true
  | 0 => rfl
  | n + 1 => by rw [sameK, sameK_all h n, h]; simp
theorem oppK_all {a b : Int} (h : ∀ s, holdsR a s = holdsR b (-s)) : ∀ n, oppK a b n = true
  | 0 => rfl
  | n + 1 => by rw [oppK, oppK_all h n, h, show -((n : Int) - 1) = 0 - ((n : Int) - 1) by omega]; simp
theorem rel_either (p : Pol) (r : Int) (n : Nat) : (sameK (relR (bitsN p r)).1 (relN r) n || oppK (relR (bitsN p r)).1 (relN r) n) = true := by
  unfold bitsN
  split
  · rw [oppK_all (fun s => by rw [relN_holds]; exact (rel_flip r s).1) n]; simp
  · rw [sameK_all (fun s => by rw [relN_holds]; exact rel_keep r s) n]; simp
theorem rel_between (p : Pol) (r : Int) : 1 ≤ (relR (bitsN p r)).1 ∧ (relR (bitsN p r)).1 ≤ 6 := by
  unfold bitsN
  split
  · exact (rel_flip r 0).2
  · rw [rel_bits]; exact std_bounds r

/-! ### Inputs of the size that is looked at -/
inductive Dg : Pol → Prop
  | mk {l : Int} {c : Z} {cs : List Pol} (h1 : Digs c.abs) (h2 : ∀ q ∈ cs, Dg q) : Dg (.mk l c cs)
theorem few_fit {p : Pol} {G : Nat} (h : Few G p) (hd : Dg p) : Fit G p := by
  induction p using Pol.ind
  rename_i p ih
  cases h with
  | mk h1 h2 h3 =>
    cases hd with
    | mk d1 d2 => exact .mk d1 h1 (by omega) fun q hq => ih q hq (h3 q hq) (d2 q hq)
theorem nrm_cnt {p : Pol} {G : Nat} (h : Fit G p) : nrm p ≤ cnt p * B32 ^ G := by
  induction p using Pol.ind
  rename_i p ih
  have hc := Nat.le_of_lt h.nrm_c
  rw [nrm_eq, cnt_eq, Nat.add_mul, Nat.one_mul]
  have key : ∀ ys : List Pol, (∀ y ∈ ys, y ∈ p.cs) → nrmL ys ≤ cntL ys * B32 ^ G := fun ys => by
    induction ys with
    | nil => intro _; simp [nrmL]
    | cons y ys ihy =>
      intro hy
      have h1 := ih y (hy y (by simp)) (h.sub y (hy y (by simp)))
      have h2 := ihy fun z hz => hy z (by simp [hz])
      rw [nrmL, cntL, Nat.add_mul]; omega
  have := key p.cs fun y h => h
  omega
/-- What the law's calls want to know. -/
structure LawF (p : Pol) : Prop where
  hf : Fit 5 p
  np : nrm p < B32 ^ 5
  hcn : cnt p ≤ 1000000000
  hlen : (termsP (normN p) mo0).length ≤ 4294967295
  c4 : CanP 4 (normN p)
  s4 : Sz 121 (normN p)
  n4 : nrm (normN p) < B32 ^ 5
theorem lawF {p : Pol} (hd : Dg p) (h : 0 ≤ roomR 4 6 p 60) : LawF p := by
  obtain ⟨h1, h2⟩ := room_few (G := 4) 6 p 60 h
  have h3 : 0 ≤ roomR ((4 : Nat) : Int) 6 p 60 := h
  have hc : cnt p ≤ 60 := by omega
  have hf := few_fit h1 hd
  have hn : nrm p < B32 ^ 5 := by
    refine Nat.lt_of_le_of_lt (nrm_cnt hf) (Nat.lt_of_le_of_lt (Nat.mul_le_mul_right _ hc) ?_)
    rw [Nat.pow_succ B32 4, Nat.mul_comm]
    exact Nat.mul_lt_mul_of_pos_left (by decide) (Nat.pow_pos (by decide))
  have hs : Sz 121 (normN p) := (sz_norm p).mono (by omega)
  refine ⟨hf.mono (by decide), hn, by omega, ?_, can_norm p, hs, Nat.lt_of_le_of_lt (nrm_norm p) hn⟩
  exact Nat.le_trans (terms_len (lev_norm p) hs (by decide)) (by decide)
theorem lawF_q {p : Pol} (h : LawF p) (hl : 0 < (normN p).lv) : LawF (msign p) ∧ 0 < (normN (msign p)).lv ∧ msign (msign p) = msign p := by
  have hne := ne_p0 hl
  have hc := msign_can p
  have hs : Sz 121 (msign p) := sz_msign h.s4 (by decide)
  have hn : nrm (msign p) < B32 ^ 5 := Nat.lt_of_le_of_lt (nrm_msign hne) h.np
  have e := norm_can hc
  refine ⟨⟨hs.fit (by decide) hn, hn, ?_, ?_, by rw [e]; exact hc, by rw [e]; exact hs, by rw [e]; exact hn⟩, by rw [e]; exact msign_lv hl, msign_msign hne⟩
  · exact Nat.le_trans (cnt_can hc hs) (by decide)
  · rw [e]; exact Nat.le_trans (terms_len hc.lev hs (by decide)) (by decide)
theorem atom_yes {p : Pol} {r : Int} (h : 0 < (normN p).lv) : atomM p r = .mk 2 (relR (bitsN p r)).1 (msign p) [] := if_pos h
def constB (p : Pol) (r : Int) : Bool := !decide (bitsOf .and .i64 (bitsR r) (2 ^ (sgn (zval (normN p).c) + 1).toNat) = 0)
theorem atom_no {p : Pol} {r : Int} (h : ¬ 0 < (normN p).lv) : atomM p r = truthM (constB p r) := if_neg h
theorem truthM_kind (b : Bool) : (truthM b).kind = 1 ∨ (truthM b).kind = 0 := by cases b <;> simp [truthM, Mx.kind]
theorem atom_kind (p : Pol) (r : Int) : (atomM p r).kind = 0 ∨ (atomM p r).kind = 1 ∨ (atomM p r).kind = 2 := by
  unfold atomM; split
  · exact .inr (.inr rfl)
  · rcases truthM_kind (!decide (bitsOf .and .i64 (bitsR r) (2 ^ (sgn (zval (normN p).c) + 1).toNat) = 0)) with h | h
    · exact .inr (.inl h)
    · exact .inl h
theorem atom_poly {p : Pol} {r : Int} (h : LawF p) (hk : (atomM p r).kind = 2) : CanP 4 (atomM p r).poly ∧ Sz 121 (atomM p r).poly ∧ nrm (atomM p r).poly < B32 ^ 5 := by
  by_cases hl : 0 < (normN p).lv
  · rw [atom_yes hl]
    obtain ⟨h1, _, _⟩ := lawF_q h hl
    exact ⟨msign_can p, sz_msign h.s4 (by decide), h1.np⟩
  · rw [atom_no hl] at hk
    rcases truthM_kind (constB p r) with q | q <;> rw [q] at hk <;> cases hk

/-! ### The atom -x_1 < 0 -/
theorem can_pair {n : Int} (hn : n ≠ 0) : CanP 4 (.mk 1 z0 [p0, constP n]) :=
  CanP.node (k := 4) (l := 0) (by decide) (by simp) (fun q hq => by
    simp only [List.mem_cons, List.not_mem_nil, or_false] at hq
    rcases hq with rfl | rfl
    · exact can_p0
    · exact .const n) (trimB_pos [p0] (by show zeroP (constP n) = false; simp [zeroP, constP, Pol.lv, Pol.c, zval_ofI, hn]))
theorem norm_pA : normN pA = pA := norm_can (can_pair (by decide))
theorem norm_pB : normN pB = pB := norm_can (can_pair (by decide))
theorem norm_v1 : normN (varP 1) = varP 1 := norm_can (can_var 1)
theorem neg_v1 : scaleP (normN (varP 1)) (-1) = pA := by
  rw [norm_v1]
  have h := negVar
  rw [varP_1, normC_pair (by decide)] at h
  rw [varP_1]; exact h
theorem toS_pA : toS (normN pA) = [tA] := by
  have h := toA
  rw [normC_pA] at h
  rw [norm_pA, toS]; exact h
theorem lc_tA : lcT [tA] = -1 := by
  have h := signO_lc [tA]
  rw [normA, signA] at h
  exact h.symm
theorem msign_pA : msign pA = pB := by
  have h := divA
  rw [normA, signA] at h
  have h2 := ofB
  rw [normB] at h2
  rw [msign, toS_pA, sgnT, lc_tA, h, h2]
theorem atom_pA : atomM pA 1 = mB := by
  have hl : 0 < (normN pA).lv := by rw [norm_pA]; decide
  rw [atom_yes hl, msign_pA]
  have hb : bitsN pA 1 = 4 := by
    unfold bitsN
    rw [toS_pA]
    have : zval (atT [tA] 0).coef < 0 := by show zval tA.coef < 0; rw [zvalA]; decide
    rw [if_pos this]; decide
  rw [hb, relA]; rfl
theorem smallF {n : Int} (hn : n.natAbs = 1) : Fit 1 (.mk 1 z0 [p0, constP n]) ∧ nrm (.mk 1 z0 [p0, constP n]) < B32 ^ 1 ∧ cnt (.mk 1 z0 [p0, constP n]) ≤ 1000000000 := by
  refine ⟨fit_pair hn, ?_, ?_⟩
  · have hz : (zval z0).natAbs = 0 := by rw [zval_z0]; rfl
    simp only [nrm, nrmL, hz, nrm_p0, nrm_const, hn]; decide
  · simp [cnt, cntL, p0, constP]
end Go.Rt
