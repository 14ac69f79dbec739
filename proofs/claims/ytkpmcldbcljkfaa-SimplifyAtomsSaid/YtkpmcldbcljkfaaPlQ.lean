/- Plain mathematics: sizes of polynomials; products; the canonical form of any polynomial. Conditions: none. -/
import Derived.Test.YtkpmcldbcljkfaaPlW
set_option linter.unusedVariables false
set_option linter.unusedSimpArgs false
namespace Go.Rt
open Go Go.RowKit

-- the sum of the absolute values of all numbers
mutual
def nrm : Pol → Nat
  | .mk l c cs => (zval c).natAbs + nrmL cs
def nrmL : List Pol → Nat
  | [] => 0
  | p :: ps => nrm p + nrmL ps
end
theorem nrm_eq (p : Pol) : nrm p = (zval p.c).natAbs + nrmL p.cs := by cases p; rw [nrm]; rfl
theorem nrmL_append (xs ys : List Pol) : nrmL (xs ++ ys) = nrmL xs + nrmL ys := by
  induction xs with
  | nil => simp [nrmL]
  | cons x xs ih => simp only [List.cons_append, nrmL, ih]; omega
theorem nrmL_mem {q : Pol} : ∀ {cs : List Pol}, q ∈ cs → nrm q ≤ nrmL cs
  | _ :: _, .head _ => by simp [nrmL]
  | _ :: _, .tail _ h => by have := nrmL_mem h; simp only [nrmL]; omega
theorem nrmL_sub {q p : Pol} (h : q ∈ p.cs) : nrm q ≤ nrm p := by have := nrmL_mem h; rw [nrm_eq p]; omega
theorem nrm_const (n : Int) : nrm (constP n) = n.natAbs := by simp [constP, nrm, nrmL, zval_ofI]
theorem nrm_p0 : nrm p0 = 0 := by rw [← constP_zero, nrm_const]; rfl
theorem nrmL_rep (n : Nat) : nrmL (List.replicate n p0) = 0 := by
  induction n with
  | zero => rfl
  | succ n ih => rw [List.replicate_succ, nrmL, ih, nrm_p0]

/-- Every number is without leading zeros, every list has at most D elements. -/
inductive Sz (D : Nat) : Pol → Prop
  | mk {l : Int} {c : Z} {cs : List Pol} (h0 : c = ofI (zval c)) (h1 : cs.length ≤ D) (h2 : ∀ q ∈ cs, Sz D q) : Sz D (.mk l c cs)
variable {D E : Nat}
theorem Sz.c {p : Pol} (h : Sz D p) : p.c = ofI (zval p.c) := by cases h; assumption
theorem Sz.cs {p : Pol} (h : Sz D p) : p.cs.length ≤ D := by cases h; assumption
theorem Sz.sub {p : Pol} (h : Sz D p) : ∀ q ∈ p.cs, Sz D q := by cases h; assumption
theorem Sz.mono {p : Pol} (h : Sz D p) (hd : D ≤ E) : Sz E p := by
  induction p using Pol.ind
  rename_i p ih
  cases h with
  | mk h0 h1 h2 => exact .mk h0 (Nat.le_trans h1 hd) fun q hq => ih q hq (h2 q hq)
theorem z0_ofI : z0 = ofI (zval z0) := by have : zval z0 = 0 := by { rw [← ofI_zero, zval_ofI] }; rw [this, ofI_zero]
theorem Sz.const (n : Int) : Sz D (constP n) := .mk (by rw [zval_ofI]) (Nat.zero_le _) fun q h => by cases h
theorem Sz.p0 : Sz D p0 := by rw [← constP_zero]; exact Sz.const 0
theorem Sz.fit {p : Pol} {B : Nat} (h : Sz D p) (hD : D ≤ 4294967296) (hn : nrm p < B32 ^ B) : Fit B p := by
  induction p using Pol.ind
  rename_i p ih
  cases h with
  | mk h0 h1 h2 =>
    rename_i l c cs
    refine .mk (by rw [h0]; exact digs_dig _) ?_ (Nat.le_trans h1 hD) fun q hq => ih q hq (h2 q hq) (Nat.lt_of_le_of_lt (nrmL_sub (p := .mk l c cs) hq) hn)
    rw [h0]
    refine dig_len_pow (Nat.lt_of_le_of_lt ?_ hn)
    rw [nrm]; omega
theorem Fit.nrm_c {p : Pol} {B : Nat} (h : Fit B p) : (zval p.c).natAbs < B32 ^ B := Nat.lt_of_lt_of_le (val_pow h.d) (pow_mono h.c)

/-! ### Lists -/
theorem trimP_take (cs : List Pol) : ∃ n, trimP cs = cs.take n := by
  have h : ∀ l : List Pol, ∃ n, l.dropWhile zeroP = l.drop n := fun l => by
    induction l with
    | nil => exact ⟨0, rfl⟩
    | cons x l ih =>
      rw [List.dropWhile_cons]
      split
      · obtain ⟨n, hn⟩ := ih; exact ⟨n + 1, hn⟩
      · exact ⟨0, rfl⟩
  obtain ⟨n, hn⟩ := h cs.reverse
  refine ⟨cs.length - n, ?_⟩
  unfold trimP trimB
  rw [hn, List.reverse_drop, List.reverse_reverse, List.length_reverse]
theorem nrmL_take (cs : List Pol) (n : Nat) : nrmL (cs.take n) ≤ nrmL cs := by
  have := nrmL_append (cs.take n) (cs.drop n)
  rw [List.take_append_drop] at this; omega
theorem nrm_join (l : Int) (cs : List Pol) : nrm (joinP l cs) ≤ nrmL cs := by
  obtain ⟨n, hn⟩ := trimP_take cs
  have h := nrmL_take cs n
  rw [← hn] at h
  unfold joinP
  split
  · rw [nrm_p0]; omega
  · rename_i p he; rw [he] at h; simp [nrmL] at h; exact h
  · have hz : (zval z0).natAbs = 0 := by rw [← ofI_zero, zval_ofI]; rfl
    rw [nrm, hz]; omega
theorem Sz.join {l : Int} {cs : List Pol} (h : ∀ q ∈ cs, Sz D q) (hl : cs.length ≤ D) : Sz D (joinP l cs) :=
  joinP_cases .p0 h fun _ => .mk z0_ofI (Nat.le_trans trimB_len hl) fun q hq => h q (trimB_sub hq)

/-! ### Multiples -/
theorem nrmL_map {f : Pol → Pol} {c : Nat} : ∀ {cs : List Pol}, (∀ q ∈ cs, nrm (f q) ≤ nrm q * c) → nrmL (cs.map f) ≤ nrmL cs * c
  | [], _ => by simp [nrmL]
  | q :: cs, h => by
    have h1 := h q (.head _)
    have h2 := nrmL_map (cs := cs) fun x hx => h x (.tail _ hx)
    simp only [List.map_cons, nrmL, Nat.add_mul]; omega
theorem nrm_scale (p : Pol) (n : Int) : nrm (scaleP p n) ≤ nrm p * n.natAbs := by
  induction p using Pol.ind
  rename_i p ih
  rw [scaleP_eq]
  split
  · rw [nrm_const, Int.natAbs_mul, nrm_eq, Nat.add_mul]; omega
  · refine Nat.le_trans (nrm_join _ _) (Nat.le_trans (nrmL_map ih) ?_)
    rw [nrm_eq, Nat.add_mul]; omega
theorem Sz.scale {p : Pol} (h : Sz D p) (n : Int) : Sz D (scaleP p n) := by
  induction p using Pol.ind
  rename_i p ih
  rw [scaleP_eq]
  split
  · exact .const _
  · refine .join (fun q hq => ?_) (by simpa using h.cs)
    obtain ⟨x, hx, rfl⟩ := List.mem_map.1 hq
    exact ih x hx (h.sub x hx)
theorem Lev.scale {k : Nat} {p : Pol} (h : Lev k p) (n : Int) : Lev k (scaleP p n) := by
  induction p using Pol.ind generalizing k
  rename_i p ih
  rw [scaleP_eq]
  cases h with
  | zero => rw [if_pos (by rfl)]; exact .zero
  | succ h hc hs =>
    rename_i l c cs
    rw [if_neg (by simp only [Pol.lv]; omega)]
    have hz : ∀ q ∈ cs.map (scaleP · n), Lev l q := fun q hq => by
      obtain ⟨x, hx, rfl⟩ := List.mem_map.1 hq
      exact ih x hx (hs x hx)
    exact joinP_cases .zero (fun q hq => (hz q hq).mono (by omega)) fun h2 => .succ h (by omega) fun q hq => hz q (trimB_sub hq)

/-! ### Sums -/
theorem nrmL_coefs (p : Pol) (l : Int) : nrmL (coefsP p l) ≤ nrm p := by
  unfold coefsP; split
  · rw [nrm_eq]; omega
  · simp [nrmL]
theorem Sz.coefs {p : Pol} (h : Sz D p) (hD : 1 ≤ D) (l : Int) : (∀ q ∈ coefsP p l, Sz D q) ∧ (coefsP p l).length ≤ D := by
  unfold coefsP; split
  · exact ⟨h.sub, h.cs⟩
  · exact ⟨fun q hq => by simp at hq; subst hq; exact h, by simpa using hD⟩
theorem nrmL_zip {f : Pol → Pol → Pol} : ∀ {xs ys : List Pol}, (∀ x y, nrm (f x y) ≤ nrm x + nrm y) → nrmL (zipP f xs ys) ≤ nrmL xs + nrmL ys
  | xs, [], _ => by rw [zipP_nil]; simp [nrmL]
  | [], y :: ys, _ => by rw [zipP_nil']; simp [nrmL]
  | x :: xs, y :: ys, h => by
    have h1 := h x y
    have h2 := nrmL_zip (xs := xs) (ys := ys) h
    simp only [zipP, nrmL]; omega
theorem nrm_add : ∀ (k : Nat) (p q : Pol), nrm (addF k p q) ≤ nrm p + nrm q
  | 0, p, q => by
    show nrm (constP (zval p.c + zval q.c)) ≤ _
    rw [nrm_const, nrm_eq p, nrm_eq q]
    have := Int.natAbs_add_le (zval p.c) (zval q.c); omega
  | k + 1, p, q => by
    unfold addF; split
    · rw [nrm_const, nrm_eq p, nrm_eq q]
      have := Int.natAbs_add_le (zval p.c) (zval q.c); omega
    · have h1 := nrm_join (max p.lv q.lv) (zipP (addF k) (coefsP p (max p.lv q.lv)) (coefsP q (max p.lv q.lv)))
      have h2 := nrmL_zip (xs := coefsP p (max p.lv q.lv)) (ys := coefsP q (max p.lv q.lv)) (nrm_add k)
      have h3 := nrmL_coefs p (max p.lv q.lv)
      have h4 := nrmL_coefs q (max p.lv q.lv)
      omega
theorem Sz.add (hD : 1 ≤ D) : ∀ (k : Nat) {p q : Pol}, Sz D p → Sz D q → Sz D (addF k p q)
  | 0, p, q, _, _ => .const _
  | k + 1, p, q, hp, hq => by
    unfold addF; split
    · exact .const _
    · have h1 := hp.coefs hD (max p.lv q.lv)
      have h2 := hq.coefs hD (max p.lv q.lv)
      exact .join (zipP_all h1.1 h2.1 fun x hx y hy => Sz.add hD k (h1.1 x hx) (h2.1 y hy)) (by rw [zipP_len]; omega)

/-! ### Products -/
/-- x times the first j of ys is added into zs from i on. -/
def convJ (f g : Pol → Pol → Pol) (x : Pol) (i : Nat) (ys : List Pol) : Nat → List Pol → List Pol
  | 0, zs => zs
  | j + 1, zs => (convJ f g x i ys j zs).set (i + j) (g (atP (convJ f g x i ys j zs) (i + j)) (f x (atP ys j)))
def convI (f g : Pol → Pol → Pol) (xs ys : List Pol) : Nat → List Pol
  | 0 => List.replicate (xs.length + ys.length - 1) p0
  | i + 1 => convJ f g (atP xs i) i ys ys.length (convI f g xs ys i)
/-- The product of canonical polynomials of levels up to k. -/
def mulF : Nat → Pol → Pol → Pol
  | 0, p, q => if q.lv = 0 then scaleP p (zval q.c) else if p.lv = 0 then scaleP q (zval p.c) else p0
  | k + 1, p, q => if q.lv = 0 then scaleP p (zval q.c) else if p.lv = 0 then scaleP q (zval p.c) else
      joinP (max p.lv q.lv) (convI (mulF k) (addF 4) (coefsP p (max p.lv q.lv)) (coefsP q (max p.lv q.lv)) (coefsP p (max p.lv q.lv)).length)
theorem mulF_q {k : Nat} {p q : Pol} (h : q.lv = 0) : scaleP p (zval q.c) = mulF k p q := by
  cases k <;> (unfold mulF; rw [if_pos h])
theorem mulF_p {k : Nat} {p q : Pol} (h : ¬ q.lv = 0) (h1 : p.lv = 0) : scaleP q (zval p.c) = mulF k p q := by
  cases k <;> (unfold mulF; rw [if_neg h, if_pos h1])
theorem mulF_join {k : Nat} {p q : Pol} (h : ¬ q.lv = 0) (h1 : ¬ p.lv = 0) :
    joinP (max p.lv q.lv) (convI (mulF k) (addF 4) (coefsP p (max p.lv q.lv)) (coefsP q (max p.lv q.lv)) (coefsP p (max p.lv q.lv)).length) = mulF (k + 1) p q := by
  rw [mulF.eq_2, if_neg h, if_neg h1]

section conv
variable {f g : Pol → Pol → Pol} {x : Pol} {i : Nat} {xs ys zs : List Pol}
theorem convJ_len : ∀ j, (convJ f g x i ys j zs).length = zs.length
  | 0 => rfl
  | j + 1 => by rw [convJ, List.length_set, convJ_len j]
theorem convI_len : ∀ i, (convI f g xs ys i).length = xs.length + ys.length - 1
  | 0 => by simp [convI]
  | i + 1 => by rw [convI, convJ_len, convI_len i]
theorem nrmL_set {zs : List Pol} {n : Nat} {z : Pol} (h : n < zs.length) : nrmL (zs.set n z) + nrm (atP zs n) = nrmL zs + nrm z := by
  induction zs generalizing n with
  | nil => simp at h
  | cons y ys ih =>
    cases n with
    | zero => simp only [List.set_cons_zero, nrmL, atP, List.getD_cons_zero]; omega
    | succ n =>
      have := ih (n := n) (by simpa using h)
      simp only [List.set_cons_succ, nrmL]
      have e : atP (y :: ys) (n + 1) = atP ys n := by simp [atP]
      rw [e]; omega
theorem nrm_atP (zs : List Pol) (n : Nat) : nrm (atP zs n) ≤ nrmL zs := by
  rcases Nat.lt_or_ge n zs.length with h | h
  · exact nrmL_mem (atP_mem h)
  · rw [atP, List.getD_eq_getElem?_getD, List.getElem?_eq_none h]; show nrm p0 ≤ _; rw [nrm_p0]; omega
theorem nrmL_take1 {cs : List Pol} {k : Nat} (h : k < cs.length) : nrmL (cs.take (k + 1)) = nrmL (cs.take k) + nrm (atP cs k) := by
  rw [← takeP_snoc h, nrmL_append]; simp [nrmL]
theorem nrmL_convJ (hf : ∀ y ∈ ys, nrm (f x y) ≤ nrm x * nrm y) (hg : ∀ a b, nrm (g a b) ≤ nrm a + nrm b) : ∀ j, j ≤ ys.length → i + j ≤ zs.length → nrmL (convJ f g x i ys j zs) ≤ nrmL zs + nrm x * nrmL (ys.take j)
  | 0, _, _ => by simp [convJ]
  | j + 1, h, h' => by
    have h1 := nrmL_convJ hf hg j (by omega) (by omega)
    have h2 := nrmL_set (zs := convJ f g x i ys j zs) (n := i + j) (z := g (atP (convJ f g x i ys j zs) (i + j)) (f x (atP ys j))) (by rw [convJ_len]; omega)
    have h3 := hg (atP (convJ f g x i ys j zs) (i + j)) (f x (atP ys j))
    have h4 := hf _ (atP_mem (show j < ys.length by omega))
    rw [convJ, nrmL_take1 (by omega), Nat.mul_add]
    omega
theorem nrmL_convI (hf : ∀ x ∈ xs, ∀ y ∈ ys, nrm (f x y) ≤ nrm x * nrm y) (hg : ∀ a b, nrm (g a b) ≤ nrm a + nrm b) : ∀ i, i ≤ xs.length → nrmL (convI f g xs ys i) ≤ nrmL (xs.take i) * nrmL ys
  | 0, _ => by rw [convI, nrmL_rep]; omega
  | i + 1, h => by
    have h1 := nrmL_convI hf hg i (by omega)
    have h2 := nrmL_convJ (f := f) (g := g) (x := atP xs i) (i := i) (ys := ys) (zs := convI f g xs ys i) (hf _ (atP_mem (by omega))) hg ys.length (Nat.le_refl _) (by rw [convI_len]; omega)
    rw [List.take_length] at h2
    rw [convI, nrmL_take1 (by omega), Nat.add_mul]; omega
theorem convJ_all {C : Pol → Prop} (hz : ∀ z ∈ zs, C z) (hf : ∀ y ∈ ys, C (f x y)) (hg : ∀ a b, C a → C b → C (g a b)) : ∀ j, j ≤ ys.length → i + j ≤ zs.length → ∀ z ∈ convJ f g x i ys j zs, C z
  | 0, _, _, z, h => hz z h
  | j + 1, h, h', z, hm => by
    have ih := convJ_all hz hf hg j (by omega) (by omega)
    rw [convJ] at hm
    rcases List.mem_or_eq_of_mem_set hm with hm | rfl
    · exact ih z hm
    · exact hg _ _ (ih _ (atP_mem (by rw [convJ_len]; omega))) (hf _ (atP_mem (by omega)))
theorem convI_all {C : Pol → Prop} (h0 : C p0) (hf : ∀ x ∈ xs, ∀ y ∈ ys, C (f x y)) (hg : ∀ a b, C a → C b → C (g a b)) : ∀ i, i ≤ xs.length → ∀ z ∈ convI f g xs ys i, C z
  | 0, _, z, h => by rw [convI] at h; rw [(List.mem_replicate.1 h).2]; exact h0
  | i + 1, h, z, hm => by
    rw [convI] at hm
    exact convJ_all (convI_all h0 hf hg i (by omega)) (hf _ (atP_mem (by omega))) hg ys.length (Nat.le_refl _) (by rw [convI_len]; omega) z hm
end conv

theorem nrm_mul : ∀ (k : Nat) (p q : Pol), nrm (mulF k p q) ≤ nrm p * nrm q := by
  have base : ∀ (p q : Pol), nrm (scaleP p (zval q.c)) ≤ nrm p * nrm q := fun p q =>
    Nat.le_trans (nrm_scale p _) (Nat.mul_le_mul_left _ (by rw [nrm_eq q]; omega))
  intro k
  induction k with
  | zero =>
    intro p q; unfold mulF; split
    · exact base p q
    · split
      · rw [Nat.mul_comm]; exact base q p
      · rw [nrm_p0]; omega
  | succ k ih =>
    intro p q; unfold mulF; split
    · exact base p q
    · split
      · rw [Nat.mul_comm]; exact base q p
      · refine Nat.le_trans (nrm_join _ _) (Nat.le_trans (nrmL_convI (fun x _ y _ => ih x y) (nrm_add 4) _ (Nat.le_refl _)) ?_)
        rw [List.take_length]
        exact Nat.mul_le_mul (nrmL_coefs _ _) (nrmL_coefs _ _)
theorem Sz.mul (hD : 1 ≤ D) (hE : 1 ≤ E) : ∀ (k : Nat) {p q : Pol}, Sz D p → Sz E q → Sz (D + E) (mulF k p q)
  | 0, p, q, hp, hq => by
    unfold mulF; split
    · exact (hp.scale _).mono (by omega)
    · split
      · exact (hq.scale _).mono (by omega)
      · exact .p0
  | k + 1, p, q, hp, hq => by
    unfold mulF; split
    · exact (hp.scale _).mono (by omega)
    · split
      · exact (hq.scale _).mono (by omega)
      · have h1 := hp.coefs hD (max p.lv q.lv)
        have h2 := hq.coefs hE (max p.lv q.lv)
        exact .join (convI_all .p0 (fun x hx y hy => Sz.mul hD hE k (h1.1 x hx) (h2.1 y hy)) (fun a b ha hb => Sz.add (by omega) 4 ha hb) _ (Nat.le_refl _)) (by rw [convI_len]; omega)
theorem Lev.mul : ∀ (k j : Nat) {p q : Pol}, j ≤ k → k ≤ 4 → Lev j p → Lev j q → Lev j (mulF k p q)
  | 0, j, p, q, hj, _, lp, lq => by
    unfold mulF; split
    · exact lp.scale _
    · split
      · exact lq.scale _
      · exact .zero
  | k + 1, j, p, q, hj, h4, lp, lq => by
    unfold mulF; split
    · exact lp.scale _
    · split
      · exact lq.scale _
      · rename_i hq0 hp0
        have h1 := lp.lv; have h2 := lq.lv
        obtain ⟨l, hl⟩ : ∃ l : Nat, max p.lv q.lv = ((l + 1 : Nat) : Int) := ⟨(max p.lv q.lv).toNat - 1, by omega⟩
        rw [hl]
        have c1 := (lp.lower (l := l + 1) (by omega)).coefs (l := ((l + 1 : Nat) : Int)) (by omega) (by omega) (by omega)
        have c2 := (lq.lower (l := l + 1) (by omega)).coefs (l := ((l + 1 : Nat) : Int)) (by omega) (by omega) (by omega)
        have hz := convI_all (C := Lev l) (f := mulF k) (g := addF 4) .zero (fun x hx y hy => Lev.mul k l (by omega) (by omega) (c1.2 x hx) (c2.2 y hy)) (fun a b ha hb => addF_lev 4 l a b (by omega) ha hb) (coefsP p ((l + 1 : Nat) : Int)).length (Nat.le_refl _)
        exact joinP_cases .zero (fun q hq => (hz q hq).mono (by omega)) fun h2 => .succ (by omega) (by omega) fun q hq => hz q (trimB_sub hq)

theorem mul_parts {k : Nat} {p q : Pol} (lp : Lev (k + 1) p) (lq : Lev (k + 1) q) (hp : Sz D p) (hq : Sz E q) (hD : 1 ≤ D) (hE : 1 ≤ E) (hq0 : ¬ q.lv = 0) :
    (0 < (coefsP p (max p.lv q.lv)).length ∧ 0 < (coefsP q (max p.lv q.lv)).length ∧ (coefsP p (max p.lv q.lv)).length ≤ D ∧ (coefsP q (max p.lv q.lv)).length ≤ E) ∧
    (∀ x ∈ coefsP p (max p.lv q.lv), Lev k x ∧ Sz D x ∧ nrm x ≤ nrm p) ∧ (∀ y ∈ coefsP q (max p.lv q.lv), Lev k y ∧ Sz E y ∧ nrm y ≤ nrm q) := by
  have h1 := lp.lv; have h2 := lq.lv
  have c1 := lp.coefs (l := max p.lv q.lv) (by omega) (by omega) (by omega)
  have c2 := lq.coefs (l := max p.lv q.lv) (by omega) (by omega) (by omega)
  have s1 := hp.coefs hD (max p.lv q.lv)
  have s2 := hq.coefs hE (max p.lv q.lv)
  exact ⟨⟨c1.1, c2.1, s1.2, s2.2⟩, fun x hx => ⟨c1.2 x hx, s1.1 x hx, Nat.le_trans (nrmL_mem hx) (nrmL_coefs _ _)⟩, fun y hy => ⟨c2.2 y hy, s2.1 y hy, Nat.le_trans (nrmL_mem hy) (nrmL_coefs _ _)⟩⟩
section conv2
variable {k i j : Nat} {xs ys : List Pol} {M N : Nat}
theorem conv_nrm (hx : nrmL xs ≤ M) (hy : nrmL ys ≤ N) (hi : i < xs.length) (hj : j ≤ ys.length) : nrmL (convJ (mulF k) (addF 4) (atP xs i) i ys j (convI (mulF k) (addF 4) xs ys i)) ≤ M * N := by
  have h1 := nrmL_convI (f := mulF k) (g := addF 4) (xs := xs) (ys := ys) (fun x _ y _ => nrm_mul k x y) (nrm_add 4) i (by omega)
  have h2 := nrmL_convJ (f := mulF k) (g := addF 4) (x := atP xs i) (i := i) (ys := ys) (zs := convI (mulF k) (addF 4) xs ys i) (fun y _ => nrm_mul k _ y) (nrm_add 4) j hj (by rw [convI_len]; omega)
  have h3 := nrmL_take1 hi
  have h4 := nrmL_take xs (i + 1)
  have h5 : nrm (atP xs i) * nrmL (ys.take j) ≤ nrm (atP xs i) * nrmL ys := Nat.mul_le_mul_left _ (nrmL_take ys j)
  have h6 : nrmL (xs.take (i + 1)) * nrmL ys ≤ M * N := Nat.mul_le_mul (by omega) hy
  rw [h3, Nat.add_mul] at h6
  omega
theorem conv_at (hD : 1 ≤ D + E) (hx : nrmL xs ≤ M) (hy : nrmL ys ≤ N) (hi : i < xs.length) (hj : j < ys.length) (hk : k ≤ 3) (ax : ∀ x ∈ xs, Lev k x ∧ Sz D x) (ay : ∀ y ∈ ys, Lev k y ∧ Sz E y) (hD1 : 1 ≤ D) (hE1 : 1 ≤ E) :
    Lev 4 (atP (convJ (mulF k) (addF 4) (atP xs i) i ys j (convI (mulF k) (addF 4) xs ys i)) (i + j)) ∧ Sz (D + E) (atP (convJ (mulF k) (addF 4) (atP xs i) i ys j (convI (mulF k) (addF 4) xs ys i)) (i + j)) ∧
    nrm (atP (convJ (mulF k) (addF 4) (atP xs i) i ys j (convI (mulF k) (addF 4) xs ys i)) (i + j)) ≤ M * N := by
  have hl : (convJ (mulF k) (addF 4) (atP xs i) i ys j (convI (mulF k) (addF 4) xs ys i)).length = xs.length + ys.length - 1 := by rw [convJ_len, convI_len]
  have hm := atP_mem (cs := convJ (mulF k) (addF 4) (atP xs i) i ys j (convI (mulF k) (addF 4) xs ys i)) (i := i + j) (by omega)
  have hc : ∀ z ∈ convJ (mulF k) (addF 4) (atP xs i) i ys j (convI (mulF k) (addF 4) xs ys i), Lev 4 z ∧ Sz (D + E) z := by
    have hf : ∀ x ∈ xs, ∀ y ∈ ys, Lev 4 (mulF k x y) ∧ Sz (D + E) (mulF k x y) := fun x hx y hy => ⟨(Lev.mul k k (Nat.le_refl _) (by omega) (ax x hx).1 (ay y hy).1).mono (by omega), Sz.mul hD1 hE1 k (ax x hx).2 (ay y hy).2⟩
    have hg : ∀ a b, Lev 4 a ∧ Sz (D + E) a → Lev 4 b ∧ Sz (D + E) b → Lev 4 (addF 4 a b) ∧ Sz (D + E) (addF 4 a b) := fun a b ha hb => ⟨addF_lev 4 4 a b (Nat.le_refl _) ha.1 hb.1, Sz.add hD 4 ha.2 hb.2⟩
    exact convJ_all (convI_all ⟨.zero, .p0⟩ hf hg i (by omega)) (hf _ (atP_mem hi)) hg j (by omega) (by rw [convI_len]; omega)
  exact ⟨(hc _ hm).1, (hc _ hm).2, Nat.le_trans (nrm_atP _ _) (conv_nrm hx hy hi (by omega))⟩
theorem conv_end (hD : 1 ≤ D + E) (hx : nrmL xs ≤ M) (hy : nrmL ys ≤ N) (ax : ∀ x ∈ xs, Lev k x ∧ Sz D x) (ay : ∀ y ∈ ys, Lev k y ∧ Sz E y) (hD1 : 1 ≤ D) (hE1 : 1 ≤ E) : ∀ z ∈ convI (mulF k) (addF 4) xs ys xs.length, Sz (D + E) z ∧ nrm z ≤ M * N := fun z hz => by
  have h1 := nrmL_convI (f := mulF k) (g := addF 4) (xs := xs) (ys := ys) (fun x _ y _ => nrm_mul k x y) (nrm_add 4) xs.length (Nat.le_refl _)
  rw [List.take_length] at h1
  refine ⟨convI_all (C := Sz (D + E)) .p0 (fun x hx y hy => Sz.mul hD1 hE1 k (ax x hx).2 (ay y hy).2) (fun a b ha hb => Sz.add hD 4 ha hb) _ (Nat.le_refl _) z hz, ?_⟩
  exact Nat.le_trans (nrmL_mem hz) (Nat.le_trans h1 (Nat.mul_le_mul hx hy))
theorem mul_fitN {a b B C : Nat} (ha : a < B32 ^ B) (hb : b < B32 ^ C) : a * b < B32 ^ (B + C) := by
  rw [Nat.pow_add]
  exact Nat.mul_lt_mul_of_lt_of_le ha (Nat.le_of_lt hb) (Nat.pow_pos (by decide))
end conv2

/-! ### The canonical form of any polynomial -/
mutual
def normN : Pol → Pol
  | .mk l c cs => if l ≤ 0 then constP (zval c) else if 4 < l then p0 else if canonB (.mk l c cs) 5 = true then scaleP (.mk l c cs) 1 else hornN (varP l) cs
def hornN : Pol → List Pol → Pol
  | _, [] => p0
  | x, c :: cs => addF 4 (mulF 4 (hornN x cs) x) (normN c)
end
mutual
def cnt : Pol → Nat
  | .mk _ _ cs => 1 + cntL cs
def cntL : List Pol → Nat
  | [] => 0
  | p :: ps => cnt p + cntL ps
end
theorem cnt_eq (p : Pol) : cnt p = 1 + cntL p.cs := by cases p; rw [cnt]; rfl
theorem cntL_mem {q : Pol} : ∀ {cs : List Pol}, q ∈ cs → cnt q ≤ cntL cs
  | _ :: _, .head _ => by simp [cntL]
  | _ :: _, .tail _ h => by have := cntL_mem h; simp only [cntL]; omega
theorem cntL_len : ∀ cs : List Pol, cs.length ≤ cntL cs
  | [] => by simp [cntL]
  | p :: ps => by have := cntL_len ps; have := cnt_eq p; simp only [cntL, List.length_cons]; omega
theorem normN_eq (p : Pol) : normN p = if p.lv ≤ 0 then constP (zval p.c) else if 4 < p.lv then p0 else if canonB p 5 = true then scaleP p 1 else hornN (varP p.lv) p.cs := by
  cases p; rw [normN]; rfl
theorem hornN_drop {x : Pol} {cs : List Pol} {k : Nat} (h : 0 < k) (hk : k ≤ cs.length) : addF 4 (mulF 4 (hornN x (cs.drop k)) x) (normN (atP cs (k - 1))) = hornN x (cs.drop (k - 1)) := by
  have e : cs.drop (k - 1) = atP cs (k - 1) :: cs.drop k := by
    rw [List.drop_eq_getElem_cons (show k - 1 < cs.length by omega), show k - 1 + 1 = k by omega]
    simp [atP, List.getD_eq_getElem?_getD, List.getElem?_eq_getElem (show k - 1 < cs.length by omega)]
  rw [e, hornN]

theorem scale_sz (p : Pol) (n : Int) {D : Nat} (h : cnt p ≤ D) : Sz D (scaleP p n) := by
  induction p using Pol.ind
  rename_i p ih
  rw [scaleP_eq]
  have hc := cnt_eq p
  split
  · exact .const _
  · refine .join (fun q hq => ?_) (by have := cntL_len p.cs; simp; omega)
    obtain ⟨x, hx, rfl⟩ := List.mem_map.1 hq
    exact ih x hx (by have := cntL_mem hx; omega)
theorem nrm_var (l : Int) : nrm (varP l) ≤ 1 := by
  unfold varP; split
  · rw [nrm_p0]; omega
  · have hz : (zval z0).natAbs = 0 := by rw [← ofI_zero, zval_ofI]; rfl
    simp [nrm, nrmL, hz, nrm_p0, nrm_const]
theorem sz_var (l : Int) : Sz 2 (varP l) := by
  unfold varP; split
  · exact .p0
  · exact .mk z0_ofI (show 2 ≤ 2 by decide) fun q hq => by
      simp only [List.mem_cons, List.not_mem_nil, or_false] at hq
      rcases hq with rfl | rfl
      · exact .p0
      · exact .const 1
theorem lev_var (l : Int) : Lev 4 (varP l) := by
  unfold varP; split
  · exact .zero
  · rename_i h
    obtain ⟨m, rfl⟩ : ∃ m : Nat, l = ((m + 1 : Nat) : Int) := ⟨l.toNat - 1, by omega⟩
    exact .succ (by omega) (by simp) fun q hq => by
      simp only [List.mem_cons, List.not_mem_nil, or_false] at hq
      rcases hq with rfl | rfl <;> exact .zero
theorem canon_lev {k : Nat} {b : Int} {p : Pol} (h : canonB p b = true) (hb : b ≤ (k : Int) + 1) : Lev k p := by
  induction p using Pol.ind generalizing k b
  rename_i p ih
  rw [canonB_eq] at h
  obtain ⟨l, c, cs⟩ := p
  by_cases hl : (Pol.mk l c cs).lv = 0
  · have hl' : l = 0 := hl
    subst hl'; exact .zero
  · rw [if_neg hl] at h
    simp only [Pol.lv, Pol.cs, Pol.c] at h ih hl
    simp only [Bool.and_eq_true, Bool.not_eq_true', Bool.or_eq_false_iff, decide_eq_false_iff_not, List.all_eq_true] at h
    obtain ⟨⟨⟨⟨⟨h1, h2⟩, h3⟩, _⟩, h5⟩, _⟩ := h
    replace h1 : ¬ l < 0 := of_decide_eq_false h1
    replace h2 : ¬ b ≤ l := of_decide_eq_false h2
    replace h3 : ¬ cs.length < 2 := of_decide_eq_false h3
    replace hl : ¬ l = 0 := hl
    obtain ⟨m, rfl⟩ : ∃ m : Nat, l = ((m + 1 : Nat) : Int) := ⟨l.toNat - 1, by omega⟩
    exact .succ (by omega) (by omega) fun q hq => ih q hq (h5 q hq) (by omega)

theorem nrm_horn {x : Pol} (hx : nrm x ≤ 1) : ∀ {cs : List Pol}, (∀ q ∈ cs, nrm (normN q) ≤ nrm q) → nrm (hornN x cs) ≤ nrmL cs
  | [], _ => by rw [hornN, nrm_p0]; omega
  | c :: cs, h => by
    have h1 := nrm_horn hx (cs := cs) fun q hq => h q (.tail _ hq)
    have h2 := nrm_add 4 (mulF 4 (hornN x cs) x) (normN c)
    have h3 := nrm_mul 4 (hornN x cs) x
    have h4 := h c (.head _)
    have h5 : nrm (hornN x cs) * nrm x ≤ nrm (hornN x cs) * 1 := Nat.mul_le_mul_left _ hx
    rw [hornN, nrmL]; omega
theorem nrm_norm (p : Pol) : nrm (normN p) ≤ nrm p := by
  induction p using Pol.ind
  rename_i p ih
  rw [normN_eq]
  split
  · rw [nrm_const, nrm_eq]; omega
  · split
    · rw [nrm_p0]; omega
    · split
      · have := nrm_scale p 1; simpa using this
      · have := nrm_horn (nrm_var p.lv) ih; rw [nrm_eq p]; omega
theorem sz_horn {x : Pol} (hx : Sz 2 x) : ∀ {cs : List Pol}, (∀ q ∈ cs, Sz (2 * cnt q + 1) (normN q)) → Sz (2 * cntL cs + 1) (hornN x cs)
  | [], _ => .p0
  | c :: cs, h => by
    have h1 := sz_horn hx (cs := cs) fun q hq => h q (.tail _ hq)
    have h2 := Sz.mul (by omega) (by decide) 4 h1 hx
    have h3 := cnt_eq c
    rw [hornN, cntL]
    exact Sz.add (by omega) 4 (h2.mono (by omega)) ((h c (.head _)).mono (by omega))
theorem sz_norm (p : Pol) : Sz (2 * cnt p + 1) (normN p) := by
  induction p using Pol.ind
  rename_i p ih
  rw [normN_eq]
  split
  · exact .const _
  · split
    · exact .p0
    · split
      · exact scale_sz p 1 (by omega)
      · exact (sz_horn (sz_var p.lv) ih).mono (by have := cnt_eq p; omega)
theorem lev_horn {x : Pol} (hx : Lev 4 x) : ∀ {cs : List Pol}, (∀ q ∈ cs, Lev 4 (normN q)) → Lev 4 (hornN x cs)
  | [], _ => .zero
  | c :: cs, h => by
    rw [hornN]
    exact addF_lev 4 4 _ _ (Nat.le_refl _) (Lev.mul 4 4 (Nat.le_refl _) (Nat.le_refl _) (lev_horn hx fun q hq => h q (.tail _ hq)) hx) (h c (.head _))
theorem lev_norm (p : Pol) : Lev 4 (normN p) := by
  induction p using Pol.ind
  rename_i p ih
  rw [normN_eq]
  split
  · exact .zero
  · split
    · exact .zero
    · split
      · rename_i h; exact Lev.scale (canon_lev h (by omega)) 1
      · exact lev_horn (lev_var p.lv) ih
theorem horn_facts (p : Pol) {k : Nat} (hk : k ≤ p.cs.length) : Lev 4 (hornN (varP p.lv) (p.cs.drop k)) ∧ Sz (2 * cnt p + 1) (hornN (varP p.lv) (p.cs.drop k)) ∧ nrm (hornN (varP p.lv) (p.cs.drop k)) ≤ nrm p := by
  have hn : nrmL (p.cs.drop k) ≤ nrmL p.cs := by
    have := nrmL_append (p.cs.take k) (p.cs.drop k)
    rw [List.take_append_drop] at this; omega
  have hcn : ∀ cs : List Pol, ∀ k, cntL (cs.drop k) ≤ cntL cs := fun cs => by
    induction cs with
    | nil => intro k; simp
    | cons c cs ih =>
      intro k
      cases k with
      | zero => simp
      | succ k => have := ih k; simp only [List.drop_succ_cons, cntL]; omega
  have hc := hcn p.cs k
  have hpc := cnt_eq p
  refine ⟨lev_horn (lev_var _) fun q _ => lev_norm q, (sz_horn (sz_var _) fun q _ => sz_norm q).mono (by omega), ?_⟩
  have := nrm_horn (nrm_var p.lv) (cs := p.cs.drop k) fun q _ => nrm_norm q
  rw [nrm_eq p]; omega
end Go.Rt
