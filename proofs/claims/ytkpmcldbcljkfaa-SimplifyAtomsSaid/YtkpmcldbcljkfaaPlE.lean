/- Plain mathematics: what a polynomial in recursive form stands for: the sum of its terms, each weighted. Conditions: none. -/
import Derived.Test.YtkpmcldbcljkfaaPlD
import Derived.Test.YtkpmcldbcljkfaaPlX
import Derived.Test.YtkpmcldbcljkfaaPlQ
set_option linter.unusedVariables false
set_option linter.unusedSimpArgs false
namespace Go.Rt
open Go Go.RowKit

/-! ### Monomials -/
def Low (k : Nat) (m : Mo) : Prop := ∀ i, i < k → m.at i = 0
theorem Low.mono {k j : Nat} {m : Mo} (h : Low k m) (hj : j ≤ k) : Low j m := fun i hi => h i (by omega)
theorem low_mo0 (k : Nat) : Low k mo0 := fun i _ => by
  match i with
  | 0 => rfl
  | 1 => rfl
  | 2 => rfl
  | n + 3 => rfl
theorem Mo.at_set_self {m : Mo} {j : Nat} {x : Int} : (m.set j x).at j = x := by
  match j with
  | 0 => rfl
  | 1 => rfl
  | 2 => rfl
  | n + 3 => rfl
theorem Mo.at_set_ne {m : Mo} {i j : Nat} {x : Int} (h : i < j) (hj : j < 4) : (m.set j x).at i = m.at i := by
  match j, hj with
  | 0, _ => omega
  | 1, _ => match i, h with | 0, _ => rfl
  | 2, _ => match i, h with | 0, _ => rfl | 1, _ => rfl
  | 3, _ => match i, h with | 0, _ => rfl | 1, _ => rfl | 2, _ => rfl
theorem Mo.at_set_ne' {m : Mo} {i j : Nat} {x : Int} (h : i ≠ j) (hi : i < 4) (hj : j < 4) : (m.set j x).at i = m.at i := by
  match j, hj, i, hi with
  | 0, _, 0, _ => exact absurd rfl h
  | 1, _, 1, _ => exact absurd rfl h
  | 2, _, 2, _ => exact absurd rfl h
  | 3, _, 3, _ => exact absurd rfl h
  | 0, _, 1, _ => rfl
  | 0, _, 2, _ => rfl
  | 0, _, 3, _ => rfl
  | 1, _, 0, _ => rfl
  | 1, _, 2, _ => rfl
  | 1, _, 3, _ => rfl
  | 2, _, 0, _ => rfl
  | 2, _, 1, _ => rfl
  | 2, _, 3, _ => rfl
  | 3, _, 0, _ => rfl
  | 3, _, 1, _ => rfl
  | 3, _, 2, _ => rfl
theorem Low.set {k j : Nat} {m : Mo} {x : Int} (h : Low k m) (hk : k ≤ j) (hj : j < 4) : Low k (m.set j x) := fun i hi => by
  rw [Mo.at_set_ne (by omega) hj]; exact h i hi
theorem Mo.set_at {m : Mo} {j : Nat} {x : Int} (h : m.at j = x) : m.set j x = m := by
  subst h
  match j with
  | 0 => rfl
  | 1 => rfl
  | 2 => rfl
  | n + 3 => rfl
theorem Mo.ext4 {m n : Mo} (h : ∀ i, i < 4 → m.at i = n.at i) : m = n := by
  obtain ⟨a, b, c, d⟩ := m; obtain ⟨a', b', c', d'⟩ := n
  have h0 : a = a' := h 0 (by decide)
  have h1 : b = b' := h 1 (by decide)
  have h2 : c = c' := h 2 (by decide)
  have h3 : d = d' := h 3 (by decide)
  rw [h0, h1, h2, h3]

/-! ### Weighted sums -/
def V (f : Mo → Int) (p : Pol) (m : Mo) : Int := S f (termsP p m)
def VL (f : Mo → Int) (l : Int) : List Pol → Nat → Mo → Int
  | [], _, _ => 0
  | p :: ps, i, m => V f p (m.set (l - 1).toNat i) + VL f l ps (i + 1) m
section weights
variable {f g : Mo → Int} {l : Int} {xs ys cs : List Pol} {p q : Pol} {m : Mo} {i j k : Nat}
theorem V_L : S f (termsL l cs i m) = VL f l cs i m := by
  induction cs generalizing i with
  | nil => rw [termsL]; rfl
  | cons c cs ih => rw [termsL, S_append, ih, VL, V]
theorem V_eq (f : Mo → Int) (p : Pol) (m : Mo) : V f p m = if p.lv = 0 then zval p.c * f m else VL f p.lv p.cs 0 m := by
  obtain ⟨l, c, cs⟩ := p
  rw [V, termsP]
  show S f (if l = 0 then _ else _) = if l = 0 then _ else _
  split
  · simp [S, Pol.c]
  · rw [V_L]; rfl
theorem V_const (n : Int) : V f (constP n) m = n * f m := by
  rw [V_eq, if_pos (show (constP n).lv = 0 from rfl)]; show zval (ofI n) * _ = _; rw [zval_ofI]
theorem V_zero (h : zeroP p = true) : V f p m = 0 := by
  unfold zeroP at h
  simp only [Bool.and_eq_true, decide_eq_true_eq] at h
  rw [V_eq, if_pos h.1, h.2, Int.zero_mul]
theorem V_p0 : V f p0 m = 0 := V_zero (by rw [← constP_zero]; simp [zeroP, constP, Pol.lv, Pol.c, zval_ofI])
theorem VL_append : ∀ {xs : List Pol} {i : Nat}, VL f l (xs ++ ys) i m = VL f l xs i m + VL f l ys (i + xs.length) m
  | [], i => by simp [VL]
  | x :: xs, i => by
    simp only [List.cons_append, VL, List.length_cons]
    rw [VL_append, show i + 1 + xs.length = i + (xs.length + 1) by omega]; omega
theorem VL_zero : ∀ {xs : List Pol} {i : Nat}, (∀ x ∈ xs, zeroP x = true) → VL f l xs i m = 0
  | [], i, _ => rfl
  | x :: xs, i, h => by rw [VL, V_zero (h x (by simp)), VL_zero fun y hy => h y (by simp [hy])]; rfl
theorem trimP_split (cs : List Pol) : ∃ zs, cs = trimP cs ++ zs ∧ ∀ z ∈ zs, zeroP z = true := by
  refine ⟨(cs.reverse.takeWhile zeroP).reverse, ?_, fun z hz => ?_⟩
  · unfold trimP trimB
    rw [← List.reverse_append, List.takeWhile_append_dropWhile, List.reverse_reverse]
  · have h1 := List.mem_reverse.1 hz
    have := List.all_takeWhile (l := cs.reverse) (p := zeroP)
    exact List.all_eq_true.1 this z h1
theorem VL_trim : VL f l (trimP cs) i m = VL f l cs i m := by
  obtain ⟨zs, h, hz⟩ := trimP_split cs
  conv => rhs; rw [h]
  rw [VL_append, VL_zero hz]; omega
theorem V_join (hl : 0 < l) (hm : m.at (l - 1).toNat = 0) : V f (joinP l cs) m = VL f l cs 0 m := by
  rw [← VL_trim]
  unfold joinP
  split
  · rename_i h; rw [h, V_p0]; rfl
  · rename_i p h; rw [h, VL, VL, show ((0 : Nat) : Int) = 0 from rfl, Mo.set_at hm]; omega
  · rw [V_eq, if_neg (show ¬ (Pol.mk l z0 (trimP cs)).lv = 0 from by simp only [Pol.lv]; omega)]; rfl
theorem V_coefs (hl : 0 < l) (hm : m.at (l - 1).toNat = 0) : VL f l (coefsP p l) 0 m = V f p m := by
  unfold coefsP
  split
  · rename_i h
    rw [V_eq f p, if_neg (by omega), h.1]
  · rw [VL, VL, show ((0 : Nat) : Int) = 0 from rfl, Mo.set_at hm]; omega
theorem VL_zip {h : Pol → Pol → Pol} : ∀ {xs ys : List Pol} {i : Nat}, (∀ x ∈ xs, ∀ y ∈ ys, ∀ j : Nat, V f (h x y) (m.set (l - 1).toNat j) = V f x (m.set (l - 1).toNat j) + V f y (m.set (l - 1).toNat j)) →
    VL f l (zipP h xs ys) i m = VL f l xs i m + VL f l ys i m
  | xs, [], i, _ => by rw [zipP_nil]; simp [VL]
  | [], y :: ys, i, _ => by rw [zipP_nil']; simp [VL]
  | x :: xs, y :: ys, i, hh => by
    simp only [zipP, VL]
    rw [hh x (by simp) y (by simp), VL_zip fun a ha b hb => hh a (by simp [ha]) b (by simp [hb])]; omega
theorem V_add : ∀ (k j : Nat) {p q : Pol} {m : Mo}, j ≤ k → j ≤ 4 → Lev j p → Lev j q → Low j m → V f (addF k p q) m = V f p m + V f q m
  | 0, j, p, q, m, hj, _, lp, lq, hm => by
    have h1 := lp.lv; have h2 := lq.lv
    show V f (constP (zval p.c + zval q.c)) m = _
    rw [V_const, V_eq f p, V_eq f q, if_pos (by omega), if_pos (by omega), Int.add_mul]
  | k + 1, j, p, q, m, hj, h4, lp, lq, hm => by
    have h1 := lp.lv; have h2 := lq.lv
    by_cases h0 : max p.lv q.lv = 0
    · rw [← addF_const h0, V_const, V_eq f p, V_eq f q, if_pos (by omega), if_pos (by omega), Int.add_mul]
    · rw [← addF_join h0]
      obtain ⟨l, hl⟩ : ∃ l : Nat, max p.lv q.lv = ((l + 1 : Nat) : Int) := ⟨(max p.lv q.lv).toNat - 1, by omega⟩
      rw [hl]
      have e : (((l + 1 : Nat) : Int) - 1).toNat = l := by omega
      have hlow : m.at (((l + 1 : Nat) : Int) - 1).toNat = 0 := hm _ (by omega)
      have c1 := (lp.lower (l := l + 1) (by omega)).coefs (l := ((l + 1 : Nat) : Int)) (by omega) (by omega) (by omega)
      have c2 := (lq.lower (l := l + 1) (by omega)).coefs (l := ((l + 1 : Nat) : Int)) (by omega) (by omega) (by omega)
      have hz : VL f ((l + 1 : Nat) : Int) (zipP (addF k) (coefsP p ((l + 1 : Nat) : Int)) (coefsP q ((l + 1 : Nat) : Int))) 0 m = VL f ((l + 1 : Nat) : Int) (coefsP p ((l + 1 : Nat) : Int)) 0 m + VL f ((l + 1 : Nat) : Int) (coefsP q ((l + 1 : Nat) : Int)) 0 m :=
        VL_zip fun x hx y hy i => V_add k l (by omega) (by omega) (c1.2 x hx) (c2.2 y hy) (by rw [e]; exact (hm.mono (by omega)).set (Nat.le_refl l) (by omega))
      rw [V_join (by omega) hlow, hz, V_coefs (by omega) hlow, V_coefs (by omega) hlow]
theorem VL_map {h : Pol → Pol} {n : Int} : ∀ {xs : List Pol} {i : Nat}, (∀ x ∈ xs, ∀ j : Nat, V f (h x) (m.set (l - 1).toNat j) = n * V f x (m.set (l - 1).toNat j)) → VL f l (xs.map h) i m = n * VL f l xs i m
  | [], i, _ => by simp [VL]
  | x :: xs, i, hh => by
    simp only [List.map_cons, VL]
    rw [hh x (by simp), VL_map fun a ha => hh a (by simp [ha]), Int.mul_add]
theorem V_scale : ∀ {k : Nat} {p : Pol} {m : Mo} (n : Int), k ≤ 4 → Lev k p → Low k m → V f (scaleP p n) m = n * V f p m := by
  intro k p
  induction p using Pol.ind generalizing k
  rename_i p ih
  intro m n h4 lp hm
  rw [scaleP_eq]
  split
  · rename_i h; rw [V_const, V_eq f p, if_pos h]; rw [Int.mul_comm (zval p.c) n, Int.mul_assoc]
  · rename_i h
    cases lp with
    | zero => exact absurd rfl h
    | @succ _ l c cs hk hc hs =>
      have e : (((l + 1 : Nat) : Int) - 1).toNat = l := by omega
      show V f (joinP ((l + 1 : Nat) : Int) (cs.map (scaleP · n))) m = _
      have hlow : m.at (((l + 1 : Nat) : Int) - 1).toNat = 0 := hm _ (by omega)
      rw [V_join (by omega) hlow, V_eq f (.mk _ _ _), if_neg h]
      exact VL_map fun x hx i => ih x hx n (by omega) (hs x hx) (by rw [e]; exact (hm.mono (by omega)).set (Nat.le_refl l) (by omega))
theorem V_congr : ∀ {k : Nat} {p : Pol} {m : Mo}, Lev k p → (∀ t ∈ termsP p m, f t.exp = g t.exp) → V f p m = V g p m := fun _ h => S_congr h
/-- The terms of a polynomial of levels up to k keep the exponents from k on. -/
theorem terms_at : ∀ {k : Nat} {p : Pol} {m : Mo} {i : Nat}, k ≤ 4 → Lev k p → k ≤ i → i < 4 → ∀ t ∈ termsP p m, t.exp.at i = m.at i := by
  intro k p
  induction p using Pol.ind generalizing k
  rename_i p ih
  intro m i h4 lp hi hi4 t ht
  rw [termsP_eq] at ht
  split at ht
  · simp at ht; rw [ht]
  · rename_i h
    obtain ⟨j, hj, h2⟩ := List.mem_flatMap.1 ht
    have hj' := List.mem_range.1 hj
    cases lp with
    | zero => exact absurd rfl h
    | succ hk hc hs =>
      rename_i l c cs
      have e : (((l + 1 : Nat) : Int) - 1).toNat = l := by omega
      have := ih _ (atP_mem hj') (m := m.set (((l + 1 : Nat) : Int) - 1).toNat (j : Int)) (i := i) (by omega) (hs _ (atP_mem hj')) (by omega) hi4 t h2
      rw [this, e, Mo.at_set_ne' (by omega) hi4 (by omega)]

/-! ### Canonical polynomials -/
inductive CanP : Nat → Pol → Prop
  | const {k : Nat} (n : Int) : CanP k (constP n)
  | node {k l : Nat} {cs : List Pol} (h : l + 1 ≤ k) (h2 : 2 ≤ cs.length) (hs : ∀ q ∈ cs, CanP l q) (ht : trimP cs = cs) : CanP k (.mk ((l + 1 : Nat) : Int) z0 cs)
theorem CanP.mono {p : Pol} (h : CanP k p) (hj : k ≤ j) : CanP j p := by
  cases h with
  | const n => exact .const n
  | node h h2 hs ht => exact .node (by omega) h2 hs ht
theorem CanP.lev {p : Pol} (h : CanP k p) : Lev k p := by
  induction h with
  | const n => exact .zero
  | node h h2 hs ht ih => exact .succ h (by omega) ih
theorem can_p0 : CanP k p0 := by rw [← constP_zero]; exact .const 0
theorem zeroP_p0 : zeroP p0 = true := by rw [← constP_zero]; simp [zeroP, constP, Pol.lv, Pol.c, zval_ofI]
theorem CanP.zero {p : Pol} (h : CanP k p) (hz : zeroP p = true) : p = p0 := by
  unfold zeroP at hz
  simp only [Bool.and_eq_true, decide_eq_true_eq] at hz
  cases h with
  | const n =>
    have : zval (ofI n) = 0 := hz.2
    rw [zval_ofI] at this; rw [this, constP_zero]
  | node h h2 hs ht => have := hz.1; simp only [Pol.lv] at this; omega
theorem trimP_idem (cs : List Pol) : trimP (trimP cs) = trimP cs := by
  obtain ⟨zs, h, hz⟩ := trimP_split cs
  rcases Nat.eq_zero_or_pos (trimP cs).length with q | q
  · rw [List.eq_nil_of_length_eq_zero q]; rfl
  · -- the last element is not zero
    have hl : (trimP cs) ≠ [] := by intro e; rw [e] at q; simp at q
    have hr : (cs.reverse.dropWhile zeroP) ≠ [] := by
      intro e; apply hl; unfold trimP trimB; rw [e]; rfl
    have hh := List.head_dropWhile_not zeroP (l := cs.reverse) hr
    unfold trimP trimB
    rw [List.reverse_reverse]
    congr 1
    cases hd : cs.reverse.dropWhile zeroP with
    | nil => rfl
    | cons a l =>
      have : zeroP a = false := by
        have e : (cs.reverse.dropWhile zeroP).head hr = a := by simp [hd]
        rw [← e]; exact hh
      rw [List.dropWhile_cons, if_neg (by rw [this]; decide)]
theorem CanP.join {l : Nat} {cs : List Pol} (h : ∀ q ∈ cs, CanP l q) : CanP (l + 1) (joinP ((l + 1 : Nat) : Int) cs) :=
  joinP_cases can_p0 (fun q hq => (h q hq).mono (by omega)) fun h2 => .node (Nat.le_refl _) h2 (fun q hq => h q (trimB_sub hq)) (trimP_idem cs)
theorem CanP.coefs {p : Pol} {l : Nat} (h : CanP (l + 1) p) : ∀ q ∈ coefsP p ((l + 1 : Nat) : Int), CanP l q := by
  unfold coefsP
  cases h with
  | const n => rw [if_neg (by simp only [constP, Pol.lv]; omega)]; intro q hq; simp at hq; subst hq; exact .const n
  | node h h2 hs ht =>
    rename_i m cs
    by_cases e : m = l
    · subst e; rw [if_pos ⟨rfl, by omega⟩]; exact hs
    · rw [if_neg (by simp only [Pol.lv]; omega)]
      intro q hq; simp at hq; subst hq; exact .node (by omega) h2 hs ht
theorem CanP.lower {p : Pol} {l : Nat} (h : CanP k p) (hl : p.lv ≤ l) : CanP l p := by
  cases h with
  | const n => exact .const n
  | node h h2 hs ht => simp only [Pol.lv] at hl; exact .node (by omega) h2 hs ht
theorem join_coefs {p : Pol} (h : CanP k p) (hl : 0 < l) (hp : p.lv ≤ l) : joinP l (coefsP p l) = p := by
  unfold coefsP
  split
  · rename_i e
    cases h with
    | const n => exact absurd e.1 (by simp only [constP, Pol.lv]; omega)
    | node h h2 hs ht =>
      rename_i m cs
      have e1 : ((m + 1 : Nat) : Int) = l := e.1
      show joinP l cs = _
      unfold joinP; rw [ht]
      match cs, h2 with
      | a :: b :: r, _ => rw [← e1]
  · by_cases hz : zeroP p = true
    · have : trimP [p] = [] := trimB_zero [] hz
      unfold joinP; rw [this]; exact (h.zero hz).symm
    · have : trimP [p] = [p] := trimB_pos [] (by simpa using hz)
      unfold joinP; rw [this]
theorem CanP.scale {p : Pol} (h : Lev k p) (n : Int) : CanP k (scaleP p n) := by
  induction p using Pol.ind generalizing k
  rename_i p ih
  rw [scaleP_eq]
  cases h with
  | zero => rw [if_pos (by rfl)]; exact .const _
  | succ h hc hs =>
    rename_i l c cs
    rw [if_neg (by simp only [Pol.lv]; omega)]
    exact (CanP.join fun q hq => by
      obtain ⟨x, hx, rfl⟩ := List.mem_map.1 hq
      exact ih x hx (hs x hx)).mono h
theorem CanP.add : ∀ (k j : Nat) {p q : Pol}, j ≤ k → CanP j p → CanP j q → CanP j (addF k p q)
  | 0, j, p, q, hj, _, _ => .const _
  | k + 1, j, p, q, hj, hp, hq => by
    have h1 := hp.lev.lv; have h2 := hq.lev.lv
    by_cases h0 : max p.lv q.lv = 0
    · rw [← addF_const h0]; exact .const _
    · rw [← addF_join h0]
      obtain ⟨l, hl⟩ : ∃ l : Nat, max p.lv q.lv = ((l + 1 : Nat) : Int) := ⟨(max p.lv q.lv).toNat - 1, by omega⟩
      rw [hl]
      have c1 := (hp.lower (l := l + 1) (by omega)).coefs
      have c2 := (hq.lower (l := l + 1) (by omega)).coefs
      exact (CanP.join (zipP_all c1 c2 fun x hx y hy => CanP.add k l (by omega) (c1 x hx) (c2 y hy))).mono (by omega)
theorem CanP.mul : ∀ (k j : Nat) {p q : Pol}, j ≤ k → k ≤ 4 → CanP j p → CanP j q → CanP j (mulF k p q)
  | 0, j, p, q, hj, _, hp, hq => by
    unfold mulF; split
    · exact .scale hp.lev _
    · split
      · exact .scale hq.lev _
      · exact can_p0
  | k + 1, j, p, q, hj, h4, hp, hq => by
    unfold mulF; split
    · exact .scale hp.lev _
    · split
      · exact .scale hq.lev _
      · have h1 := hp.lev.lv; have h2 := hq.lev.lv
        obtain ⟨l, hl⟩ : ∃ l : Nat, max p.lv q.lv = ((l + 1 : Nat) : Int) := ⟨(max p.lv q.lv).toNat - 1, by omega⟩
        rw [hl]
        have c1 := (hp.lower (l := l + 1) (by omega)).coefs
        have c2 := (hq.lower (l := l + 1) (by omega)).coefs
        exact (CanP.join (convI_all can_p0 (fun x hx y hy => CanP.mul k l (by omega) (by omega) (c1 x hx) (c2 y hy)) (fun a b ha hb => CanP.add 4 l (by omega) ha hb) _ (Nat.le_refl _))).mono (by omega)
theorem can_var (n : Int) : CanP 4 (varP n) := by
  unfold varP; split
  · exact can_p0
  · rename_i h
    obtain ⟨m, rfl⟩ : ∃ m : Nat, n = ((m + 1 : Nat) : Int) := ⟨n.toNat - 1, by omega⟩
    refine .node (by omega) (by simp) (fun q hq => ?_) (trimB_pos [p0] (by show zeroP (constP 1) = false; simp [zeroP, constP, Pol.lv, Pol.c, zval_ofI]))
    simp only [List.mem_cons, List.not_mem_nil, or_false] at hq
    rcases hq with rfl | rfl
    · exact can_p0
    · exact .const 1
theorem can_norm (p : Pol) : CanP 4 (normN p) := by
  induction p using Pol.ind
  rename_i p ih
  rw [normN_eq]
  split
  · exact .const _
  · split
    · exact can_p0
    · split
      · rename_i h; exact CanP.scale (canon_lev h (by omega)) 1
      · have : ∀ {cs : List Pol}, (∀ q ∈ cs, CanP 4 (normN q)) → CanP 4 (hornN (varP p.lv) cs) := fun {cs} => by
          induction cs with
          | nil => intro _; exact can_p0
          | cons c cs ihc =>
            intro h
            rw [hornN]
            exact CanP.add 4 4 (Nat.le_refl _) (CanP.mul 4 4 (Nat.le_refl _) (Nat.le_refl _) (ihc fun q hq => h q (by simp [hq])) (can_var _)) (h c (by simp))
        exact this ih
/-- A canonical polynomial is known by what it stands for. -/
theorem joinP_congr {A B : List Pol} (h : ∀ j, atP A j = atP B j) : joinP l A = joinP l B := by
  have key : ∀ {A B : List Pol}, A.length ≤ B.length → (∀ j, atP A j = atP B j) → trimP A = trimP B := fun {A B} hl h => by
    have e : B = A ++ List.replicate (B.length - A.length) p0 := by
      apply List.ext_getElem (by simp; omega)
      intro i h1 h2
      have hb : atP B i = B[i] := by simp [atP, List.getD_eq_getElem?_getD, List.getElem?_eq_getElem h1]
      rw [← hb, ← h i]
      by_cases q : i < A.length
      · rw [List.getElem_append_left q]; simp [atP, List.getD_eq_getElem?_getD, List.getElem?_eq_getElem q]
      · rw [List.getElem_append_right (by omega), List.getElem_replicate]
        simp [atP, List.getD_eq_getElem?_getD, List.getElem?_eq_none (show A.length ≤ i by omega)]
    rw [e]
    clear e
    induction B.length - A.length with
    | zero => simp
    | succ n ih => rw [List.replicate_succ', ← List.append_assoc, show trimP (A ++ List.replicate n p0 ++ [p0]) = trimP (A ++ List.replicate n p0) from trimB_zero _ zeroP_p0]; exact ih
  unfold joinP
  rcases Nat.le_total A.length B.length with q | q
  · rw [key q h]
  · rw [key q fun j => (h j).symm]
theorem VL_pick {l : Nat} (hl : l < 4) (j : Nat) : ∀ {xs : List Pol} {i : Nat}, (∀ x ∈ xs, Lev l x) → VL (fun n => if n.at l = (j : Int) then g n else 0) ((l + 1 : Nat) : Int) xs i m = if i ≤ j then V g (atP xs (j - i)) (m.set l j) else 0
  | [], i, _ => by
    have : atP [] (j - i) = p0 := rfl
    rw [this, V_p0, VL, ite_self]
  | x :: xs, i, h => by
    have e : (((l + 1 : Nat) : Int) - 1).toNat = l := by omega
    have hx := terms_at (m := m.set l (i : Int)) (i := l) (by omega) (h x (by simp)) (Nat.le_refl l) hl
    rw [VL, VL_pick hl j fun y hy => h y (by simp [hy]), e]
    by_cases q : i = j
    · subst q
      rw [if_neg (by omega), if_pos (by omega), Nat.sub_self, Int.add_zero]
      exact S_congr fun t ht => by rw [hx t ht, Mo.at_set_self, if_pos rfl]
    · have h0 : V (fun n => if n.at l = (j : Int) then g n else 0) x (m.set l (i : Int)) = 0 := S_zero fun t ht => by rw [hx t ht, Mo.at_set_self, if_neg (by omega)]
      rw [h0, Int.zero_add]
      by_cases q2 : i ≤ j
      · rw [if_pos (by omega), if_pos q2]
        have : atP (x :: xs) (j - i) = atP xs (j - (i + 1)) := by
          rw [show j - i = (j - (i + 1)) + 1 by omega]; rfl
        rw [this]
      · rw [if_neg (by omega), if_neg q2]
theorem can_uniqP : ∀ (k : Nat) {p q : Pol} {m : Mo}, k ≤ 4 → CanP k p → CanP k q → Low k m → (∀ f : Mo → Int, V f p m = V f q m) → p = q
  | 0, p, q, m, h4, hp, hq, hm, h => by
    cases hp with
    | const a =>
      cases hq with
      | const b =>
        have := h fun _ => 1
        rw [V_const, V_const] at this
        rw [show a = b by omega]
      | node h _ _ _ => omega
    | node h _ _ _ => omega
  | k + 1, p, q, m, h4, hp, hq, hm, h => by
    have e : (((k + 1 : Nat) : Int) - 1).toNat = k := by omega
    have hlow : m.at (((k + 1 : Nat) : Int) - 1).toNat = 0 := hm _ (by omega)
    have h1 := hp.lev.lv; have h2 := hq.lev.lv
    rw [← join_coefs (l := ((k + 1 : Nat) : Int)) hp (by omega) (by omega), ← join_coefs (l := ((k + 1 : Nat) : Int)) hq (by omega) (by omega)]
    refine joinP_congr fun j => ?_
    have at_can : ∀ {xs : List Pol}, (∀ x ∈ xs, CanP k x) → CanP k (atP xs j) := fun {xs} hx => by
      by_cases q : j < xs.length
      · exact hx _ (atP_mem q)
      · have : atP xs j = p0 := by simp [atP, List.getD_eq_getElem?_getD, List.getElem?_eq_none (show xs.length ≤ j by omega)]
        rw [this]; exact can_p0
    refine can_uniqP k (m := m.set k j) (by omega) (at_can hp.coefs) (at_can hq.coefs) ((hm.mono (by omega)).set (Nat.le_refl k) (by omega)) fun f => ?_
    have hf := h fun n => if n.at k = (j : Int) then f n else 0
    rw [← V_coefs (l := ((k + 1 : Nat) : Int)) (by omega) hlow, ← V_coefs (p := q) (l := ((k + 1 : Nat) : Int)) (by omega) hlow,
      VL_pick (by omega) j (fun x hx => (hp.coefs x hx).lev), VL_pick (by omega) j (fun x hx => (hq.coefs x hx).lev), if_pos (by omega), if_pos (by omega), Nat.sub_zero] at hf
    exact hf
theorem can_scale1 {p : Pol} (h : CanP 4 p) : scaleP p 1 = p :=
  can_uniqP 4 (m := mo0) (Nat.le_refl _) (.scale h.lev 1) h (low_mo0 4) fun f => by rw [V_scale 1 (Nat.le_refl _) h.lev (low_mo0 4), Int.one_mul]
theorem can_canon : ∀ {k : Nat} {p : Pol} {b : Int}, CanP k p → (k : Int) < b → canonB p b = true := by
  intro k p b h
  induction h generalizing b with
  | const n =>
    intro hb
    rw [canonB_eq, if_pos (show (constP n).lv = 0 from rfl)]
    show (decide (([] : List Pol).length = 0) && (!(decide (n < 0)) || !decide (zval (ofI n) = 0))) = true
    rw [zval_ofI]
    by_cases q : n < 0
    · simp [q]; omega
    · simp [q]
  | node h h2 hs ht ih =>
    rename_i k l cs
    intro hb
    rw [canonB_eq, if_neg (by simp only [Pol.lv]; omega)]
    simp only [Pol.lv, Pol.cs, Pol.c]
    have hz0 : zval z0 = 0 := zval_z0
    have hlast : zeroP (atP cs (cs.length - 1)) = false := by
      rcases hq : zeroP (atP cs (cs.length - 1)) with _ | _
      · rfl
      · have h3 := trimP_step (cs := cs) (n := cs.length) (by omega) (Nat.le_refl _) hq
        rw [List.take_length, ht] at h3
        have h4 : (trimP (cs.take (cs.length - 1))).length ≤ _ := trimB_len (z := zeroP) (xs := cs.take (cs.length - 1))
        rw [h3, List.length_take] at h4; omega
    simp only [Bool.and_eq_true, Bool.not_eq_true', Bool.or_eq_false_iff, decide_eq_false_iff_not, List.all_eq_true]
    refine ⟨⟨⟨⟨⟨decide_eq_false (by omega), decide_eq_false (by omega)⟩, decide_eq_false (by omega)⟩, ?_⟩, fun q hq => ih q hq (by omega)⟩, hlast⟩
    simp [hz0]
theorem norm_can {p : Pol} (h : CanP 4 p) : normN p = p := by
  rw [normN_eq]
  have hl := h.lev.lv
  split
  · cases h with
    | const n => show constP (zval (ofI n)) = _; rw [zval_ofI]
    | node h h2 hs ht => rename_i q; simp only [Pol.lv] at q; omega
  · rw [if_neg (by omega), if_pos (can_canon h (by decide)), can_scale1 h]
end weights
end Go.Rt
