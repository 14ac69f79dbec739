/- Plain mathematics: sizes: how long the numbers and lists of canonical forms are. Conditions: none. -/
import Derived.Test.YtkpmcldbcljkfaaPlF
set_option linter.unusedVariables false
set_option linter.unusedSimpArgs false
namespace Go.Rt
open Go Go.RowKit

/-! ### The sum of the absolute values of the coefficients -/
def nrmT (ts : List Tm) : Nat := (ts.map fun t => (zval t.coef).natAbs).sum
section nrmT
variable {xs ys ts L : List Tm} {B D : Nat}
theorem nrmT_cons (t : Tm) : nrmT (t :: ts) = (zval t.coef).natAbs + nrmT ts := by simp [nrmT]
theorem nrmT_append : nrmT (xs ++ ys) = nrmT xs + nrmT ys := by simp [nrmT]
theorem nrmT_perm (h : xs.Perm ys) : nrmT xs = nrmT ys := (h.map _).sum_nat
theorem nrmT_mem {t : Tm} (h : t ∈ ts) : (zval t.coef).natAbs ≤ nrmT ts := by
  induction ts with
  | nil => cases h
  | cons u ts ih =>
    rw [nrmT_cons]
    rcases List.mem_cons.1 h with q | q
    · rw [q]; omega
    · have := ih q; omega
theorem sumRun_nrm (m : Mo) : ∀ (c : Int) (ts : List Tm), (sumRun m c ts).1.natAbs + nrmT (sumRun m c ts).2 ≤ c.natAbs + nrmT ts
  | c, [] => Nat.le_refl _
  | c, t :: ts => by
    rw [sumRun]; split
    · have h1 := sumRun_nrm m (c + zval t.coef) ts
      have h2 := Int.natAbs_add_le c (zval t.coef)
      rw [nrmT_cons]; omega
    · exact Nat.le_refl _
theorem mergeT_nrm : ∀ (n : Nat) (ts : List Tm), ts.length ≤ n → nrmT (mergeT ts) ≤ nrmT ts
  | 0, ts, h => by rw [List.eq_nil_of_length_eq_zero (Nat.le_zero.1 h), mergeT]; exact Nat.le_refl _
  | n + 1, [], h => by rw [mergeT]; exact Nat.le_refl _
  | n + 1, t :: ts, h => by
    have h1 := sumRun_nrm t.exp (zval t.coef) ts
    have h2 := mergeT_nrm n (sumRun t.exp (zval t.coef) ts).2 (Nat.le_trans (sumRun_len ..) (by simpa using h))
    rw [mergeT, nrmT_append, nrmT_cons]
    split
    · simp only [nrmT, List.map_nil, List.sum_nil] at *; omega
    · have : nrmT [(⟨ofI (sumRun t.exp (zval t.coef) ts).1, t.exp⟩ : Tm)] = (sumRun t.exp (zval t.coef) ts).1.natAbs := by simp [nrmT, zval_ofI]
      rw [this]; omega
theorem keepT_nrm (ts : List Tm) : nrmT (keepT ts) ≤ nrmT ts := by
  induction ts with
  | nil => exact Nat.le_refl _
  | cons t ts ih =>
    unfold keepT at *
    rw [List.filter_cons, nrmT_cons]; split
    · rw [nrmT_cons]; omega
    · omega
theorem normS_nrm (ts : List Tm) : nrmT (normS ts) ≤ nrmT ts := by
  have h1 := mergeT_nrm _ (sortT (keepT ts)) (Nat.le_refl _)
  have h2 := nrmT_perm (sortT_perm (keepT ts)).1
  have h3 := keepT_nrm ts
  unfold normS; omega
theorem sgnT_nrm (h : lcT L ≠ 0) : nrmT (sgnT L) ≤ nrmT L := by
  have key : ∀ ts : List Tm, (∀ t ∈ ts, lcT L ∣ zval t.coef) → nrmT (ts.map (divT (lcT L))) ≤ nrmT ts := fun ts => by
    induction ts with
    | nil => intro _; exact Nat.le_refl _
    | cons t ts ih =>
      intro hd
      have h1 := ih fun u hu => hd u (by simp [hu])
      have h2 : (zval (divT (lcT L) t).coef).natAbs ≤ (zval t.coef).natAbs := by
        show (zval (ofI (zval t.coef / lcT L))).natAbs ≤ _
        obtain ⟨c, hc⟩ := hd t (by simp)
        rw [zval_ofI, hc, Int.mul_ediv_cancel_left _ h, Int.natAbs_mul]
        exact Nat.le_mul_of_pos_left _ (Int.natAbs_pos.2 h)
      rw [List.map_cons, nrmT_cons, nrmT_cons]; omega
  exact key L lcT_dvd
theorem coefT_len (h : ∀ t ∈ L, t.coef = ofI (zval t.coef)) (hn : nrmT L < B32 ^ B) : ∀ t ∈ L, t.coef.abs.length ≤ B := fun t ht => by
  rw [h t ht]; exact dig_len_pow (Nat.lt_of_le_of_lt (nrmT_mem ht) hn)
theorem coefT_digs (h : ∀ t ∈ L, t.coef = ofI (zval t.coef)) : ∀ t ∈ L, Digs t.coef.abs := fun t ht => by rw [h t ht]; exact digs_dig _
theorem nrmT_len : ∀ {ts : List Tm}, (∀ t ∈ ts, Digs t.coef.abs) → (∀ t ∈ ts, t.coef.abs.length ≤ B) → nrmT ts ≤ ts.length * B32 ^ B
  | [], _, _ => by simp [nrmT]
  | t :: ts, hd, hz => by
    have h1 := nrmT_len (ts := ts) (fun u hu => hd u (by simp [hu])) (fun u hu => hz u (by simp [hu]))
    have h2 := Nat.lt_of_lt_of_le (val_pow (hd t (by simp))) (pow_mono (hz t (by simp)))
    rw [nrmT_cons, List.length_cons, Nat.add_mul]; omega
theorem nrmT_lt (hl : ts.length ≤ 4294967295) (hd : ∀ t ∈ ts, Digs t.coef.abs) (hz : ∀ t ∈ ts, t.coef.abs.length ≤ B) : nrmT ts < B32 ^ (B + 1) := by
  have h1 := nrmT_len hd hz
  refine Nat.lt_of_le_of_lt h1 ?_
  rw [Nat.pow_succ, Nat.mul_comm]
  exact Nat.mul_lt_mul_of_pos_left (Nat.lt_of_le_of_lt hl (by decide)) (Nat.pow_pos (by decide))
end nrmT

/-! ### What sparse.SignNormal wants to know -/
structure SgnF (B : Nat) (ts : List Tm) : Prop where
  l2 : (normS ts).length ≤ 4294967295
  d2 : ∀ t ∈ normS ts, Digs t.coef.abs
  z1 : ∀ t ∈ ts, t.coef.abs.length ≤ B + 1
  z2 : ∀ t ∈ normS ts, t.coef.abs.length ≤ B + 1
  z3 : ∀ t ∈ normS (normS ts), t.coef.abs.length ≤ B + 1
  c : signO ts ≠ 0
  dv : ∀ t ∈ normS ts, signO ts ∣ zval t.coef
theorem sgnF {B : Nat} {ts : List Tm} (hl : ts.length ≤ 4294967295) (hd : ∀ t ∈ ts, Digs t.coef.abs) (hz : ∀ t ∈ ts, t.coef.abs.length ≤ B) (hne : normS ts ≠ []) : SgnF B ts := by
  have h := normS_can ts
  have hn := Nat.lt_of_le_of_lt (normS_nrm ts) (nrmT_lt hl hd hz)
  have hz2 := coefT_len h.ofI hn
  exact ⟨Nat.le_trans (normS_len ts) hl, coefT_digs h.ofI, fun t ht => Nat.le_succ_of_le (hz t ht), hz2, by rw [normS_id h]; exact hz2, by rw [signO_lc]; exact lcT_ne h hne, fun t ht => by rw [signO_lc]; exact lcT_dvd t ht⟩

/-! ### Recursive polynomials -/
section rec
variable {D : Nat}
theorem nrmT_terms (p : Pol) (m : Mo) : nrmT (termsP p m) ≤ nrm p := by
  induction p using Pol.ind generalizing m
  rename_i p ih
  obtain ⟨l, c, cs⟩ := p
  rw [termsP, nrm]
  split
  · simp [nrmT]
  · have key : ∀ (ys : List Pol) (i : Nat), (∀ y ∈ ys, y ∈ cs) → nrmT (termsL l ys i m) ≤ nrmL ys := fun ys => by
      induction ys with
      | nil => intro i _; rw [termsL]; exact Nat.le_refl _
      | cons y ys ihy =>
        intro i hy
        have h1 := ih y (hy y (by simp)) (m.set (l - 1).toNat i)
        have h2 := ihy (i + 1) fun z hz => hy z (by simp [hz])
        rw [termsL, nrmT_append, nrmL]; omega
    have := key cs 0 fun y h => h
    omega
theorem toS_nrm (p : Pol) : nrmT (toS p) ≤ nrm p := Nat.le_trans (normS_nrm _) (nrmT_terms p mo0)
theorem terms_lt : ∀ {k : Nat} {p : Pol} {m : Mo}, k ≤ 4 → Lev k p → Sz D p → 1 ≤ D → (∀ i, i < 4 → m.at i < D) → ∀ t ∈ termsP p m, ∀ i, i < 4 → t.exp.at i < D := by
  intro k p
  induction p using Pol.ind generalizing k
  rename_i p ih
  intro m h4 lp sp hD hm t ht
  rw [termsP_eq] at ht
  split at ht
  · simp at ht; rw [ht]; exact hm
  · rename_i h
    obtain ⟨j, hj, h2⟩ := List.mem_flatMap.1 ht
    have hj' := List.mem_range.1 hj
    have hcs := sp.cs
    have hsub := sp.sub
    cases lp with
    | zero => exact absurd rfl h
    | @succ _ l c cs hk hc hs =>
      refine ih _ (atP_mem hj') (by omega) (hs _ (atP_mem hj')) (hsub _ (atP_mem hj')) hD (fun i hi => ?_) t h2
      have e : (((l + 1 : Nat) : Int) - 1).toNat = l := by omega
      show (m.set (((l + 1 : Nat) : Int) - 1).toNat _).at i < _
      rw [e]
      by_cases q : i = l
      · subst q; rw [Mo.at_set_self]; omega
      · rw [Mo.at_set_ne' q hi (by omega)]; exact hm i hi
theorem terms_len : ∀ {k : Nat} {p : Pol} {m : Mo}, Lev k p → Sz D p → 1 ≤ D → (termsP p m).length ≤ D ^ k := by
  intro k p
  induction p using Pol.ind generalizing k
  rename_i p ih
  intro m lp sp hD
  have hcs := sp.cs
  have hsub := sp.sub
  cases lp with
  | zero => rw [termsP_eq, if_pos (by rfl)]; exact Nat.pow_pos hD
  | @succ _ l c cs hk hc hs =>
    rw [termsP, if_neg (by omega)]
    have key : ∀ (ys : List Pol) (i : Nat), (∀ y ∈ ys, y ∈ cs) → (termsL ((l + 1 : Nat) : Int) ys i m).length ≤ ys.length * D ^ l := fun ys => by
      induction ys with
      | nil => intro i _; rw [termsL]; simp
      | cons y ys ihy =>
        intro i hy
        have h1 := ih y (hy y (by simp)) (m := m.set (((l + 1 : Nat) : Int) - 1).toNat i) (hs y (hy y (by simp))) (hsub y (hy y (by simp))) hD
        have h2 := ihy (i + 1) fun z hz => hy z (by simp [hz])
        rw [termsL, List.length_append, List.length_cons, Nat.add_mul]; omega
    refine Nat.le_trans (key cs 0 fun y h => h) (Nat.le_trans (Nat.mul_le_mul_right _ hcs) ?_)
    rw [Nat.mul_comm, ← Nat.pow_succ]
    exact Nat.pow_le_pow_right hD hk
theorem cnt_can {k : Nat} {p : Pol} (h : CanP k p) (hs : Sz D p) : cnt p ≤ (D + 1) ^ k := by
  induction h with
  | const n => rw [cnt_eq]; exact Nat.pow_pos (by omega)
  | @node k l cs h h2 hsub ht ih =>
    have hcs := hs.cs
    have hss := hs.sub
    rw [cnt_eq]
    have key : ∀ ys : List Pol, (∀ y ∈ ys, y ∈ cs) → cntL ys ≤ ys.length * (D + 1) ^ l := fun ys => by
      induction ys with
      | nil => intro _; simp [cntL]
      | cons y ys ihy =>
        intro hy
        have h1 := ih y (hy y (by simp)) (hss y (hy y (by simp)))
        have h2 := ihy fun z hz => hy z (by simp [hz])
        rw [cntL, List.length_cons, Nat.add_mul]; omega
    have h3 := Nat.le_trans (key cs fun y h => h) (Nat.mul_le_mul_right _ hcs)
    have h4 : 1 ≤ (D + 1) ^ l := Nat.pow_pos (by omega)
    refine Nat.le_trans ?_ (Nat.pow_le_pow_right (by omega) h)
    rw [Nat.pow_succ, Nat.mul_add, Nat.mul_one, Nat.mul_comm _ D]
    show 1 + cntL cs ≤ _
    omega
theorem sz_mono {c : Int} {m : Mo} (hD : 1 ≤ D) (hm : ∀ i, i < 4 → m.at i < D) : ∀ i, i ≤ 4 → Sz D (monoP m (.mk 0 (ofI c) []) i)
  | 0, _ => by rw [monoP]; exact .const c
  | i + 1, hi => by
    have ih := sz_mono (c := c) hD hm i (by omega)
    have h1 := hm i (by omega)
    by_cases q : 0 < m.at i
    · rw [← monoP_yes q]
      refine .mk z0_ofI (by rw [List.length_set, List.length_replicate]; omega) fun x hx => ?_
      rcases List.mem_or_eq_of_mem_set hx with h | h
      · rw [(List.mem_replicate.1 h).2]; exact .p0
      · rw [h]; exact ih
    · rw [← monoP_no q]; exact ih
theorem nrm_mono {c : Int} {m : Mo} : ∀ i, nrm (monoP m (.mk 0 (ofI c) []) i) ≤ c.natAbs
  | 0 => by rw [monoP]; have := nrm_const c; exact Nat.le_of_eq this
  | i + 1 => by
    have ih := nrm_mono (c := c) (m := m) i
    by_cases q : 0 < m.at i
    · rw [← monoP_yes q, nrm]
      have h0 : (zval z0).natAbs = 0 := by rw [zval_z0]; rfl
      have h1 := nrmL_set (zs := List.replicate ((m.at i).toNat + 1) p0) (n := (m.at i).toNat) (z := monoP m (.mk 0 (ofI c) []) i) (by simp)
      rw [nrmL_rep] at h1
      omega
    · rw [← monoP_no q]; exact ih
theorem sz_of {L : List Tm} (hD : 1 ≤ D) (h : ∀ t ∈ L, ∀ i, i < 4 → t.exp.at i < D) : ∀ k, k ≤ L.length → Sz D (ofK L k)
  | 0, _ => .p0
  | k + 1, hk => by
    rw [ofK.eq_2]
    exact Sz.add hD 4 (sz_of hD h k (by omega)) (sz_mono hD (h _ (atT_mem (by omega))) 4 (by omega))
theorem nrm_ofK {L : List Tm} : ∀ k, k ≤ L.length → nrm (ofK L k) ≤ nrmT (L.take k)
  | 0, _ => by rw [show ofK L 0 = p0 from rfl, nrm_p0]; omega
  | k + 1, hk => by
    have e : L.take (k + 1) = L.take k ++ [atT L k] := by
      rw [List.take_succ_eq_append_getElem (by omega), atT, List.getD_eq_getElem?_getD, List.getElem?_eq_getElem (by omega)]; rfl
    have h1 := nrm_ofK (L := L) k (by omega)
    have h2 : nrm (termP (atT L k)) ≤ _ := nrm_mono 4
    have h3 := nrm_add 4 (ofK L k) (termP (atT L k))
    rw [ofK.eq_2, e, nrmT_append, nrmT_cons]; omega
theorem nrm_of (L : List Tm) : nrm (ofS L) ≤ nrmT L := by
  have := nrm_ofK (L := L) L.length (Nat.le_refl _)
  rwa [List.take_length] at this
theorem toS_exp {p : Pol} (h : Lev 4 p) (hs : Sz D p) (hD : 1 ≤ D) : ∀ t ∈ toS p, ∀ i, i < 4 → t.exp.at i < D := fun t ht => by
  obtain ⟨u, hu, e⟩ := mergeT_exp _ _ (Nat.le_refl _) t ht
  have hu' : u ∈ termsP p mo0 := (List.mem_filter.1 (sortT_mem u hu)).1
  rw [← e]
  exact terms_lt (Nat.le_refl _) h hs hD (fun i _ => by rw [mo0_at]; omega) u hu'
theorem sgnT_exp {L : List Tm} (h : ∀ t ∈ L, ∀ i, i < 4 → t.exp.at i < D) : ∀ t ∈ sgnT L, ∀ i, i < 4 → t.exp.at i < D := fun t ht => by
  obtain ⟨u, hu, rfl⟩ := List.mem_map.1 ht
  exact h u hu
theorem sz_msign {p : Pol} (hs : Sz D (normN p)) (hD : 1 ≤ D) : Sz D (msign p) :=
  sz_of hD (sgnT_exp (toS_exp (lev_norm p) hs hD)) _ (Nat.le_refl _)
theorem nrm_msign {p : Pol} (h : normN p ≠ p0) : nrm (msign p) ≤ nrm p := by
  have hn : toS (normN p) ≠ [] := fun e => h ((toS_nil (can_norm p)).1 e)
  exact Nat.le_trans (nrm_of _) (Nat.le_trans (sgnT_nrm (lcT_ne (toS_can _) hn)) (Nat.le_trans (toS_nrm _) (nrm_norm p)))
end rec
end Go.Rt
