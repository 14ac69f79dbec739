/- Plain mathematics: contents of lists of terms; lists of terms in recursive form. Conditions: none. -/
import Derived.Test.YtkpmcldbcljkfaaPlV
set_option linter.unusedVariables false
set_option linter.unusedSimpArgs false
namespace Go.Rt
open Go Go.RowKit

theorem mergeT_ofI : ∀ (n : Nat) (ts : List Tm), ts.length ≤ n → ∀ t ∈ mergeT ts, t.coef = ofI (zval t.coef)
  | _, [], _, t, h => by rw [mergeT] at h; cases h
  | 0, _ :: _, hn, _, _ => by simp at hn
  | n + 1, u :: ts, hn, t, h => by
    rw [mergeT] at h
    rcases List.mem_append.1 h with h | h
    · split at h
      · cases h
      · simp only [List.mem_singleton] at h
        subst h
        show ofI _ = ofI (zval (ofI _))
        rw [zval_ofI]
    · have hl := sumRun_len u.exp (zval u.coef) ts
      exact mergeT_ofI n _ (by simp at hn; omega) t h
theorem normS_ofI {ts : List Tm} {t : Tm} (h : t ∈ normS ts) : t.coef = ofI (zval t.coef) := mergeT_ofI _ _ (Nat.le_refl _) t h
theorem mergeT_len : ∀ (n : Nat) (ts : List Tm), ts.length ≤ n → (mergeT ts).length ≤ ts.length
  | _, [], _ => by rw [mergeT]; exact Nat.le_refl _
  | 0, _ :: _, hn => by simp at hn
  | n + 1, u :: ts, hn => by
    rw [mergeT, List.length_append]
    have hl := sumRun_len u.exp (zval u.coef) ts
    have h1 := mergeT_len n (sumRun u.exp (zval u.coef) ts).2 (by simp at hn; omega)
    have h2 : (if (sumRun u.exp (zval u.coef) ts).1 = 0 then [] else [(⟨ofI (sumRun u.exp (zval u.coef) ts).1, u.exp⟩ : Tm)]).length ≤ 1 := by split <;> simp
    simp only [List.length_cons]; omega
theorem normS_len (ts : List Tm) : (normS ts).length ≤ ts.length := by
  have h1 := mergeT_len _ (sortT (keepT ts)) (Nat.le_refl _)
  have h2 := sortT_len (keepT ts)
  have h3 := keepT_len ts
  unfold normS; omega
theorem coef_len {t : Tm} (h : t.coef = ofI (zval t.coef)) (hg : (zval t.coef).natAbs < 18446744073709551616) : t.coef.abs.length ≤ 2 := by
  rw [h]; exact dig_len_pow (k := 2) (by simpa [B32] using hg)

theorem gcdT_step {L : List Tm} {k : Nat} (h : k < L.length) : (Int.gcd (gcdT (L.take k)) (zval (atT L k).coef) : Int) = gcdT (L.take (k + 1)) := by
  have e : L.take (k + 1) = L.take k ++ [atT L k] := by
    rw [List.take_succ_eq_append_getElem h, atT, List.getD_eq_getElem?_getD, List.getElem?_eq_getElem h]; rfl
  rw [e]; unfold gcdT; rw [List.foldl_append]; rfl
theorem gcdT_lt {L : List Tm} {B : Nat} (h0 : 0 < B) (h : ∀ t ∈ L, (zval t.coef).natAbs < B) : ∀ k, k ≤ L.length → (gcdT (L.take k)).natAbs < B := by
  intro k
  induction k with
  | zero => intro _; simpa [gcdT] using h0
  | succ k ih =>
    intro hk
    have hk' : k < L.length := by omega
    rw [← gcdT_step hk']
    have h1 := ih (by omega)
    have h2 := h _ (atT_mem hk')
    simp only [Int.natAbs_natCast]
    rcases Nat.eq_zero_or_pos (gcdT (L.take k)).natAbs with q | q
    · have : Int.gcd (gcdT (L.take k)) (zval (atT L k).coef) = (zval (atT L k).coef).natAbs := by
        unfold Int.gcd; rw [q, Nat.gcd_zero_left]
      rw [this]; exact h2
    · exact Nat.lt_of_le_of_lt (Nat.le_of_dvd q (Int.gcd_dvd_natAbs_left _ _)) h1
theorem ofI_lt {n : Int} {B : Nat} (h : n.natAbs < B) : val (ofI n).abs < B := by show val (dig n.natAbs) < B; rw [val_dig]; exact h
theorem ofI_len2 {n : Int} (h : n.natAbs < 18446744073709551616) : (ofI n).abs.length ≤ 2 := dig_len_pow (k := 2) (by simpa [B32] using h)
theorem gcdT_len {L : List Tm} (h : ∀ t ∈ L, (zval t.coef).natAbs < 18446744073709551616) {k : Nat} (hk : k ≤ L.length) : (ofI (gcdT (L.take k))).abs.length ≤ 2 := ofI_len2 (gcdT_lt (by omega) h k hk)

/-! ### Recursive form -/
/-- The monomial's powers of the first i variables times t. -/
def monoP (m : Mo) (t : Pol) : Nat → Pol
  | 0 => t
  | i + 1 => if 0 < m.at i then .mk ((i : Int) + 1) z0 ((List.replicate ((m.at i).toNat + 1) p0).set (m.at i).toNat (monoP m t i)) else monoP m t i
theorem monoP_yes {m : Mo} {t : Pol} {i : Nat} (h : 0 < m.at i) : Pol.mk ((i : Int) + 1) z0 ((List.replicate ((m.at i).toNat + 1) p0).set (m.at i).toNat (monoP m t i)) = monoP m t (i + 1) := by rw [monoP.eq_2, if_pos h]
theorem monoP_no {m : Mo} {t : Pol} {i : Nat} (h : ¬ 0 < m.at i) : monoP m t i = monoP m t (i + 1) := by rw [monoP.eq_2, if_neg h]
def termP (t : Tm) : Pol := monoP t.exp (.mk 0 (ofI (zval t.coef)) []) 4
def ofK (L : List Tm) : Nat → Pol
  | 0 => p0
  | k + 1 => addF 4 (ofK L k) (termP (atT L k))
def ofS (L : List Tm) : Pol := ofK L L.length

theorem mem_set_rep {α : Type} {z x q : α} {n i : Nat} (h : q ∈ (List.replicate n z).set i x) : q = z ∨ q = x := by
  rcases List.mem_or_eq_of_mem_set h with h | h
  · exact .inl (List.mem_replicate.1 h).2
  · exact .inr h
theorem monoP_lev {m : Mo} {c : Z} : ∀ i, Lev i (monoP m (.mk 0 c []) i)
  | 0 => .zero
  | i + 1 => by
    unfold monoP
    split
    · have := @Lev.succ (i + 1) i z0 ((List.replicate ((m.at i).toNat + 1) p0).set (m.at i).toNat (monoP m (.mk 0 c []) i)) (Nat.le_refl _) (by simp) (fun q hq => by
        rcases mem_set_rep hq with rfl | rfl
        · exact .zero
        · exact monoP_lev i)
      simpa using this
    · exact (monoP_lev i).mono (Nat.le_succ _)
theorem monoP_fit {B : Nat} {m : Mo} {t : Pol} (hm : ∀ i, i < 4 → m.at i < 4294967296) (ht : Fit B t) : ∀ i, i ≤ 4 → Fit B (monoP m t i)
  | 0, _ => ht
  | i + 1, h => by
    unfold monoP
    have := hm i (by omega)
    split
    · exact .mk (fun d h => by cases h) (Nat.zero_le _) (by simp; omega) fun q hq => by
        rcases mem_set_rep hq with rfl | rfl
        · exact .mk (fun d h => by cases h) (Nat.zero_le _) (Nat.zero_le _) (fun q h => by cases h)
        · exact monoP_fit hm ht i (by omega)
    · exact monoP_fit hm ht i (by omega)

theorem Lev.lower {j l : Nat} {p : Pol} (h : Lev j p) (hl : p.lv ≤ l) : Lev l p := by
  cases h with
  | zero => exact .zero
  | succ h hc hs => simp only [Pol.lv] at hl; exact .succ (by omega) hc hs
theorem addF_lev : ∀ (k j : Nat) (p q : Pol), j ≤ k → Lev j p → Lev j q → Lev j (addF k p q)
  | 0, j, p, q, hj, _, _ => .zero
  | k + 1, j, p, q, hj, lp, lq => by
    unfold addF
    split
    · exact .zero
    · rename_i hne
      have h1 := lp.lv; have h2 := lq.lv
      obtain ⟨l, hl⟩ : ∃ l : Nat, max p.lv q.lv = ((l + 1 : Nat) : Int) := ⟨(max p.lv q.lv).toNat - 1, by omega⟩
      rw [hl]
      have c1 := (lp.lower (l := l + 1) (by omega)).coefs (l := ((l + 1 : Nat) : Int)) (by omega) (by omega) (by omega)
      have c2 := (lq.lower (l := l + 1) (by omega)).coefs (l := ((l + 1 : Nat) : Int)) (by omega) (by omega) (by omega)
      have hz : ∀ z ∈ zipP (addF k) (coefsP p ((l + 1 : Nat) : Int)) (coefsP q ((l + 1 : Nat) : Int)), Lev l z := zipP_all c1.2 c2.2 fun x hx y hy => addF_lev k l x y (by omega) (c1.2 x hx) (c2.2 y hy)
      exact joinP_cases .zero (fun q hq => (hz q hq).mono (by omega)) fun h2 => .succ (by omega) (by omega) fun q hq => hz q (trimB_sub hq)
theorem termP_lev (t : Tm) : Lev 4 (termP t) := monoP_lev 4
theorem termP_fit {B : Nat} {t : Tm} (hm : ∀ i, i < 4 → t.exp.at i < 4294967296) (hc : (ofI (zval t.coef)).abs.length ≤ B) : Fit B (termP t) :=
  monoP_fit hm (.mk (digs_dig _) hc (Nat.zero_le _) fun q h => by cases h) 4 (Nat.le_refl _)
theorem ofK_lev (L : List Tm) : ∀ k, Lev 4 (ofK L k)
  | 0 => .zero
  | k + 1 => addF_lev 4 4 _ _ (Nat.le_refl _) (ofK_lev L k) (termP_lev _)
theorem ofK_fit {B : Nat} {L : List Tm} (hm : ∀ t ∈ L, ∀ i, i < 4 → t.exp.at i < 4294967296) (hc : ∀ t ∈ L, (ofI (zval t.coef)).abs.length ≤ B) : ∀ k, k ≤ L.length → Fit (B + k) (ofK L k)
  | 0, _ => fit_p0
  | k + 1, h => addF_fit (ofK_lev L k) (termP_lev _) (ofK_fit hm hc k (by omega)) ((termP_fit (hm _ (atT_mem (by omega))) (hc _ (atT_mem (by omega)))).mono (Nat.le_add_right B k))

/-! ### Contents of numbers of at most B digits -/
theorem coefB {t : Tm} {B : Nat} (h : t.coef = ofI (zval t.coef)) (hz : t.coef.abs.length ≤ B) : (ofI (zval t.coef)).abs.length ≤ B := by rw [← h]; exact hz
theorem natAbs_lt {n : Int} {B : Nat} (h : (ofI n).abs.length ≤ B) : n.natAbs < B32 ^ B := by
  have h1 := lt_dig_len n.natAbs
  have h2 : (dig n.natAbs).length ≤ B := h
  exact Nat.lt_of_lt_of_le h1 (Nat.pow_le_pow_right (by decide) h2)
theorem gcdT_lenB {L : List Tm} {B : Nat} (ho : ∀ {t : Tm}, t ∈ L → t.coef = ofI (zval t.coef)) (hz : ∀ t ∈ L, t.coef.abs.length ≤ B) {k : Nat} (hk : k ≤ L.length) : (ofI (gcdT (L.take k))).abs.length ≤ B :=
  dig_len_pow (gcdT_lt (B := B32 ^ B) (Nat.pow_pos (by decide)) (fun t ht => natAbs_lt (coefB (ho ht) (hz t ht))) k hk)
theorem contB {ts : List Tm} {B : Nat} (hz : ∀ t ∈ normS ts, t.coef.abs.length ≤ B) : (ofI (contS ts)).abs.length ≤ B := by
  have := gcdT_lenB (L := normS ts) (B := B) (fun h => normS_ofI h) hz (k := (normS ts).length) (Nat.le_refl _)
  rw [List.take_length] at this; exact this
theorem signO_lenB {ts : List Tm} {g : Int} (h : g = signO ts) (hB : (ofI (contS (normS ts))).abs.length ≤ 100000000000) : (ofI g).abs.length ≤ 1000000000000 := by
  have e : (ofI g).abs = (ofI (contS (normS ts))).abs := by
    subst h; show dig (signO ts).natAbs = dig (contS (normS ts)).natAbs; rw [signO_abs]
  rw [e]; omega
theorem signO_valB {ts : List Tm} {g : Int} (h : g = signO ts) (hc : signO ts ≠ 0) : 0 < val (ofI g).abs := by
  subst h; show 0 < val (dig (signO ts).natAbs); rw [val_dig]; omega
end Go.Rt
