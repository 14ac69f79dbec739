/- Plain mathematics: from recursive form to terms and back; sign normal forms; values. Conditions: none. -/
import Derived.Test.YtkpmcldbcljkfaaPlE
set_option linter.unusedVariables false
set_option linter.unusedSimpArgs false
namespace Go.Rt
open Go Go.RowKit

/-! ### Monomials and terms in recursive form -/
section mono
variable {f g : Mo → Int} {l : Int} {xs cs : List Pol} {p q : Pol} {m n : Mo} {i j k : Nat}
theorem VL_rep {X : Pol} : ∀ {k i : Nat} {e : Nat}, e < k → VL f l ((List.replicate k p0).set e X) i m = V f X (m.set (l - 1).toNat ((i + e : Nat) : Int))
  | k + 1, i, 0, h => by
    rw [List.replicate_succ, List.set_cons_zero, VL, VL_zero fun x hx => by rw [(List.mem_replicate.1 hx).2]; exact zeroP_p0]; simp
  | k + 1, i, e + 1, h => by
    rw [List.replicate_succ, List.set_cons_succ, VL, V_p0, VL_rep (by omega), show i + 1 + e = i + (e + 1) by omega]; simp
/-- The first i exponents of m, the others of n. -/
def comb (i : Nat) (m n : Mo) : Mo := ⟨if 0 < i then m.a else n.a, if 1 < i then m.b else n.b, if 2 < i then m.c else n.c, if 3 < i then m.d else n.d⟩
theorem comb_at {j : Nat} (hj : j < 4) : (comb i m n).at j = if j < i then m.at j else n.at j := by
  match j, hj with
  | 0, _ => rfl
  | 1, _ => rfl
  | 2, _ => rfl
  | 3, _ => rfl
theorem V_mono {c : Int} (hm : ∀ i, i < 4 → 0 ≤ m.at i) : ∀ (i : Nat) {n : Mo}, i ≤ 4 → Low i n → V f (monoP m (.mk 0 (ofI c) []) i) n = c * f (comb i m n)
  | 0, n, _, _ => by
    have : comb 0 m n = n := Mo.ext4 fun j hj => by rw [comb_at hj, if_neg (by omega)]
    rw [monoP, this]; exact V_const c
  | i + 1, n, hi, hn => by
    have h0 := hm i (by omega)
    have hni := hn i (by omega)
    by_cases q : 0 < m.at i
    · have e : (((i : Int) + 1) - 1).toNat = i := by omega
      rw [← monoP_yes q, V_eq, if_neg (by simp only [Pol.lv]; omega)]
      simp only [Pol.lv, Pol.cs]
      rw [VL_rep (e := (m.at i).toNat) (by omega), e, V_mono hm i (by omega) ((hn.mono (by omega)).set (Nat.le_refl i) (by omega))]
      congr 2
      refine Mo.ext4 fun j hj => ?_
      rw [comb_at hj, comb_at hj]
      by_cases q1 : j < i
      · rw [if_pos q1, if_pos (by omega)]
      · rw [if_neg q1]
        by_cases q2 : j = i
        · subst q2; rw [if_pos (by omega), Mo.at_set_self]; omega
        · rw [if_neg (by omega), Mo.at_set_ne' q2 hj (by omega)]
    · rw [← monoP_no q, V_mono hm i (by omega) (hn.mono (by omega))]
      congr 2
      refine Mo.ext4 fun j hj => ?_
      rw [comb_at hj, comb_at hj]
      by_cases q1 : j < i
      · rw [if_pos q1, if_pos (by omega)]
      · rw [if_neg q1]
        by_cases q2 : j = i
        · subst q2; rw [if_pos (by omega)]; omega
        · rw [if_neg (by omega)]
theorem can_set {l : Nat} {X : Pol} {k e : Nat} (hX : CanP l X) : ∀ q ∈ (List.replicate k p0).set e X, CanP l q := fun q hq => by
  rcases List.mem_or_eq_of_mem_set hq with h | h
  · rw [(List.mem_replicate.1 h).2]; exact can_p0
  · rw [h]; exact hX
theorem trim_set {X : Pol} (hX : zeroP X = false) (e : Nat) : trimP ((List.replicate (e + 1) p0).set e X) = (List.replicate (e + 1) p0).set e X := by
  have : (List.replicate (e + 1) p0).set e X = List.replicate e p0 ++ [X] := by
    rw [List.replicate_succ', List.set_append, if_neg (by simp), List.length_replicate, Nat.sub_self]; rfl
  rw [this]; exact trimB_pos _ hX
theorem can_mono {c : Int} (hc : c ≠ 0) : ∀ i, CanP i (monoP m (.mk 0 (ofI c) []) i) ∧ zeroP (monoP m (.mk 0 (ofI c) []) i) = false
  | 0 => ⟨by rw [monoP]; exact .const c, by rw [monoP]; simp [zeroP, Pol.lv, Pol.c, zval_ofI, hc]⟩
  | i + 1 => by
    obtain ⟨h1, h2⟩ := can_mono hc i
    by_cases q : 0 < m.at i
    · rw [← monoP_yes q]
      have e : ((i : Int) + 1) = ((i + 1 : Nat) : Int) := by omega
      rw [e]
      refine ⟨.node (Nat.le_refl _) (by rw [List.length_set, List.length_replicate]; omega) (can_set h1) (trim_set h2 _), ?_⟩
      show (decide (((i + 1 : Nat) : Int) = 0) && _) = false
      rw [decide_eq_false (show ¬ ((i + 1 : Nat) : Int) = 0 by omega)]; rfl
    · rw [← monoP_no q]; exact ⟨h1.mono (by omega), h2⟩
end mono

/-! ### There and back -/
theorem okT_iff' {t : Tm} : okT t = true ↔ ∀ i, i < 4 → 0 ≤ t.exp.at i := by
  obtain ⟨c, a, b, d, e⟩ := t
  rw [okT, decide_eq_true_iff]
  show 0 ≤ min (min (min a b) d) e ↔ _
  constructor
  · intro h i hi
    match i, hi with
    | 0, _ => show 0 ≤ a; omega
    | 1, _ => show 0 ≤ b; omega
    | 2, _ => show 0 ≤ d; omega
    | 3, _ => show 0 ≤ e; omega
  · intro h
    have h0 : 0 ≤ a := h 0 (by decide)
    have h1 : 0 ≤ b := h 1 (by decide)
    have h2 : 0 ≤ d := h 2 (by decide)
    have h3 : 0 ≤ e := h 3 (by decide)
    omega
section back
variable {f : Mo → Int} {L ts : List Tm} {p q : Pol} {k : Nat}
theorem V_term {t : Tm} (h : okT t = true) : V f (termP t) mo0 = zval t.coef * f t.exp := by
  have h' := okT_iff'.1 h
  rw [termP, V_mono h' 4 (Nat.le_refl _) (low_mo0 4)]
  congr 2
theorem can_term {t : Tm} (h : zval t.coef ≠ 0) : CanP 4 (termP t) := (can_mono h 4).1
theorem can_ofK (h : ∀ t ∈ L, zval t.coef ≠ 0) : ∀ k, k ≤ L.length → CanP 4 (ofK L k)
  | 0, _ => can_p0
  | k + 1, hk => by
    rw [ofK.eq_2]
    exact CanP.add 4 4 (Nat.le_refl _) (can_ofK h k (by omega)) (can_term (h _ (atT_mem (by omega))))
theorem V_ofK (h : ∀ t ∈ L, okT t = true) : ∀ k, k ≤ L.length → V f (ofK L k) mo0 = S f (L.take k)
  | 0, _ => V_p0
  | k + 1, hk => by
    have e : L.take (k + 1) = L.take k ++ [atT L k] := by
      rw [List.take_succ_eq_append_getElem (by omega), atT, List.getD_eq_getElem?_getD, List.getElem?_eq_getElem (by omega)]; rfl
    rw [ofK.eq_2, V_add 4 4 (Nat.le_refl _) (Nat.le_refl _) (ofK_lev L k) (termP_lev _) (low_mo0 4), V_ofK h k (by omega), V_term (h _ (atT_mem (by omega))), e, S_append]
    simp [S]
theorem can_of (h : CanT L) : CanP 4 (ofS L) := can_ofK h.ne _ (Nat.le_refl _)
theorem V_of (h : CanT L) : V f (ofS L) mo0 = S f L := by rw [ofS, V_ofK h.ok _ (Nat.le_refl _), List.take_length]
theorem terms_ok : ∀ {k : Nat} {p : Pol} {m : Mo}, k ≤ 4 → Lev k p → (∀ i, i < 4 → 0 ≤ m.at i) → ∀ t ∈ termsP p m, ∀ i, i < 4 → 0 ≤ t.exp.at i := by
  intro k p
  induction p using Pol.ind generalizing k
  rename_i p ih
  intro m h4 lp hm t ht
  rw [termsP_eq] at ht
  split at ht
  · simp at ht; rw [ht]; exact hm
  · rename_i h
    obtain ⟨j, hj, h2⟩ := List.mem_flatMap.1 ht
    have hj' := List.mem_range.1 hj
    cases lp with
    | zero => exact absurd rfl h
    | @succ _ l c cs hk hc hs =>
      refine ih _ (atP_mem hj') (by omega) (hs _ (atP_mem hj')) (fun i hi => ?_) t h2
      have e : (((l + 1 : Nat) : Int) - 1).toNat = l := by omega
      show 0 ≤ (m.set (((l + 1 : Nat) : Int) - 1).toNat _).at i
      rw [e]
      by_cases q : i = l
      · subst q; rw [Mo.at_set_self]; omega
      · rw [Mo.at_set_ne' q hi (by omega)]; exact hm i hi
/-- The sparse form of a canonical polynomial. -/
def toS (p : Pol) : List Tm := normS (termsP p mo0)
theorem mo0_at (i : Nat) : mo0.at i = 0 := low_mo0 (i + 1) i (by omega)
theorem terms_keep (h : Lev 4 p) : keepT (termsP p mo0) = termsP p mo0 := keepT_id fun t ht => okT_iff'.2 (terms_ok (Nat.le_refl _) h (fun i _ => by rw [mo0_at]; omega) t ht)
theorem toS_can (p : Pol) : CanT (toS p) := normS_can _
theorem toS_S (h : Lev 4 p) : S f (toS p) = V f p mo0 := by rw [toS, normS_S, terms_keep h, V]
theorem toS_of (h : CanT L) : toS (ofS L) = L := can_uniq (toS_can _) h fun m => by rw [toS_S (can_of h).lev, V_of h]
theorem of_toS (h : CanP 4 p) : ofS (toS p) = p := can_uniqP 4 (m := mo0) (Nat.le_refl _) (can_of (toS_can p)) h (low_mo0 4) fun f => by rw [V_of (toS_can p), toS_S h.lev]
theorem toS_nil (h : CanP 4 p) : toS p = [] ↔ p = p0 := by
  constructor
  · intro e; rw [← of_toS h, e]; rfl
  · intro e; subst e
    have : CanT [] := ⟨.nil, by simp, by simp, by simp⟩
    have := toS_of this
    exact this
end back

/-! ### Contents and signs -/
section signs
variable {f : Mo → Int} {L ts : List Tm} {d : Int}
theorem gcdF_dvd : ∀ (L : List Tm) (a : Int), d ∣ L.foldl (fun g t => (Int.gcd g (zval t.coef) : Int)) a ↔ d ∣ a ∧ ∀ t ∈ L, d ∣ zval t.coef
  | [], a => by simp
  | t :: L, a => by
    rw [List.foldl_cons, gcdF_dvd L]
    constructor
    · rintro ⟨h1, h2⟩
      exact ⟨Int.dvd_trans h1 (Int.gcd_dvd_left ..), fun u hu => by
        rcases List.mem_cons.1 hu with q | q
        · rw [q]; exact Int.dvd_trans h1 (Int.gcd_dvd_right ..)
        · exact h2 u q⟩
    · rintro ⟨h1, h2⟩
      exact ⟨Int.dvd_coe_gcd h1 (h2 t (by simp)), fun u hu => h2 u (by simp [hu])⟩
theorem gcdT_dvd : d ∣ gcdT L ↔ ∀ t ∈ L, d ∣ zval t.coef := by rw [gcdT, gcdF_dvd]; simp
theorem gcdF_nonneg : ∀ (L : List Tm) (a : Int), 0 ≤ a → 0 ≤ L.foldl (fun g t => (Int.gcd g (zval t.coef) : Int)) a
  | [], a, h => h
  | t :: L, a, h => gcdF_nonneg L _ (Int.natCast_nonneg _)
theorem gcdT_nonneg : 0 ≤ gcdT L := gcdF_nonneg L 0 (by omega)
/-- The number by which a sign normal form is smaller. -/
def lcT (L : List Tm) : Int := if zval (atT L 0).coef < 0 then - gcdT L else gcdT L
def sgnT (L : List Tm) : List Tm := L.map (divT (lcT L))
theorem lcT_dvd : ∀ t ∈ L, lcT L ∣ zval t.coef := fun t ht => by
  have h := gcdT_dvd.1 (Int.dvd_refl (gcdT L)) t ht
  unfold lcT; split
  · exact Int.neg_dvd.2 h
  · exact h
theorem gcdT_ne (h : CanT L) (hn : L ≠ []) : gcdT L ≠ 0 := fun e => by
  cases L with
  | nil => exact hn rfl
  | cons t L =>
    have := gcdT_dvd.1 (Int.dvd_refl (gcdT (t :: L))) t (by simp)
    rw [e] at this
    exact h.ne t (by simp) (Int.zero_dvd.1 this)
theorem lcT_ne (h : CanT L) (hn : L ≠ []) : lcT L ≠ 0 := by
  have := gcdT_ne h hn
  unfold lcT; split <;> omega
theorem sgn_coef {t : Tm} (ht : t ∈ L) : zval (divT (lcT L) t).coef * lcT L = zval t.coef := by
  show zval (ofI _) * _ = _
  rw [zval_ofI]; exact Int.ediv_mul_cancel (lcT_dvd t ht)
theorem S_map {h : Tm → Tm} {c : Int} : ∀ {L : List Tm}, (∀ t ∈ L, (h t).exp = t.exp ∧ zval (h t).coef * c = zval t.coef) → S f (L.map h) * c = S f L
  | [], _ => by simp [S]
  | t :: L, hh => by
    obtain ⟨h1, h2⟩ := hh t (by simp)
    rw [List.map_cons, S, S, h1, Int.add_mul, S_map fun u hu => hh u (by simp [hu]), ← h2, Int.mul_right_comm]
theorem S_sgn : S f (sgnT L) * lcT L = S f L := S_map fun t ht => ⟨rfl, sgn_coef ht⟩
theorem sgnT_can (h : CanT L) : CanT (sgnT L) where
  srt := by
    unfold sgnT; rw [List.pairwise_map]; exact h.srt
  ofI t ht := by
    obtain ⟨u, hu, rfl⟩ := List.mem_map.1 ht
    show ofI _ = ofI (zval (ofI _)); rw [zval_ofI]
  ne t ht := by
    obtain ⟨u, hu, rfl⟩ := List.mem_map.1 ht
    intro e
    have := sgn_coef hu
    rw [e, Int.zero_mul] at this
    exact h.ne u hu this.symm
  ok t ht := by
    obtain ⟨u, hu, rfl⟩ := List.mem_map.1 ht
    exact h.ok u hu
theorem gcdT_sgn (h : CanT L) (hn : L ≠ []) : gcdT (sgnT L) = 1 := by
  have h0 := lcT_ne h hn
  have h1 : gcdT (sgnT L) * lcT L ∣ gcdT L := gcdT_dvd.2 fun t ht => by
    rw [← sgn_coef ht]
    exact Int.mul_dvd_mul_right _ (gcdT_dvd.1 (Int.dvd_refl _) _ (List.mem_map_of_mem ht))
  have h2 : gcdT (sgnT L) * lcT L ∣ lcT L := by
    unfold lcT at *; split
    · rename_i q; rw [if_pos q] at h1; exact Int.dvd_neg.2 h1
    · rename_i q; rw [if_neg q] at h1; exact h1
  obtain ⟨c, hc⟩ := h2
  have h3 : lcT L * 1 = lcT L * (gcdT (sgnT L) * c) := by rw [Int.mul_one, ← Int.mul_assoc, Int.mul_comm (lcT L) (gcdT (sgnT L))]; exact hc
  have h4 : gcdT (sgnT L) ∣ 1 := ⟨c, Int.eq_of_mul_eq_mul_left h0 h3⟩
  have h5 := Int.le_of_dvd (by decide) h4
  have h6 := gcdT_nonneg (L := sgnT L)
  have h7 : gcdT (sgnT L) ≠ 0 := fun e => by rw [e] at h4; exact absurd (Int.zero_dvd.1 h4) (by decide)
  omega
theorem atT_map {h : Tm → Tm} {t : Tm} : atT ((t :: L).map h) 0 = h t := rfl
theorem head_pos (h : CanT L) (hn : L ≠ []) : 0 < zval (atT (sgnT L) 0).coef := by
  cases L with
  | nil => exact absurd rfl hn
  | cons t L =>
    have h1 := sgn_coef (L := t :: L) (t := t) (by simp)
    have h2 : atT (sgnT (t :: L)) 0 = divT (lcT (t :: L)) t := rfl
    rw [h2]
    have h3 := gcdT_nonneg (L := t :: L)
    have h4 := gcdT_ne h hn
    have h5 := h.ne t (by simp)
    have e : zval (atT (t :: L) 0).coef = zval t.coef := rfl
    have hl : lcT (t :: L) = if zval t.coef < 0 then - gcdT (t :: L) else gcdT (t :: L) := by rw [lcT, e]
    rcases Int.lt_trichotomy (zval (divT (lcT (t :: L)) t).coef) 0 with q | q | q
    · exfalso
      split at hl
      · have := Int.mul_pos_of_neg_of_neg q (show lcT (t :: L) < 0 by omega); omega
      · have := Int.mul_neg_of_neg_of_pos q (show 0 < lcT (t :: L) by omega); omega
    · rw [q] at h1; omega
    · exact q
theorem lcT_sgn (h : CanT L) (hn : L ≠ []) : lcT (sgnT L) = 1 := by
  have := head_pos h hn
  rw [lcT, if_neg (by omega), gcdT_sgn h hn]
theorem sgnT_sgnT (h : CanT L) (hn : L ≠ []) : sgnT (sgnT L) = sgnT L := by
  have e : ∀ t ∈ sgnT L, divT 1 t = t := fun t ht => by
    have h1 := (sgnT_can h).ofI t ht
    obtain ⟨c, m⟩ := t
    have h1' : c = ofI (zval c) := h1
    show Tm.mk (ofI (zval c / 1)) m = _
    rw [Int.ediv_one, ← h1']
  rw [sgnT, lcT_sgn h hn]
  conv => rhs; rw [← List.map_id (sgnT L)]
  exact List.map_congr_left e
theorem signO_lc (ts : List Tm) : signO ts = lcT (normS ts) := by
  rw [signO, contS, normS_id (normS_can ts), lcT]
theorem sgnT_nil (hn : L ≠ []) : sgnT L ≠ [] := fun e => hn (List.map_eq_nil_iff.1 e)
end signs

/-- The sign normal form. -/
def msign (p : Pol) : Pol := ofS (sgnT (toS (normN p)))
theorem msign_can (p : Pol) : CanP 4 (msign p) := can_of (sgnT_can (toS_can _))
theorem msign_msign {p : Pol} (h : normN p ≠ p0) : msign (msign p) = msign p := by
  have hn : toS (normN p) ≠ [] := fun e => h ((toS_nil (can_norm p)).1 e)
  rw [msign, norm_can (msign_can p), msign, toS_of (sgnT_can (toS_can _)), sgnT_sgnT (toS_can _) hn]
theorem V_msign (f : Mo → Int) (p : Pol) : V f (msign p) mo0 * lcT (toS (normN p)) = V f (normN p) mo0 := by
  rw [msign, V_of (sgnT_can (toS_can _)), S_sgn, toS_S (can_norm p).lev]
theorem const_of {p : Pol} (h : CanP 4 p) (hl : ¬ 0 < p.lv) : ∃ n, p = constP n := by
  cases h with
  | const n => exact ⟨n, rfl⟩
  | node h h2 hs ht => simp only [Pol.lv] at hl; omega
theorem msign_lv {p : Pol} (h : 0 < (normN p).lv) : 0 < (msign p).lv := by
  rcases Int.lt_or_le 0 (msign p).lv with q | q
  · exact q
  · exfalso
    obtain ⟨n, hn⟩ := const_of (msign_can p) (by omega)
    have e : normN p = constP (n * lcT (toS (normN p))) := can_uniqP 4 (m := mo0) (Nat.le_refl _) (can_norm p) (.const _) (low_mo0 4) fun f => by
      rw [← V_msign, hn, V_const, V_const, Int.mul_right_comm]
    rw [e] at h
    exact absurd h (by simp only [constP, Pol.lv]; omega)

/-! ### Values -/
def powI (x : Int) (e : Int) : Int := x ^ e.toNat
def ev (x : Mo) (m : Mo) : Int := powI x.a m.a * powI x.b m.b * powI x.c m.c * powI x.d m.d
mutual
def valP (x : Mo) : Pol → Int
  | .mk l c cs => if l ≤ 0 then zval c else if 4 < l then 0 else valL x (x.at (l - 1).toNat) cs
def valL (x : Mo) (y : Int) : List Pol → Int
  | [] => 0
  | p :: ps => valL x y ps * y + valP x p
end
theorem valP_eq (x : Mo) (p : Pol) : valP x p = if p.lv ≤ 0 then zval p.c else if 4 < p.lv then 0 else valL x (x.at (p.lv - 1).toNat) p.cs := by
  cases p; rw [valP]; rfl
theorem ev_set {x m : Mo} {j : Nat} {e : Nat} (hj : j < 4) (h : m.at j = 0) : ev x (m.set j e) = (x.at j) ^ e * ev x m := by
  have p0' : ∀ y : Int, powI y 0 = 1 := fun y => by simp [powI]
  have pn : ∀ y : Int, powI y (e : Int) = y ^ e := fun y => by simp [powI]
  match j, hj with
  | 0, _ => have h' : m.a = 0 := h; simp only [ev, Mo.set, Mo.at, h', p0', pn]; grind
  | 1, _ => have h' : m.b = 0 := h; simp only [ev, Mo.set, Mo.at, h', p0', pn]; grind
  | 2, _ => have h' : m.c = 0 := h; simp only [ev, Mo.set, Mo.at, h', p0', pn]; grind
  | 3, _ => have h' : m.d = 0 := h; simp only [ev, Mo.set, Mo.at, h', p0', pn]; grind
theorem V_ev {x : Mo} : ∀ {k : Nat} {p : Pol} {m : Mo}, k ≤ 4 → Lev k p → Low k m → V (ev x) p m = valP x p * ev x m := by
  intro k p
  induction p using Pol.ind generalizing k
  rename_i p ih
  intro m h4 lp hm
  rw [V_eq, valP_eq]
  split
  · rename_i h; rw [if_pos (by omega)]
  · rename_i h
    cases lp with
    | zero => exact absurd rfl h
    | @succ _ l c cs hk hc hs =>
      have h1 : ¬ (Pol.mk ((l + 1 : Nat) : Int) c cs).lv ≤ 0 := by simp only [Pol.lv]; omega
      have h2 : ¬ 4 < (Pol.mk ((l + 1 : Nat) : Int) c cs).lv := by simp only [Pol.lv]; omega
      rw [if_neg h1, if_neg h2]
      simp only [Pol.lv, Pol.cs] at ih ⊢
      have e : (((l + 1 : Nat) : Int) - 1).toNat = l := by omega
      rw [e]
      have key : ∀ {ys : List Pol} {i : Nat}, (∀ y ∈ ys, y ∈ cs) → VL (ev x) ((l + 1 : Nat) : Int) ys i m = valL x (x.at l) ys * (x.at l) ^ i * ev x m := fun {ys} => by
        induction ys with
        | nil => intro i _; simp [VL, valL]
        | cons y ys ihy =>
          intro i hy
          have hyc := hy y (by simp)
          rw [VL, e, ih y hyc (by omega) (hs y hyc) ((hm.mono (by omega)).set (Nat.le_refl l) (by omega)), ev_set (by omega) (hm l (by omega)), ihy fun z hz => hy z (by simp [hz]), valL, Int.pow_succ]
          grind
      rw [key fun y hy => hy, Int.pow_zero, Int.mul_one]
theorem ev_mo0 (x : Mo) : ev x mo0 = 1 := by
  have p0' : ∀ y : Int, powI y 0 = 1 := fun y => by simp [powI]
  simp [ev, mo0, p0']
theorem val_V {x : Mo} {p : Pol} (h : Lev 4 p) : valP x p = V (ev x) p mo0 := by rw [V_ev (Nat.le_refl _) h (low_mo0 4), ev_mo0, Int.mul_one]
theorem val_msign (x : Mo) (p : Pol) : valP x (msign p) * lcT (toS (normN p)) = valP x (normN p) := by
  rw [val_V (msign_can p).lev, val_V (can_norm p).lev, V_msign]
end Go.Rt
