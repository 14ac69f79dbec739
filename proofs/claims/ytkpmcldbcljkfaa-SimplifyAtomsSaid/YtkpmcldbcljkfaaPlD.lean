/- Plain mathematics: canonical lists of terms. Conditions: none. -/
import Derived.Test.YtkpmcldbcljkfaaPlC
set_option linter.unusedVariables false
set_option linter.unusedSimpArgs false
namespace Go.Rt
open Go Go.RowKit

/-- The sum of the coefficients, each times the weight of its monomial. -/
def S (f : Mo → Int) : List Tm → Int
  | [] => 0
  | t :: ts => zval t.coef * f t.exp + S f ts
section sums
variable {f g : Mo → Int} {xs ys ts : List Tm} {m : Mo}
theorem S_append : S f (xs ++ ys) = S f xs + S f ys := by
  induction xs with
  | nil => simp [S]
  | cons x xs ih => simp only [List.cons_append, S, ih]; omega
theorem S_perm (h : xs.Perm ys) : S f xs = S f ys := by
  induction h with
  | nil => rfl
  | cons x _ ih => simp only [S, ih]
  | swap x y l => simp only [S]; omega
  | trans _ _ h1 h2 => rw [h1, h2]
theorem S_zero (h : ∀ t ∈ xs, f t.exp = 0) : S f xs = 0 := by
  induction xs with
  | nil => rfl
  | cons x xs ih => rw [S, h x (by simp), ih fun t ht => h t (by simp [ht])]; simp
theorem S_congr (h : ∀ t ∈ xs, f t.exp = g t.exp) : S f xs = S g xs := by
  induction xs with
  | nil => rfl
  | cons x xs ih => rw [S, S, h x (by simp), ih fun t ht => h t (by simp [ht])]
theorem S_mul (c : Int) : S (fun m => c * f m) xs = c * S f xs := by
  induction xs with
  | nil => simp [S]
  | cons x xs ih => rw [S, S, ih, Int.mul_add, Int.mul_left_comm]
theorem sumRun_S (m : Mo) : ∀ (c : Int) (ts : List Tm), (sumRun m c ts).1 * f m + S f (sumRun m c ts).2 = c * f m + S f ts
  | c, [] => rfl
  | c, t :: ts => by
    rw [sumRun]; split
    · rename_i h; rw [sumRun_S m _ ts, S, h, Int.add_mul]; omega
    · rfl
theorem mergeT_S : ∀ (n : Nat) (ts : List Tm), ts.length ≤ n → S f (mergeT ts) = S f ts
  | 0, ts, h => by rw [List.eq_nil_of_length_eq_zero (Nat.le_zero.1 h), mergeT]
  | n + 1, [], h => by rw [mergeT]
  | n + 1, t :: ts, h => by
    have h1 := sumRun_S (f := f) t.exp (zval t.coef) ts
    have h2 := mergeT_S n (sumRun t.exp (zval t.coef) ts).2 (Nat.le_trans (sumRun_len ..) (by simpa using h))
    rw [mergeT, S_append, h2, S]
    split
    · rename_i q; rw [q] at h1; simp [S] at h1 ⊢; omega
    · simp only [S, zval_ofI]; omega
end sums

/-! ### Canonical lists -/
structure CanT (ts : List Tm) : Prop where
  srt : ts.Pairwise fun x y => ltM y.exp x.exp
  ofI : ∀ t ∈ ts, t.coef = ofI (zval t.coef)
  ne : ∀ t ∈ ts, zval t.coef ≠ 0
  ok : ∀ t ∈ ts, okT t = true
theorem sumRun_sub (m : Mo) : ∀ (c : Int) (ts : List Tm), ∃ k, (sumRun m c ts).2 = ts.drop k
  | c, [] => ⟨0, rfl⟩
  | c, t :: ts => by
    rw [sumRun]; split
    · obtain ⟨k, h⟩ := sumRun_sub m (c + zval t.coef) ts; exact ⟨k + 1, h⟩
    · exact ⟨0, rfl⟩
theorem sumRun_ne {m : Mo} : ∀ {c : Int} {ts : List Tm} {t : Tm} {r : List Tm}, (sumRun m c ts).2 = t :: r → t.exp ≠ m
  | c, [], t, r, h => by simp [sumRun] at h
  | c, u :: ts, t, r, h => by
    rw [sumRun] at h; split at h
    · exact sumRun_ne h
    · rename_i q; injection h with h1 h2; rw [← h1]; exact q
theorem mergeT_exp : ∀ (n : Nat) (ts : List Tm), ts.length ≤ n → ∀ t ∈ mergeT ts, ∃ u ∈ ts, u.exp = t.exp
  | 0, ts, h, t, ht => by rw [List.eq_nil_of_length_eq_zero (Nat.le_zero.1 h), mergeT] at ht; cases ht
  | n + 1, [], h, t, ht => by rw [mergeT] at ht; cases ht
  | n + 1, u :: ts, h, t, ht => by
    rw [mergeT] at ht
    rcases List.mem_append.1 ht with q | q
    · refine ⟨u, by simp, ?_⟩
      split at q
      · cases q
      · simp at q; rw [q]
    · obtain ⟨v, hv, e⟩ := mergeT_exp n (sumRun u.exp (zval u.coef) ts).2 (Nat.le_trans (sumRun_len ..) (by simpa using h)) t q
      obtain ⟨k, hk⟩ := sumRun_sub u.exp (zval u.coef) ts
      rw [hk] at hv
      exact ⟨v, List.mem_cons_of_mem _ (List.mem_of_mem_drop hv), e⟩
theorem leT_exp {x y : Tm} : leT x y ↔ ¬ ltM x.exp y.exp := by unfold leT; rw [ltT_iff]
theorem ltM_of_le_ne {m n : Mo} (h : ¬ ltM m n) (hn : m ≠ n) : ltM n m := by
  obtain ⟨a, b, c, d⟩ := m; obtain ⟨a', b', c', d'⟩ := n
  simp only [ltM, ne_eq, Mo.mk.injEq] at *; omega
theorem mergeT_sort : ∀ (n : Nat) (ts : List Tm), ts.length ≤ n → SortT ts → (mergeT ts).Pairwise fun x y => ltM y.exp x.exp
  | 0, ts, h, hs => by rw [List.eq_nil_of_length_eq_zero (Nat.le_zero.1 h), mergeT]; exact .nil
  | n + 1, [], h, hs => by rw [mergeT]; exact .nil
  | n + 1, t :: ts, h, hs => by
    have hs' : SortT ts := (List.pairwise_cons.1 hs).2
    obtain ⟨k, hk⟩ := sumRun_sub t.exp (zval t.coef) ts
    have hd : SortT (sumRun t.exp (zval t.coef) ts).2 := by rw [hk]; exact hs'.drop
    have hl : (sumRun t.exp (zval t.coef) ts).2.length ≤ n := Nat.le_trans (sumRun_len ..) (by simpa using h)
    have ih := mergeT_sort n _ hl hd
    rw [mergeT]
    split
    · simpa using ih
    · rw [List.singleton_append, List.pairwise_cons]
      refine ⟨fun y hy => ?_, ih⟩
      obtain ⟨u, hu, e⟩ := mergeT_exp n _ hl y hy
      show ltM y.exp t.exp
      rw [← e]
      cases hr : (sumRun t.exp (zval t.coef) ts).2 with
      | nil => rw [hr] at hu; cases hu
      | cons v r =>
        have hv := sumRun_ne hr
        have hvt : v ∈ ts := by
          have : v ∈ ts.drop k := by rw [← hk, hr]; simp
          exact List.mem_of_mem_drop this
        have h1 : ltM v.exp t.exp := ltM_of_le_ne (leT_exp.1 (List.rel_of_pairwise_cons hs hvt)) (fun q => hv q.symm)
        rw [hr] at hu hd
        rcases List.mem_cons.1 hu with q | q
        · rw [q]; exact h1
        · have h2 := leT_exp.1 (List.rel_of_pairwise_cons hd q)
          unfold ltM at *; omega
theorem mergeT_ne : ∀ (n : Nat) (ts : List Tm), ts.length ≤ n → ∀ t ∈ mergeT ts, zval t.coef ≠ 0
  | 0, ts, h, t, ht => by rw [List.eq_nil_of_length_eq_zero (Nat.le_zero.1 h), mergeT] at ht; cases ht
  | n + 1, [], h, t, ht => by rw [mergeT] at ht; cases ht
  | n + 1, u :: ts, h, t, ht => by
    rw [mergeT] at ht
    rcases List.mem_append.1 ht with q | q
    · split at q
      · cases q
      · rename_i hne; simp at q; rw [q]; simpa [zval_ofI] using hne
    · exact mergeT_ne n _ (Nat.le_trans (sumRun_len ..) (by simpa using h)) t q
theorem okT_exp {t u : Tm} (h : t.exp = u.exp) : okT t = okT u := by unfold okT; rw [h]
theorem mergeT_can {ts : List Tm} (hs : SortT ts) (ho : ∀ t ∈ ts, okT t = true) : CanT (mergeT ts) :=
  ⟨mergeT_sort _ ts (Nat.le_refl _) hs, mergeT_ofI _ ts (Nat.le_refl _), mergeT_ne _ ts (Nat.le_refl _), fun t ht => by
    obtain ⟨u, hu, e⟩ := mergeT_exp _ ts (Nat.le_refl _) t ht
    rw [← okT_exp e]; exact ho u hu⟩

/-- The weight that is 1 at one monomial. -/
def ind (m : Mo) (n : Mo) : Int := if n = m then 1 else 0
theorem ind_self (m : Mo) : ind m m = 1 := if_pos rfl
theorem ind_ne {m n : Mo} (h : n ≠ m) : ind m n = 0 := if_neg h
theorem ltM_ne {m n : Mo} (h : ltM m n) : m ≠ n := by rintro rfl; unfold ltM at h; omega
theorem ltM_trans {l m n : Mo} (h : ltM l m) (h1 : ltM m n) : ltM l n := by unfold ltM at *; omega
theorem can_tail {x : Tm} {xs : List Tm} (h : CanT (x :: xs)) : CanT xs :=
  ⟨(List.pairwise_cons.1 h.srt).2, fun t q => h.ofI t (by simp [q]), fun t q => h.ne t (by simp [q]), fun t q => h.ok t (by simp [q])⟩
theorem can_head {x : Tm} {xs : List Tm} (h : CanT (x :: xs)) {m : Mo} (hm : m = x.exp ∨ ltM x.exp m) : S (ind m) xs = 0 :=
  S_zero fun t ht => ind_ne (ltM_ne (by
    have := List.rel_of_pairwise_cons h.srt ht
    rcases hm with rfl | q
    · exact this
    · exact ltM_trans this q))
theorem can_uniq : ∀ {xs ys : List Tm}, CanT xs → CanT ys → (∀ m, S (ind m) xs = S (ind m) ys) → xs = ys
  | [], [], _, _, _ => rfl
  | [], y :: ys, _, hy, h => by
    have := h y.exp
    rw [S, S, ind_self, can_head hy (.inl rfl)] at this
    exact absurd this.symm (by have := hy.ne y (by simp); omega)
  | x :: xs, [], hx, _, h => by
    have := h x.exp
    rw [S, S, ind_self, can_head hx (.inl rfl)] at this
    exact absurd this (by have := hx.ne x (by simp); omega)
  | x :: xs, y :: ys, hx, hy, h => by
    by_cases e : x.exp = y.exp
    · have h1 := h x.exp
      rw [S, S, ← e, ind_self, can_head hx (.inl rfl), can_head hy (.inl e)] at h1
      have h2 : x = y := by
        obtain ⟨c, m⟩ := x; obtain ⟨c', m'⟩ := y
        have q1 := hx.ofI ⟨c, m⟩ (by simp)
        have q2 := hy.ofI ⟨c', m'⟩ (by simp)
        have q3 : zval c = zval c' := by simpa using h1
        have q1' : c = ofI (zval c) := q1
        have q2' : c' = ofI (zval c') := q2
        have e' : m = m' := e
        rw [q1', q2', q3, e']
      subst h2
      congr 1
      refine can_uniq (can_tail hx) (can_tail hy) fun m => ?_
      have := h m
      rw [S, S] at this; omega
    · by_cases hl : ltM x.exp y.exp
      · have h1 := h y.exp
        rw [S, S, ind_self, ind_ne e, can_head hx (.inr hl), can_head hy (.inl rfl)] at h1
        exact absurd h1 (by have := hy.ne y (by simp); omega)
      · have hl' : ltM y.exp x.exp := ltM_of_le_ne hl e
        have h1 := h x.exp
        rw [S, S, ind_self, ind_ne (fun q => e q.symm), can_head hx (.inl rfl), can_head hy (.inr hl')] at h1
        exact absurd h1 (by have := hx.ne x (by simp); omega)

/-! ### The canonical form -/
theorem keepT_ok {ts : List Tm} : ∀ t ∈ keepT ts, okT t = true := fun t h => (List.mem_filter.1 h).2
theorem normS_can (ts : List Tm) : CanT (normS ts) :=
  mergeT_can (sortT_perm _).2 fun t h => keepT_ok t ((sortT_perm (keepT ts)).1.mem_iff.1 h)
theorem normS_S (f : Mo → Int) (ts : List Tm) : S f (normS ts) = S f (keepT ts) := by
  rw [normS, mergeT_S _ _ (Nat.le_refl _), S_perm (sortT_perm _).1]
theorem normS_st (ts : List Tm) : mergeT (stT (keepT ts)) = normS ts :=
  can_uniq (mergeT_can (stT_perm _).2 fun t h => keepT_ok t ((stT_perm (keepT ts)).1.mem_iff.1 h)) (normS_can ts) fun m => by
    rw [normS_S, mergeT_S _ _ (Nat.le_refl _), S_perm (stT_perm _).1]
theorem stT_mem {xs : List Tm} : ∀ t ∈ stT xs, t ∈ xs := fun t h => (stT_perm xs).1.mem_iff.1 h
theorem keepT_id {ts : List Tm} (h : ∀ t ∈ ts, okT t = true) : keepT ts = ts := List.filter_eq_self.2 h
theorem normS_uniq {ts xs : List Tm} (hx : CanT xs) (h : ∀ m, S (ind m) xs = S (ind m) (keepT ts)) : normS ts = xs :=
  can_uniq (normS_can ts) hx fun m => by rw [normS_S, h]
theorem normS_id {ts : List Tm} (h : CanT ts) : normS ts = ts := normS_uniq h fun m => by rw [keepT_id h.ok]
end Go.Rt
