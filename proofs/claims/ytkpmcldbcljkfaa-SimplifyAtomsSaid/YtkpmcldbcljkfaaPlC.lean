/- Plain mathematics: the stable sort sorts. Conditions: none. -/
import Derived.Test.YtkpmcldbcljkfaaPlR
set_option linter.unusedVariables false
set_option linter.unusedSimpArgs false
namespace Go.Rt
open Go Go.RowKit

/-! ### The order -/
def ltM (m n : Mo) : Prop := m.d < n.d ∨ (m.d = n.d ∧ (m.c < n.c ∨ (m.c = n.c ∧ (m.b < n.b ∨ (m.b = n.b ∧ m.a < n.a)))))
theorem cmpMo_lt (m n : Mo) : cmpMo m n < 0 ↔ ltM m n := by
  simp only [cmpMo, cmpTo, Mo.at, ltM]
  split
  · omega
  · split
    · omega
    · split
      · omega
      · split
        · omega
        · split
          · omega
          · split
            · omega
            · split
              · omega
              · split <;> omega
abbrev ltT (x y : Tm) : Prop := cmpT x y < 0
/-- x may stand ahead of y. -/
def leT (x y : Tm) : Prop := ¬ cmpT y x < 0
theorem ltT_iff (x y : Tm) : cmpT x y < 0 ↔ ltM y.exp x.exp := cmpMo_lt _ _
theorem leT_of_lt {x y : Tm} (h : cmpT x y < 0) : leT x y := by
  unfold leT; rw [ltT_iff] at h ⊢; unfold ltM at *; omega
theorem leT_trans {x y z : Tm} (h : leT x y) (h1 : leT y z) : leT x z := by
  unfold leT at *; rw [ltT_iff] at h h1 ⊢; unfold ltM at *; omega
abbrev SortT (xs : List Tm) : Prop := xs.Pairwise leT

section lists
variable {A B C D U V W P Q R xs : List Tm} {x y : Tm} {i j n : Nat}
theorem atT_cut (h : xs = A ++ x :: B) (hi : i = A.length) : atT xs i = x := by
  subst h; subst hi; simp [atT, List.getD_eq_getElem?_getD]
theorem set_cut (h : xs = A ++ x :: B) (hi : i = A.length) : xs.set i y = A ++ y :: B := by
  subst h; subst hi; simp
theorem swp_cut (h : xs = P ++ x :: (Q ++ y :: R)) (hi : i = P.length) (hj : j = P.length + 1 + Q.length) : swp xs i j = P ++ y :: (Q ++ x :: R) := by
  unfold swp
  rw [atT_cut h hi, atT_cut (A := P ++ x :: Q) (B := R) (x := y) (by simp [h]) (by simp; omega), set_cut (y := y) h hi,
    set_cut (A := P ++ y :: Q) (B := R) (x := y) (y := x) (by simp) (by simp; omega)]
  simp
theorem swp_cut' (h : xs = P ++ x :: (Q ++ y :: R)) (hi : i = P.length) (hj : j = P.length + 1 + Q.length) : swp xs j i = P ++ y :: (Q ++ x :: R) := by
  unfold swp
  rw [atT_cut h hi, atT_cut (A := P ++ x :: Q) (B := R) (x := y) (by simp [h]) (by simp; omega),
    set_cut (A := P ++ x :: Q) (B := R) (x := y) (y := x) (by simp [h]) (by simp; omega), set_cut (A := P) (B := Q ++ x :: R) (x := x) (y := y) (by simp) hi]
theorem snocT : ∀ {n : Nat} {l : List Tm}, l.length = n + 1 → ∃ l' z, l = l' ++ [z] ∧ l'.length = n := fun {n l} h => by
  have hl : l ≠ [] := by intro q; subst q; simp at h
  exact ⟨l.dropLast, l.getLast hl, (List.dropLast_concat_getLast hl).symm, by simp [h]⟩
theorem swR_cut : ∀ (n : Nat) {P B M C D : List Tm} {a b : Nat}, P.length = a → B.length = n → C.length = n → b = a + n + M.length → swR a b n (P ++ (B ++ (M ++ (C ++ D)))) = P ++ (C ++ (M ++ (B ++ D)))
  | 0, P, B, M, C, D, a, b, h1, h2, h3, h4 => by
    rw [List.eq_nil_of_length_eq_zero h2, List.eq_nil_of_length_eq_zero h3]; rfl
  | n + 1, P, B, M, C, D, a, b, h1, h2, h3, h4 => by
    obtain ⟨B', x, rfl, hB⟩ := snocT h2
    obtain ⟨C', y, rfl, hC⟩ := snocT h3
    rw [swR]
    have ih := swR_cut n (P := P) (B := B') (M := x :: M) (C := C') (D := y :: D) (a := a) (b := b) h1 hB hC (by simp; omega)
    have e : P ++ (B' ++ [x] ++ (M ++ (C' ++ [y] ++ D))) = P ++ (B' ++ (x :: M ++ (C' ++ y :: D))) := by simp
    rw [e, ih, swp_cut (P := P ++ C') (x := x) (Q := M ++ B') (y := y) (R := D) (by simp) (by simp; omega) (by simp; omega)]
    simp
theorem rotF_cut : ∀ (f : Nat) {m i j : Nat} {A B C D : List Tm}, i + j ≤ f → 0 < i → 0 < j → A.length + B.length = m → B.length = i → C.length = j → rotF f m i j (A ++ (B ++ (C ++ D))) = A ++ (C ++ (B ++ D))
  | 0, m, i, j, A, B, C, D, hf, hi, hj, h1, h2, h3 => by omega
  | f + 1, m, i, j, A, B, C, D, hf, hi, hj, h1, h2, h3 => by
    rw [rotF]
    split
    · have := swR_cut i (P := A) (B := B) (M := []) (C := C) (D := D) (a := m - i) (b := m) (by omega) (by omega) (by omega) (by simp; omega)
      simpa using this
    · split
      · have h := swR_cut j (P := A) (B := B.take j) (M := B.drop j) (C := C) (D := D) (a := m - i) (b := m) (by omega) (by simp; omega) h3 (by simp; omega)
        have e : A ++ (B.take j ++ (B.drop j ++ (C ++ D))) = A ++ (B ++ (C ++ D)) := by rw [← List.append_assoc (B.take j), List.take_append_drop]
        rw [e] at h
        rw [h]
        have ih := rotF_cut f (m := m) (i := i - j) (j := j) (A := A ++ C) (B := B.drop j) (C := B.take j) (D := D) (by omega) (by omega) hj (by simp; omega) (by simp; omega) (by simp; omega)
        have e2 : A ++ (C ++ (B.drop j ++ (B.take j ++ D))) = (A ++ C) ++ (B.drop j ++ (B.take j ++ D)) := by simp
        have e3 : A ++ C ++ (B.take j ++ (B.drop j ++ D)) = A ++ (C ++ (B ++ D)) := by rw [← List.append_assoc (B.take j), List.take_append_drop]; simp
        rw [e2, ih, e3]
      · have h := swR_cut i (P := A) (B := B) (M := C.take (j - i)) (C := C.drop (j - i)) (D := D) (a := m - i) (b := m + j - i) (by omega) (by omega) (by simp; omega) (by simp; omega)
        have e : A ++ (B ++ (C.take (j - i) ++ (C.drop (j - i) ++ D))) = A ++ (B ++ (C ++ D)) := by rw [← List.append_assoc (C.take (j - i)), List.take_append_drop]
        rw [e] at h
        rw [h]
        have ih := rotF_cut f (m := m) (i := i) (j := j - i) (A := A) (B := C.drop (j - i)) (C := C.take (j - i)) (D := B ++ D) (by omega) hi (by omega) (by simp; omega) (by simp; omega) (by simp; omega)
        have e3 : A ++ (C.take (j - i) ++ (C.drop (j - i) ++ (B ++ D))) = A ++ (C ++ (B ++ D)) := by rw [← List.append_assoc (C.take (j - i)), List.take_append_drop]
        rw [ih, e3]
theorem upS_cut : ∀ (n : Nat) {k : Nat} {A V R : List Tm} {x : Tm}, A.length = k → V.length = n → upS n k (A ++ x :: (V ++ R)) = A ++ (V ++ x :: R)
  | 0, k, A, V, R, x, h, h1 => by rw [List.eq_nil_of_length_eq_zero h1]; rfl
  | n + 1, k, A, V, R, x, h, h1 => by
    obtain ⟨v, V', rfl⟩ := List.exists_cons_of_length_eq_add_one h1
    rw [upS, swp_cut (P := A) (x := x) (Q := []) (y := v) (R := V' ++ R) (by simp) h.symm (by simp; omega)]
    have ih := upS_cut n (k := k + 1) (A := A ++ [v]) (V := V') (R := R) (x := x) (by simp; omega) (by simpa using h1)
    simpa using ih
theorem dnS_cut : ∀ (n : Nat) {k : Nat} {A U R : List Tm} {y : Tm}, A.length + n = k → U.length = n → dnS n k (A ++ (U ++ y :: R)) = A ++ y :: (U ++ R)
  | 0, k, A, U, R, y, h, h1 => by rw [List.eq_nil_of_length_eq_zero h1]; rfl
  | n + 1, k, A, U, R, y, h, h1 => by
    obtain ⟨U', u, rfl, hU⟩ := snocT h1
    rw [dnS, swp_cut' (P := A ++ U') (x := u) (Q := []) (y := y) (R := R) (by simp) (by simp; omega) (by simp; omega)]
    have ih := dnS_cut n (k := k - 1) (A := A) (U := U') (R := u :: R) (y := y) (by omega) hU
    simpa using ih

theorem le_last (h : SortT (U ++ [x])) (hz : leT x y) : ∀ v ∈ U ++ [x], leT v y := fun v hv => by
  rcases List.mem_append.1 hv with q | q
  · exact leT_trans ((List.pairwise_append.1 h).2.2 v q x (by simp)) hz
  · simp at q; subst q; exact hz
theorem le_first (h : SortT (y :: V)) (hz : leT x y) : ∀ v ∈ y :: V, leT x v := fun v hv => by
  rcases List.mem_cons.1 hv with q | q
  · subst q; exact hz
  · exact leT_trans hz (List.rel_of_pairwise_cons h q)
theorem le_cross (hU : SortT U) (hV : SortT V) (h : ∀ U' x y V', U = U' ++ [x] → V = y :: V' → leT x y) : ∀ u ∈ U, ∀ v ∈ V, leT u v := fun u hu v hv => by
  have hU' : U.length ≠ 0 := by intro q; rw [List.eq_nil_of_length_eq_zero q] at hu; cases hu
  obtain ⟨U', x, e, _⟩ := snocT (n := U.length - 1) (l := U) (by omega)
  cases V with
  | nil => cases hv
  | cons y V' =>
    have h1 := h U' x y V' e rfl
    rw [e] at hU hu
    exact leT_trans (le_last hU h1 u hu) (le_first hV (by unfold leT; rw [ltT_iff]; unfold ltM; omega) v hv)
theorem sort_app : SortT (U ++ V) ↔ SortT U ∧ SortT V ∧ ∀ u ∈ U, ∀ v ∈ V, leT u v := List.pairwise_append

/-! ### Binary search -/
theorem bsr_spec (P : Nat → Bool) : ∀ (n : Nat) {i j : Nat}, j - i ≤ n → i ≤ j → i ≤ bsr P i j ∧ bsr P i j ≤ j ∧ (bsr P i j = i ∨ P (bsr P i j - 1) = true) ∧ (bsr P i j = j ∨ P (bsr P i j) = false)
  | 0, i, j, hn, h => by rw [bsr_stop (by omega)]; omega
  | n + 1, i, j, hn, h => by
    by_cases hij : i < j
    · by_cases hP : P ((i + j) / 2) = true
      · have ih := bsr_spec P n (i := (i + j) / 2 + 1) (j := j) (by omega) (by omega)
        rw [bsr_T hij hP] at ih
        refine ⟨by omega, ih.2.1, ?_, ih.2.2.2⟩
        rcases ih.2.2.1 with q | q
        · right; rw [q]; simpa using hP
        · right; exact q
      · have ih := bsr_spec P n (i := i) (j := (i + j) / 2) (by omega) (by omega)
        rw [bsr_F hij hP] at ih
        refine ⟨ih.1, by omega, ih.2.2.1, ?_⟩
        rcases ih.2.2.2 with q | q
        · right; rw [q]; simpa using hP
        · right; exact q
    · rw [bsr_stop hij]; omega

/-! ### Insertion -/
theorem siftT_cut : ∀ (n : Nat) {A U R : List Tm} {y : Tm} {a j : Nat}, U.length = n → A.length = a → j = a + n → ∃ U1 U2, U = U1 ++ U2 ∧ siftT a j (A ++ (U ++ y :: R)) = A ++ (U1 ++ y :: (U2 ++ R)) ∧ (∀ u ∈ U2, cmpT y u < 0) ∧ (∀ U' u, U1 = U' ++ [u] → ¬ cmpT y u < 0)
  | 0, A, U, R, y, a, j, h, h1, h2 => by
    rw [siftT_stop (.inl (by omega))]
    exact ⟨U, [], by simp, by simp, by simp, fun U' u e => by rw [List.eq_nil_of_length_eq_zero h] at e; simp at e⟩
  | n + 1, A, U, R, y, a, j, h, h1, h2 => by
    obtain ⟨U', u, rfl, hU⟩ := snocT h
    have ey : atT (A ++ (U' ++ [u] ++ y :: R)) j = y := atT_cut (A := A ++ (U' ++ [u])) (B := R) (by simp) (by simp; omega)
    have eu : atT (A ++ (U' ++ [u] ++ y :: R)) (j - 1) = u := atT_cut (A := A ++ U') (B := y :: R) (by simp) (by simp; omega)
    by_cases hc : cmpT y u < 0
    · rw [← siftT_go (by omega) (by rw [ey, eu]; exact hc), ey, eu, set_cut (A := A ++ (U' ++ [u])) (B := R) (x := y) (y := u) (by simp) (by simp; omega),
        set_cut (A := A ++ U') (B := u :: R) (x := u) (y := y) (by simp) (by simp; omega)]
      obtain ⟨U1, U2, e1, e2, e3, e4⟩ := siftT_cut n (A := A) (U := U') (R := u :: R) (y := y) (a := a) (j := j - 1) hU h1 (by omega)
      refine ⟨U1, U2 ++ [u], by rw [e1]; simp, ?_, fun v hv => ?_, e4⟩
      · rw [List.append_assoc, e2]; simp
      · rcases List.mem_append.1 hv with q | q
        · exact e3 v q
        · simp at q; subst q; exact hc
    · rw [siftT_stop (.inr (by rw [ey, eu]; exact hc))]
      refine ⟨U' ++ [u], [], by simp, by simp, by simp, fun V v e => ?_⟩
      have := List.append_inj' e rfl
      simp at this; rw [← this.2]; exact hc
theorem sift_sort {U1 U2 : List Tm} (h : SortT (U1 ++ U2)) (h1 : ∀ u ∈ U2, cmpT y u < 0) (h2 : ∀ U' u, U1 = U' ++ [u] → ¬ cmpT y u < 0) : SortT (U1 ++ y :: U2) := by
  obtain ⟨a, b, c⟩ := sort_app.1 h
  refine sort_app.2 ⟨a, List.pairwise_cons.2 ⟨fun v hv => leT_of_lt (h1 v hv), b⟩, fun u hu v hv => ?_⟩
  rcases List.mem_cons.1 hv with q | q
  · subst q
    have hl : U1.length ≠ 0 := by intro q; rw [List.eq_nil_of_length_eq_zero q] at hu; cases hu
    obtain ⟨U', x, e, _⟩ := snocT (n := U1.length - 1) (l := U1) (by omega)
    rw [e] at a hu
    exact le_last a (h2 U' x e) u hu
  · exact c u hu v q
theorem insT_cut : ∀ (n : Nat) {A W V R : List Tm} {a i : Nat}, A.length = a → a + W.length = i → V.length = n → SortT W → ∃ W', insT a n i (A ++ (W ++ (V ++ R))) = A ++ (W' ++ R) ∧ W'.Perm (W ++ V) ∧ SortT W'
  | 0, A, W, V, R, a, i, h, h1, h2, h3 => ⟨W, by rw [List.eq_nil_of_length_eq_zero h2]; rfl, by rw [List.eq_nil_of_length_eq_zero h2]; simp, h3⟩
  | n + 1, A, W, V, R, a, i, h, h1, h2, h3 => by
    obtain ⟨v, V', rfl⟩ := List.exists_cons_of_length_eq_add_one h2
    rw [insT]
    obtain ⟨U1, U2, e1, e2, e3, e4⟩ := siftT_cut W.length (A := A) (U := W) (R := V' ++ R) (y := v) (a := a) (j := i) rfl h h1.symm
    have e : A ++ (W ++ (v :: V' ++ R)) = A ++ (W ++ v :: (V' ++ R)) := by simp
    rw [e, e2]
    obtain ⟨W', w1, w2, w3⟩ := insT_cut n (A := A) (W := U1 ++ v :: U2) (V := V') (R := R) (a := a) (i := i + 1) h (by rw [e1] at h1; simp at h1 ⊢; omega) (by simpa using h2) (sift_sort (by rw [← e1]; exact h3) e3 e4)
    refine ⟨W', ?_, ?_, w3⟩
    · have : A ++ (U1 ++ v :: (U2 ++ (V' ++ R))) = A ++ (U1 ++ v :: U2 ++ (V' ++ R)) := by simp
      rw [this, w1]
    · refine w2.trans ?_
      rw [e1]
      have : U1 ++ v :: U2 ++ V' = U1 ++ v :: (U2 ++ V') := by simp
      rw [this]
      have h5 : (U1 ++ U2 ++ v :: V') = U1 ++ (U2 ++ v :: V') := by simp
      rw [h5]
      exact List.Perm.append_left _ List.perm_middle.symm
theorem sortT_perm (xs : List Tm) : (sortT xs).Perm xs ∧ SortT (sortT xs) := by
  cases xs with
  | nil => exact ⟨.refl _, .nil⟩
  | cons x xs =>
    obtain ⟨W', h1, h2, h3⟩ := insT_cut xs.length (A := []) (W := [x]) (V := xs) (R := []) (a := 0) (i := 1) rfl rfl rfl (by simp)
    simp at h1
    show (insT 0 ((x :: xs).length - 1) 1 (x :: xs)).Perm _ ∧ SortT (insT 0 ((x :: xs).length - 1) 1 (x :: xs))
    rw [show (x :: xs).length - 1 = xs.length by simp, h1]
    exact ⟨h2, h3⟩

/-! ### Merging in place -/
theorem cut_two (V : List Tm) (k : Nat) : V = V.take k ++ V.drop k := (List.take_append_drop k V).symm
theorem symF_cut : ∀ (f : Nat) {lo md hi : Nat} {A U V D : List Tm}, hi - lo ≤ f → A.length = lo → lo + U.length = md → md + V.length = hi → 0 < U.length → 0 < V.length → SortT U → SortT V →
    ∃ W, symF f lo md hi (A ++ (U ++ (V ++ D))) = A ++ (W ++ D) ∧ W.Perm (U ++ V) ∧ SortT W
  | 0, lo, md, hi, A, U, V, D, hf, hA, hU, hV, hu, hv, sU, sV => by omega
  | f + 1, lo, md, hi, A, U, V, D, hf, hA, hU, hV, hu, hv, sU, sV => by
    generalize hxs : A ++ (U ++ (V ++ D)) = xs
    by_cases c1 : md - lo = 1
    · rw [← symF_A (f := f) c1 rfl]
      obtain ⟨x, e⟩ := List.length_eq_one_iff.1 (show U.length = 1 by omega)
      subst e
      have ex : atT xs lo = x := atT_cut (A := A) (B := V ++ D) (by rw [← hxs]; simp) hA.symm
      obtain ⟨b1, b2, b3, b4⟩ := bsr_spec (fun h => decide (cmpT (atT xs h) (atT xs lo) < 0)) (hi - md) (i := md) (j := hi) (Nat.le_refl _) (by omega)
      have hi' : bsr (fun h => decide (cmpT (atT xs h) (atT xs lo) < 0)) md hi = insA lo md hi xs := rfl
      rw [hi'] at b1 b2 b3 b4
      generalize insA lo md hi xs = i at b1 b2 b3 b4 ⊢
      have eV := cut_two V (i - md)
      generalize hV1 : V.take (i - md) = V1 at eV
      generalize hV2 : V.drop (i - md) = V2 at eV
      have l1 : V1.length = i - md := by rw [← hV1]; simp; omega
      have l2 : V2.length = hi - i := by rw [← hV2]; simp; omega
      subst eV
      obtain ⟨s1, s2, s3⟩ := sort_app.1 sV
      have key1 : ∀ v ∈ V1, leT v x := by
        refine fun v hv => le_cross s1 (List.pairwise_singleton leT x) (fun U' z y V' e e' => ?_) v hv x (by simp)
        simp at e'; obtain ⟨rfl, rfl⟩ := e'
        subst e
        have ez : atT xs (i - 1) = z := atT_cut (A := A ++ [x] ++ U') (B := V2 ++ D) (by rw [← hxs]; simp) (by simp at l1 ⊢; omega)
        rcases b3 with q | q
        · simp at l1; omega
        · simp only [ez, ex, decide_eq_true_eq] at q; exact leT_of_lt q
      have key2 : ∀ v ∈ V2, leT x v := by
        refine fun v hv => le_cross (List.pairwise_singleton leT x) s2 (fun U' z y V' e e' => ?_) x (by simp) v hv
        have hz : x = z := by have := List.append_inj' (show [] ++ [x] = U' ++ [z] by simpa using e) rfl; simpa using this.2
        subst hz
        subst e'
        have ez : atT xs i = y := atT_cut (A := A ++ [x] ++ V1) (B := V' ++ D) (by rw [← hxs]; simp) (by simp at l1 ⊢; omega)
        rcases b4 with q | q
        · simp at l2; omega
        · simp only [ez, ex, decide_eq_false_iff_not] at q; exact q
      refine ⟨V1 ++ x :: V2, ?_, ?_, ?_⟩
      · have e : xs = A ++ x :: (V1 ++ (V2 ++ D)) := by rw [← hxs]; simp
        rw [e, upS_cut (i - 1 - lo) hA (by omega)]; simp
      · exact List.perm_middle
      · exact sort_app.2 ⟨s1, List.pairwise_cons.2 ⟨key2, s2⟩, fun u hu' v hv' => by
          rcases List.mem_cons.1 hv' with q | q
          · rw [q]; exact key1 u hu'
          · exact s3 u hu' v q⟩
    · by_cases c2 : hi - md = 1
      · rw [← symF_B (f := f) c1 c2 rfl]
        obtain ⟨x, e⟩ := List.length_eq_one_iff.1 (show V.length = 1 by omega)
        subst e
        have ex : atT xs md = x := atT_cut (A := A ++ U) (B := D) (by rw [← hxs]; simp) (by simp; omega)
        obtain ⟨b1, b2, b3, b4⟩ := bsr_spec (fun h => !decide (cmpT (atT xs md) (atT xs h) < 0)) (md - lo) (i := lo) (j := md) (Nat.le_refl _) (by omega)
        have hi' : bsr (fun h => !decide (cmpT (atT xs md) (atT xs h) < 0)) lo md = insB lo md xs := rfl
        rw [hi'] at b1 b2 b3 b4
        generalize insB lo md xs = i at b1 b2 b3 b4 ⊢
        have eU := cut_two U (i - lo)
        generalize hU1 : U.take (i - lo) = U1 at eU
        generalize hU2 : U.drop (i - lo) = U2 at eU
        have l1 : U1.length = i - lo := by rw [← hU1]; simp; omega
        have l2 : U2.length = md - i := by rw [← hU2]; simp; omega
        subst eU
        obtain ⟨s1, s2, s3⟩ := sort_app.1 sU
        have key1 : ∀ v ∈ U1, leT v x := by
          refine fun v hv => le_cross s1 (List.pairwise_singleton leT x) (fun U' z y V' e e' => ?_) v hv x (by simp)
          simp at e'; obtain ⟨rfl, rfl⟩ := e'
          subst e
          have ez : atT xs (i - 1) = z := atT_cut (A := A ++ U') (B := U2 ++ ([x] ++ D)) (by rw [← hxs]; simp) (by simp at l1 ⊢; omega)
          rcases b3 with q | q
          · simp at l1; omega
          · simp only [ez, ex, Bool.not_eq_true', decide_eq_false_iff_not] at q; exact q
        have key2 : ∀ v ∈ U2, leT x v := by
          refine fun v hv => le_cross (List.pairwise_singleton leT x) s2 (fun U' z y V' e e' => ?_) x (by simp) v hv
          have hz : x = z := by have := List.append_inj' (show [] ++ [x] = U' ++ [z] by simpa using e) rfl; simpa using this.2
          subst hz
          subst e'
          have ez : atT xs i = y := atT_cut (A := A ++ U1) (B := V' ++ ([x] ++ D)) (by rw [← hxs]; simp) (by simp at l1 ⊢; omega)
          rcases b4 with q | q
          · simp at l2; omega
          · simp only [ez, ex, Bool.not_eq_false', decide_eq_true_eq] at q; exact leT_of_lt q
        refine ⟨U1 ++ x :: U2, ?_, ?_, ?_⟩
        · have e : xs = (A ++ U1) ++ (U2 ++ x :: D) := by rw [← hxs]; simp
          rw [e, dnS_cut (md - i) (by simp; omega) (by omega)]; simp
        · have : U1 ++ U2 ++ [x] = U1 ++ (U2 ++ [x]) := by simp
          rw [this]; exact List.Perm.append_left _ (List.perm_append_comm (l₁ := [x]) (l₂ := U2))
        · exact sort_app.2 ⟨s1, List.pairwise_cons.2 ⟨key2, s2⟩, fun u hu' v hv' => by
            rcases List.mem_cons.1 hv' with q | q
            · rw [q]; exact key1 u hu'
            · exact s3 u hu' v q⟩
      · -- both parts have at least two elements
        have hmid : ∃ mid, mid = (lo + hi) / 2 := ⟨_, rfl⟩
        obtain ⟨mid, hmid⟩ := hmid
        have hcs : ∃ s0 r0, s0 = (if mid < md then mid + md - hi else lo) ∧ r0 = (if mid < md then mid else md) := ⟨_, _, rfl, rfl⟩
        obtain ⟨s0, r0, hs0, hr0⟩ := hcs
        have hbnd : lo ≤ s0 ∧ s0 ≤ r0 ∧ r0 ≤ md ∧ r0 ≤ mid ∧ mid + md ≤ hi + s0 ∧ (s0 = lo ∨ mid + md = hi + s0) ∧ (r0 = md ∨ r0 = mid) := by
          by_cases q : mid < md
          · rw [if_pos q] at hs0 hr0; omega
          · rw [if_neg q] at hs0 hr0; omega
        obtain ⟨b1, b2, b3, b4⟩ := bsr_spec (cutP (mid + md) xs) (r0 - s0) (i := s0) (j := r0) (Nat.le_refl _) (by omega)
        have hc : cutS lo md hi xs = bsr (cutP (mid + md) xs) s0 r0 := by rw [cutS, hs0, hr0, hmid]
        generalize hs : bsr (cutP (mid + md) xs) s0 r0 = s at b1 b2 b3 b4 hc
        have he : ∃ e, e = mid + md - s := ⟨_, rfl⟩
        obtain ⟨e, he⟩ := he
        have eU := cut_two U (s - lo)
        generalize hU1 : U.take (s - lo) = U1 at eU
        generalize hU2 : U.drop (s - lo) = U2 at eU
        have lu1 : U1.length = s - lo := by rw [← hU1]; simp; omega
        have lu2 : U2.length = md - s := by rw [← hU2]; simp; omega
        have eV := cut_two V (e - md)
        generalize hV1 : V.take (e - md) = V1 at eV
        generalize hV2 : V.drop (e - md) = V2 at eV
        have lv1 : V1.length = e - md := by rw [← hV1]; simp; omega
        have lv2 : V2.length = hi - e := by rw [← hV2]; simp; omega
        subst eU; subst eV
        obtain ⟨u1, u2, u3⟩ := sort_app.1 sU
        obtain ⟨v1, v2, v3⟩ := sort_app.1 sV
        have x1 : ∀ u ∈ U1, ∀ v ∈ V2, leT u v := le_cross u1 v2 fun U' x y V' q q' => by
          subst q; subst q'
          simp at lu1 lv2
          have ex : atT xs (s - 1) = x := atT_cut (A := A ++ U') (B := U2 ++ ((V1 ++ y :: V') ++ D)) (by rw [← hxs]; simp) (by simp; omega)
          have ey : atT xs (mid + md - 1 - (s - 1)) = y := atT_cut (A := A ++ (U' ++ [x] ++ (U2 ++ V1))) (B := V' ++ D) (by rw [← hxs]; simp) (by simp; omega)
          rcases b3 with q | q
          · omega
          · simp only [cutP, ex, ey, Bool.not_eq_true', decide_eq_false_iff_not] at q; exact q
        have x2 : ∀ u ∈ V1, ∀ v ∈ U2, leT u v := le_cross v1 u2 fun U' x y V' q q' => by
          subst q; subst q'
          simp at lv1 lu2
          have ex : atT xs (mid + md - 1 - s) = x := atT_cut (A := A ++ (U1 ++ y :: V') ++ U') (B := V2 ++ D) (by rw [← hxs]; simp) (by simp; omega)
          have ey : atT xs s = y := atT_cut (A := A ++ U1) (B := V' ++ ((U' ++ [x] ++ V2) ++ D)) (by rw [← hxs]; simp) (by simp; omega)
          rcases b4 with q | q
          · omega
          · simp only [cutP, ex, ey, Bool.not_eq_false', decide_eq_true_eq] at q; exact leT_of_lt q
        have hy : (if s < md ∧ md < e then rotT md s e xs else xs) = A ++ (U1 ++ (V1 ++ (U2 ++ (V2 ++ D)))) := by
          split
          · have := rotF_cut (e - s) (m := md) (i := md - s) (j := e - md) (A := A ++ U1) (B := U2) (C := V1) (D := V2 ++ D) (by omega) (by omega) (by omega) (by simp; omega) lu2 lv1
            have e1 : xs = A ++ U1 ++ (U2 ++ (V1 ++ (V2 ++ D))) := by rw [← hxs]; simp
            rw [e1, rotT, this]; simp
          · rename_i hn
            by_cases q : s < md
            · rw [List.eq_nil_of_length_eq_zero (show V1.length = 0 by omega)] at hxs ⊢
              rw [← hxs]; simp
            · rw [List.eq_nil_of_length_eq_zero (show U2.length = 0 by omega)] at hxs ⊢
              rw [← hxs]; simp
        have hz : ∃ W1, (if lo < s ∧ s < mid then symF f lo s mid (A ++ (U1 ++ (V1 ++ (U2 ++ (V2 ++ D))))) else A ++ (U1 ++ (V1 ++ (U2 ++ (V2 ++ D))))) = A ++ (W1 ++ (U2 ++ (V2 ++ D))) ∧ W1.Perm (U1 ++ V1) ∧ SortT W1 := by
          split
          · exact symF_cut f (by omega) hA (by omega) (by omega) (by omega) (by omega) u1 v1
          · rename_i hn
            refine ⟨U1 ++ V1, by simp, .refl _, ?_⟩
            by_cases q : lo < s
            · rw [List.eq_nil_of_length_eq_zero (show V1.length = 0 by omega)]; simpa using u1
            · rw [List.eq_nil_of_length_eq_zero (show U1.length = 0 by omega)]; simpa using v1
        obtain ⟨W1, z1, z2, z3⟩ := hz
        have hw : ∃ W2, (if mid < e ∧ e < hi then symF f mid e hi (A ++ (W1 ++ (U2 ++ (V2 ++ D)))) else A ++ (W1 ++ (U2 ++ (V2 ++ D)))) = A ++ (W1 ++ (W2 ++ D)) ∧ W2.Perm (U2 ++ V2) ∧ SortT W2 := by
          have lw : W1.length = U1.length + V1.length := by rw [z2.length_eq, List.length_append]
          split
          · obtain ⟨W2, w1, w2, w3⟩ := symF_cut f (lo := mid) (md := e) (hi := hi) (A := A ++ W1) (U := U2) (V := V2) (D := D) (by omega) (by simp; omega) (by omega) (by omega) (by omega) (by omega) u2 v2
            refine ⟨W2, ?_, w2, w3⟩
            have e1 : A ++ (W1 ++ (U2 ++ (V2 ++ D))) = A ++ W1 ++ (U2 ++ (V2 ++ D)) := by simp
            rw [e1, w1]; simp
          · rename_i hn
            refine ⟨U2 ++ V2, by simp, .refl _, ?_⟩
            by_cases q : mid < e
            · rw [List.eq_nil_of_length_eq_zero (show V2.length = 0 by omega)]; simpa using u2
            · rw [List.eq_nil_of_length_eq_zero (show U2.length = 0 by omega)]; simpa using v2
        obtain ⟨W2, w1, w2, w3⟩ := hw
        have hfin := symF_C (f := f) (xs := xs) (s := s) (e := e) c1 c2 hc.symm (by rw [he, hmid]) hy.symm (by rw [← hmid])
        rw [← hfin, ← hmid, z1, w1]
        refine ⟨W1 ++ W2, by simp, ?_, sort_app.2 ⟨z3, w3, fun u hu v hv => ?_⟩⟩
        · refine (z2.append w2).trans ?_
          have q1 : U1 ++ V1 ++ (U2 ++ V2) = U1 ++ (V1 ++ (U2 ++ V2)) := by simp
          have q2 : U1 ++ U2 ++ (V1 ++ V2) = U1 ++ (U2 ++ (V1 ++ V2)) := by simp
          rw [q1, q2]
          refine List.Perm.append_left _ ?_
          have q3 : V1 ++ (U2 ++ V2) = (V1 ++ U2) ++ V2 := by simp
          have q4 : U2 ++ (V1 ++ V2) = (U2 ++ V1) ++ V2 := by simp
          rw [q3, q4]
          exact List.Perm.append_right _ List.perm_append_comm
        · have hu' := z2.mem_iff.1 hu
          have hv' := w2.mem_iff.1 hv
          rcases List.mem_append.1 hu' with a | a <;> rcases List.mem_append.1 hv' with b | b
          · exact u3 u a v b
          · exact x1 u a v b
          · exact x2 u a v b
          · exact v3 u a v b

/-! ### Runs -/
inductive Runs (z : Nat) : List Tm → Prop
  | last {W : List Tm} (h : SortT W) (hl : W.length ≤ z) : Runs z W
  | cons {W V : List Tm} (h : SortT W) (hl : W.length = z) (hv : Runs z V) : Runs z (W ++ V)
theorem Runs.cut {z : Nat} {V : List Tm} (h : Runs z V) (hz : z < V.length) : ∃ W V', V = W ++ V' ∧ SortT W ∧ W.length = z ∧ Runs z V' := by
  cases h with
  | last h hl => omega
  | cons h hl hv => exact ⟨_, _, rfl, h, hl, hv⟩
theorem Runs.sort {z : Nat} {V : List Tm} (hz : 0 < z) (h : Runs z V) (hl : V.length ≤ z) : SortT V := by
  cases h with
  | last h _ => exact h
  | cons h hw hv =>
    rename_i W V'
    have : V' = [] := List.eq_nil_of_length_eq_zero (by simp at hl; omega)
    subst this; simpa using h
theorem blF_cut (n : Nat) : ∀ (f : Nat) {A V : List Tm} {a : Nat}, A.length = a → a + V.length = n → V.length < f → ∃ V', blF n f a (A ++ V) = A ++ V' ∧ V'.Perm V ∧ Runs 20 V'
  | 0, A, V, a, h, h1, h2 => by omega
  | f + 1, A, V, a, h, h1, h2 => by
    rw [blF]
    split
    · have e := cut_two V 20
      generalize hV1 : V.take 20 = V1 at e
      generalize hV2 : V.drop 20 = V2 at e
      have l1 : V1.length = 20 := by rw [← hV1]; simp; omega
      subst e
      obtain ⟨v, V1', rfl⟩ := List.exists_cons_of_length_eq_add_one l1
      obtain ⟨W', w1, w2, w3⟩ := insT_cut 19 (A := A) (W := [v]) (V := V1') (R := V2) (a := a) (i := a + 1) h rfl (by simpa using l1) (by simp)
      have e1 : A ++ (v :: V1' ++ V2) = A ++ ([v] ++ (V1' ++ V2)) := by simp
      have hl' := w2.length_eq
      have hl20 : W'.length = 20 := by rw [hl']; simpa using l1
      rw [show a + 20 - (a + 1) = 19 by omega, e1, w1]
      obtain ⟨V', q1, q2, q3⟩ := blF_cut n f (A := A ++ W') (V := V2) (a := a + 20) (by simp; omega) (by simp at h1 l1 ⊢; omega) (by simp at h2 l1; omega)
      have e2 : A ++ (W' ++ V2) = A ++ W' ++ V2 := by simp
      rw [e2, q1]
      refine ⟨W' ++ V', by simp, ?_, .cons w3 hl20 q3⟩
      exact (w2.append q2)
    · cases V with
      | nil =>
        simp at h1
        refine ⟨[], ?_, .refl _, .last .nil (by simp)⟩
        rw [show n - (a + 1) = 0 by omega]; rfl
      | cons v V1' =>
        obtain ⟨W', w1, w2, w3⟩ := insT_cut (n - (a + 1)) (A := A) (W := [v]) (V := V1') (R := []) (a := a) (i := a + 1) h rfl (by simp at h1; omega) (by simp)
        have hl' := w2.length_eq
        have e1 : A ++ v :: V1' = A ++ ([v] ++ (V1' ++ [])) := by simp
        rw [e1, w1]
        exact ⟨W', by simp, w2, .last w3 (by simp at h1 hl'; omega)⟩
theorem psF_cut (n z : Nat) (hz : 0 < z) : ∀ (f : Nat) {A V : List Tm} {a : Nat}, A.length = a → a + V.length = n → V.length < f → Runs z V → ∃ V', psF n z f a (A ++ V) = A ++ V' ∧ V'.Perm V ∧ Runs (2 * z) V'
  | 0, A, V, a, h, h1, h2, hr => by omega
  | f + 1, A, V, a, h, h1, h2, hr => by
    rw [psF]
    split
    · obtain ⟨W1, V1, rfl, s1, l1, r1⟩ := hr.cut (by omega)
      simp at h1 h2
      have hc2 : ∃ W2 V2, V1 = W2 ++ V2 ∧ SortT W2 ∧ W2.length = z ∧ Runs z V2 := by
        by_cases q : z < V1.length
        · exact r1.cut q
        · exact ⟨V1, [], by simp, r1.sort hz (by omega), by omega, .last .nil (by simp)⟩
      obtain ⟨W2, V2, rfl, s2, l2, r2⟩ := hc2
      simp at h1 h2
      obtain ⟨W, w1, w2, w3⟩ := symF_cut (2 * z) (lo := a) (md := a + z) (hi := a + 2 * z) (A := A) (U := W1) (V := W2) (D := V2) (by omega) h (by omega) (by omega) (by omega) (by omega) s1 s2
      have lw : W.length = 2 * z := by rw [w2.length_eq]; simp; omega
      obtain ⟨V', q1, q2, q3⟩ := psF_cut n z hz f (A := A ++ W) (V := V2) (a := a + 2 * z) (by simp; omega) (by omega) (by omega) r2
      have e2 : A ++ (W ++ V2) = A ++ W ++ V2 := by simp
      rw [w1, e2, q1]
      refine ⟨W ++ V', by simp, ?_, .cons w3 lw q3⟩
      rw [← List.append_assoc]; exact w2.append q2
    · split
      · obtain ⟨W1, V1, rfl, s1, l1, r1⟩ := hr.cut (by omega)
        simp at h1 h2
        obtain ⟨W, w1, w2, w3⟩ := symF_cut (n - a) (lo := a) (md := a + z) (hi := n) (A := A) (U := W1) (V := V1) (D := []) (by omega) h (by omega) (by omega) (by omega) (by omega) s1 (r1.sort hz (by omega))
        have lw : W.length = W1.length + V1.length := by rw [w2.length_eq]; simp
        have e1 : A ++ (W1 ++ V1) = A ++ (W1 ++ (V1 ++ [])) := by simp
        rw [e1, w1]
        exact ⟨W, by simp, w2, .last w3 (by omega)⟩
      · exact ⟨V, rfl, .refl _, .last (hr.sort hz (by omega)) (by omega)⟩
theorem mgF_cut : ∀ (f : Nat) {z : Nat} {V : List Tm}, 0 < z → (V.length ≤ z ∨ V.length < z + f) → Runs z V → (mgF V.length f z V).Perm V ∧ SortT (mgF V.length f z V)
  | 0, z, V, hz, h, hr => ⟨.refl _, hr.sort hz (by rcases h with h | h; exact h; exact Nat.le_of_lt h)⟩
  | f + 1, z, V, hz, h, hr => by
    rw [mgF]
    split
    · obtain ⟨V', q1, q2, q3⟩ := psF_cut V.length z hz (V.length + 1) (A := []) (V := V) (a := 0) rfl (by omega) (by omega) hr
      simp at q1
      rw [q1, ← q2.length_eq]
      have l := q2.length_eq
      have ih := mgF_cut f (z := z * 2) (V := V') (by omega) (by omega) (by rw [Nat.mul_comm]; exact q3)
      exact ⟨ih.1.trans q2, ih.2⟩
    · exact ⟨.refl _, hr.sort hz (by omega)⟩
theorem stT_perm (xs : List Tm) : (stT xs).Perm xs ∧ SortT (stT xs) := by
  obtain ⟨V', q1, q2, q3⟩ := blF_cut xs.length (xs.length + 1) (A := []) (V := xs) (a := 0) rfl (by omega) (by omega)
  simp at q1
  have l := q2.length_eq
  have := mgF_cut xs.length (z := 20) (V := V') (by decide) (by omega) q3
  rw [stT, q1, ← l]
  rw [← l] at this
  exact ⟨this.1.trans q2, this.2⟩
end lists
end Go.Rt
