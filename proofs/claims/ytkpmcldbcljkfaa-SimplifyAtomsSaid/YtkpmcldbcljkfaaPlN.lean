/- Plain mathematics: natural numbers as lists of digits in base 2^32, least significant first. Conditions: none. -/
import Derived.WalkKit
set_option linter.unusedVariables false
set_option linter.unusedSimpArgs false
namespace Go.Rt

/-- The base. -/
abbrev B32 : Nat := 4294967296

def val : List Nat → Nat
  | [] => 0
  | d :: ds => d + B32 * val ds

/-- The digits of n, none of them leading zeros. -/
def dig (n : Nat) : List Nat := if h : n = 0 then [] else (n % B32) :: dig (n / B32)
termination_by n
decreasing_by exact Nat.div_lt_self (Nat.pos_of_ne_zero h) (by decide)

def Digs (ds : List Nat) : Prop := ∀ d ∈ ds, d < B32

theorem dig_zero : dig 0 = [] := by rw [dig]; rfl
theorem dig_pos {n : Nat} (h : n ≠ 0) : dig n = (n % B32) :: dig (n / B32) := by rw [dig, dif_neg h]

theorem val_dig (n : Nat) : val (dig n) = n := by
  induction n using Nat.strongRecOn with
  | _ n ih =>
    by_cases h : n = 0
    · subst h; rw [dig_zero]; rfl
    · rw [dig_pos h, val, ih _ (Nat.div_lt_self (Nat.pos_of_ne_zero h) (by decide))]
      exact Nat.mod_add_div n B32

theorem digs_dig (n : Nat) : Digs (dig n) := by
  induction n using Nat.strongRecOn with
  | _ n ih =>
    by_cases h : n = 0
    · subst h; rw [dig_zero]; intro d hd; cases hd
    · rw [dig_pos h]
      intro d hd
      cases hd with
      | head => exact Nat.mod_lt _ (by decide)
      | tail _ hd => exact ih _ (Nat.div_lt_self (Nat.pos_of_ne_zero h) (by decide)) d hd

theorem val_append (xs ys : List Nat) : val (xs ++ ys) = val xs + B32 ^ xs.length * val ys := by
  induction xs with
  | nil => simp [val]
  | cons x xs ih => simp only [List.cons_append, val, ih, List.length_cons, Nat.pow_succ, Nat.mul_add]; rw [Nat.mul_comm (B32 ^ xs.length) B32, Nat.mul_assoc]; omega

theorem val_lt {ds : List Nat} (h : Digs ds) : val ds < B32 ^ ds.length := by
  induction ds with
  | nil => simp [val]
  | cons d ds ih =>
    have h1 := ih fun x hx => h x (.tail _ hx)
    have h2 := h d (.head _)
    simp only [val, List.length_cons, Nat.pow_succ]
    have : B32 * (val ds + 1) ≤ B32 * B32 ^ ds.length := Nat.mul_le_mul_left _ h1
    rw [Nat.mul_add] at this
    rw [Nat.mul_comm (B32 ^ ds.length)]
    omega

/-- Without leading zeros. -/
def trimD (ds : List Nat) : List Nat := (ds.reverse.dropWhile (· == 0)).reverse

theorem trimD_nil : trimD [] = [] := rfl
theorem trimD_zero (xs : List Nat) : trimD (xs ++ [0]) = trimD xs := by simp [trimD]
theorem trimD_pos (xs : List Nat) {d : Nat} (h : d ≠ 0) : trimD (xs ++ [d]) = xs ++ [d] := by
  simp [trimD, h]

theorem dig_last {ds : List Nat} (h : Digs ds) (hl : ∀ d, ds.getLast? = some d → d ≠ 0) : dig (val ds) = ds := by
  induction ds with
  | nil => simp [val, dig_zero]
  | cons d r ih =>
    have hd : d < B32 := h d (.head _)
    have hr := ih (fun x hx => h x (.tail _ hx)) (fun x hx => hl x (by
      cases r with
      | nil => simp at hx
      | cons y r => simpa using hx))
    have hne : val (d :: r) ≠ 0 := by
      intro h0
      simp only [val] at h0
      have hd0 : d = 0 := by omega
      have hr0 : val r = 0 := by
        have : B32 * val r = 0 := by omega
        rcases Nat.mul_eq_zero.1 this with h | h
        · exact absurd h (by decide)
        · exact h
      rw [hr0, dig_zero] at hr
      subst hr
      exact hl d (by simp) hd0
    rw [dig_pos hne]
    have e1 : (d + B32 * val r) % B32 = d := by rw [Nat.add_mul_mod_self_left, Nat.mod_eq_of_lt hd]
    have e2 : (d + B32 * val r) / B32 = val r := by
      rw [Nat.add_mul_div_left _ _ (by decide), Nat.div_eq_of_lt hd, Nat.zero_add]
    simp only [val]
    rw [e1, e2, hr]

theorem digs_take {ds : List Nat} (h : Digs ds) (n : Nat) : Digs (ds.take n) := fun d hd => h d (List.mem_of_mem_take hd)

theorem list_snoc (ds : List Nat) : ds = [] ∨ ∃ xs d, ds = xs ++ [d] := by
  rcases List.eq_nil_or_concat ds with h | ⟨xs, d, h⟩
  · exact .inl h
  · exact .inr ⟨xs, d, by simpa using h⟩

theorem trimD_eq {ds : List Nat} (h : Digs ds) : trimD ds = dig (val ds) := by
  have key : ∀ n (ds : List Nat), ds.length = n → Digs ds → trimD ds = dig (val ds) := by
    intro n
    induction n with
    | zero => intro ds hn _; have := List.eq_nil_of_length_eq_zero hn; subst this; simp [trimD_nil, val, dig_zero]
    | succ n ih =>
      intro ds hn hd
      rcases list_snoc ds with rfl | ⟨xs, d, rfl⟩
      · simp at hn
      · by_cases h0 : d = 0
        · subst h0
          rw [trimD_zero, ih xs (by simpa using hn) (fun x hx => hd x (by simp [hx])), val_append]
          simp [val]
        · rw [trimD_pos _ h0]
          exact (dig_last hd (fun x hx => by simp at hx; omega)).symm
  exact key _ ds rfl h

theorem dig_length_le {ds : List Nat} (h : Digs ds) : (dig (val ds)).length ≤ ds.length := by
  rw [← trimD_eq h]
  have h1 : ∀ l : List Nat, (l.dropWhile (· == 0)).length ≤ l.length := fun l => (List.dropWhile_sublist _).length_le
  simpa [trimD] using h1 ds.reverse

theorem dig_len_pow {n k : Nat} (h : n < B32 ^ k) : (dig n).length ≤ k := by
  induction k generalizing n with
  | zero => have : n = 0 := by simpa using h
            subst this; rw [dig_zero]; simp
  | succ k ih =>
    by_cases h0 : n = 0
    · subst h0; rw [dig_zero]; simp
    · rw [dig_pos h0, List.length_cons]
      have : n / B32 < B32 ^ k := Nat.div_lt_of_lt_mul (by rw [Nat.pow_succ, Nat.mul_comm] at h; exact h)
      have := ih this
      omega

theorem lt_dig_len (n : Nat) : n < B32 ^ (dig n).length := by
  have := val_lt (digs_dig n)
  rwa [val_dig] at this

theorem dig_inj {a b : Nat} (h : dig a = dig b) : a = b := by rw [← val_dig a, h, val_dig]
theorem dig_eq_nil {n : Nat} : dig n = [] ↔ n = 0 := ⟨fun h => dig_inj (by rw [h, dig_zero]), fun h => by rw [h, dig_zero]⟩
theorem dig_len_pos {n : Nat} : 0 < (dig n).length ↔ n ≠ 0 := by
  rw [List.length_pos_iff]; exact not_congr dig_eq_nil
theorem dig_getLast {n : Nat} : ∀ d, (dig n).getLast? = some d → d ≠ 0 := by
  intro d hd h0
  subst h0
  rcases list_snoc (dig n) with h | ⟨xs, e, h⟩
  · rw [h] at hd; simp at hd
  · rw [h] at hd; simp at hd; subst hd
    have h1 := trimD_eq (digs_dig n)
    rw [val_dig] at h1
    rw [h, trimD_zero] at h1
    have : (trimD xs).length ≤ xs.length := by
      have h1 : ∀ l : List Nat, (l.dropWhile (· == 0)).length ≤ l.length := fun l => (List.dropWhile_sublist _).length_le
      simpa [trimD] using h1 xs.reverse
    rw [h1] at this
    simp at this
    omega
theorem trimD_dig (n : Nat) : trimD (dig n) = dig n := by rw [trimD_eq (digs_dig n), val_dig]

/-- The longer number is the greater one. -/
theorem len_lt {a b : Nat} (h : (dig a).length < (dig b).length) : a < b := by
  rcases Nat.lt_or_ge a b with q | q
  · exact q
  · have := dig_len_pow (n := b) (k := (dig a).length) (Nat.lt_of_le_of_lt q (lt_dig_len a))
    omega

theorem take_snoc_getD {ds : List Nat} {n : Nat} (h0 : 0 < n) (h1 : n ≤ ds.length) : ds.take n = ds.take (n - 1) ++ [ds.getD (n - 1) 0] := by
  have hlt : n - 1 < ds.length := by omega
  have := List.take_succ_eq_append_getElem (l := ds) (i := n - 1) hlt
  rw [show n - 1 + 1 = n by omega] at this
  rw [this, List.getD_eq_getElem?_getD, List.getElem?_eq_getElem hlt]
  rfl
theorem trimD_step {ds : List Nat} {n : Nat} (h : 0 < n ∧ n ≤ ds.length) (h0 : ds.getD (n - 1) 0 = 0) : trimD (ds.take (n - 1)) = trimD (ds.take n) := by
  rw [take_snoc_getD h.1 h.2, h0, trimD_zero]
theorem trimD_stop {ds : List Nat} {n : Nat} (h : 0 < n ∧ n ≤ ds.length) (h0 : ds.getD (n - 1) 0 ≠ 0) : trimD (ds.take n) = ds.take n := by
  rw [take_snoc_getD h.1 h.2, trimD_pos _ h0]

theorem trimD_len (ds : List Nat) : (trimD ds).length ≤ ds.length := by
  have h1 : ∀ l : List Nat, (l.dropWhile (· == 0)).length ≤ l.length := fun l => (List.dropWhile_sublist _).length_le
  simpa [trimD] using h1 ds.reverse
theorem digs_trimD {ds : List Nat} (h : Digs ds) : Digs (trimD ds) := by rw [trimD_eq h]; exact digs_dig _
theorem val_trimD {ds : List Nat} (h : Digs ds) : val (trimD ds) = val ds := by rw [trimD_eq h, val_dig]
theorem trimD_len_zero {ds : List Nat} (h : Digs ds) : (trimD ds).length = 0 ↔ val ds = 0 := by
  rw [trimD_eq h, List.length_eq_zero_iff, dig_eq_nil]

/-- -1, 0 or 1. -/
def cmpN (a b : Nat) : Int := if a < b then -1 else if b < a then 1 else 0

theorem getD_lt {ds : List Nat} (h : Digs ds) (i : Nat) : ds.getD i 0 < 4294967296 := by
  rw [List.getD_eq_getElem?_getD]
  rcases Nat.lt_or_ge i ds.length with q | q
  · rw [List.getElem?_eq_getElem q]; exact h _ (List.getElem_mem q)
  · rw [List.getElem?_eq_none q]; decide

theorem val_split {ds : List Nat} {n : Nat} (h0 : 0 < n) (h1 : n ≤ ds.length) : val ds = val (ds.take (n - 1)) + B32 ^ (n - 1) * (ds.getD (n - 1) 0 + B32 * val (ds.drop n)) := by
  have e : ds = ds.take (n - 1) ++ ds.getD (n - 1) 0 :: ds.drop n := by
    have h2 := take_snoc_getD h0 h1
    have h3 := List.take_append_drop n ds
    rw [h2] at h3
    simpa using h3.symm
  have hl : (ds.take (n - 1)).length = n - 1 := by simp; omega
  conv => lhs; rw [e]
  rw [val_append, hl, val]

theorem val_gt {a b : List Nat} {n : Nat} (ha : Digs a) (hb : Digs b) (h0 : 0 < n) (h1 : n ≤ a.length) (h2 : n ≤ b.length) (h3 : a.drop n = b.drop n) (h4 : b.getD (n - 1) 0 < a.getD (n - 1) 0) : val b < val a := by
  rw [val_split h0 h1, val_split h0 h2, h3]
  have hb2 := val_lt (digs_take hb (n - 1))
  have hl : (b.take (n - 1)).length = n - 1 := by simp; omega
  rw [hl] at hb2
  generalize B32 ^ (n - 1) = P at *
  generalize B32 * val (b.drop n) = V at *
  have : P * (b.getD (n - 1) 0 + V + 1) ≤ P * (a.getD (n - 1) 0 + V) := Nat.mul_le_mul_left _ (by omega)
  rw [Nat.mul_add P _ 1, Nat.mul_one] at this
  omega

theorem cmpN_lt {a b : Nat} (h : a < b) : cmpN a b = -1 := by unfold cmpN; rw [if_pos h]
theorem cmpN_gt {a b : Nat} (h : b < a) : cmpN a b = 1 := by unfold cmpN; rw [if_neg (by omega), if_pos h]
theorem cmpN_eq {a b : Nat} (h : a = b) : cmpN a b = 0 := by unfold cmpN; rw [if_neg (by omega), if_neg (by omega)]

theorem drop_step {a b : List Nat} {n : Nat} (h0 : 0 < n) (h1 : n ≤ a.length) (h2 : n ≤ b.length) (h3 : a.drop n = b.drop n) (h4 : a.getD (n - 1) 0 = b.getD (n - 1) 0) : a.drop (n - 1) = b.drop (n - 1) := by
  rw [List.drop_eq_getElem_cons (show n - 1 < a.length by omega), List.drop_eq_getElem_cons (show n - 1 < b.length by omega)]
  rw [show n - 1 + 1 = n by omega, h3]
  rw [List.getD_eq_getElem?_getD, List.getD_eq_getElem?_getD, List.getElem?_eq_getElem (show n - 1 < a.length by omega), List.getElem?_eq_getElem (show n - 1 < b.length by omega)] at h4
  simp at h4
  rw [h4]

theorem of_digits {n : Int} (h0 : 0 ≤ n) (h1 : n < 18446744073709551616) : trimD [(n % 4294967296).toNat, (n / 4294967296).toNat] = dig n.toNat := by
  have hd : Digs [(n % 4294967296).toNat, (n / 4294967296).toNat] := by
    intro d hd
    simp at hd
    rcases hd with rfl | rfl <;> (simp only [B32]; omega)
  rw [trimD_eq hd]
  congr 1
  simp [val, B32]
  omega

theorem eq_of_drop0 {a b : List Nat} {n : Nat} (h : a.drop n = b.drop n) (h0 : n = 0) : a = b := by subst h0; simpa using h
theorem list0 {l : List Nat} (h : l.length = 0) : l = [] := List.eq_nil_of_length_eq_zero h
theorem list1 {l : List Nat} (h : l.length = 1) : l = [l.getD 0 0] := by match l, h with | [x], _ => rfl
theorem list2 {l : List Nat} (h : l.length = 2) : l = [l.getD 0 0, l.getD 1 0] := by match l, h with | [x, y], _ => rfl
theorem val_len0 {ds : List Nat} (hd : Digs ds) (h : (trimD ds).length = 0) : val ds = 0 := (trimD_len_zero hd).1 h
theorem val_len1 {ds : List Nat} (hd : Digs ds) (h : (trimD ds).length = 1) : val ds = (trimD ds).getD 0 0 := by
  have := val_trimD hd
  rw [list1 h] at this
  simpa [val] using this.symm
theorem val_len2 {ds : List Nat} (hd : Digs ds) (h : (trimD ds).length = 2) : val ds = (trimD ds).getD 0 0 + 4294967296 * (trimD ds).getD 1 0 := by
  have := val_trimD hd
  rw [list2 h] at this
  simpa [val, B32] using this.symm
theorem val_len3 {ds : List Nat} (hd : Digs ds) (h : 2 < (trimD ds).length) : 18446744073709551616 ≤ val ds := by
  rcases Nat.lt_or_ge (val ds) 18446744073709551616 with q | q
  · have := dig_len_pow (n := val ds) (k := 2) (by simpa [B32] using q)
    rw [← trimD_eq hd] at this
    omega
  · exact q

theorem take_set {xs : List Nat} {k d : Nat} (h : k < xs.length) : (xs.set k d).take (k + 1) = xs.take k ++ [d] := by
  rw [List.take_succ_eq_append_getElem (by simpa using h), List.getElem_set_self]
  congr 1
  apply List.ext_getElem?
  intro j
  rw [List.getElem?_take, List.getElem?_take]
  split
  · rw [List.getElem?_set_ne (by omega)]
  · rfl
theorem val_take_succ {xs : List Nat} {k : Nat} (h : k < xs.length) : val (xs.take (k + 1)) = val (xs.take k) + B32 ^ k * xs.getD k 0 := by
  have := take_snoc_getD (ds := xs) (n := k + 1) (by omega) (by omega)
  rw [this, val_append]
  simp [val]; rw [Nat.min_eq_left (by omega)]
theorem val_take_ge {xs : List Nat} {k : Nat} (h : xs.length ≤ k) : val (xs.take k) = val xs := by rw [List.take_of_length_le h]

theorem add_digit {P x y c : Nat} : P * ((x + y + c) % 4294967296) + P * B32 * ((x + y + c) / 4294967296) = P * x + P * y + P * c := by
  have h := Nat.mod_add_div (x + y + c) B32
  simp only [B32] at h ⊢
  rw [Nat.mul_assoc, ← Nat.mul_add, h, Nat.mul_add, Nat.mul_add]

theorem add_step {A B xs : List Nat} {k c : Nat} (hv : val (xs.take k) + B32 ^ k * c = val (A.take k) + val (B.take k)) (hk : k < B.length) (hl : k < A.length ∧ xs.length = A.length + 1) :
    val ((xs.set k ((A.getD k 0 + B.getD k 0 + c) % 4294967296)).take (k + 1)) + B32 ^ (k + 1) * ((A.getD k 0 + B.getD k 0 + c) / 4294967296) = val (A.take (k + 1)) + val (B.take (k + 1)) := by
  rw [take_set (by omega), val_append, val_take_succ hl.1, val_take_succ hk, Nat.pow_succ]
  have hm : (xs.take k).length = k := by simp; omega
  rw [hm]
  simp only [val, Nat.mul_zero, Nat.add_zero]
  have := add_digit (P := B32 ^ k) (x := A.getD k 0) (y := B.getD k 0) (c := c)
  omega
theorem add_step0 {A B xs : List Nat} {k c : Nat} (hv : val (xs.take k) + B32 ^ k * c = val (A.take k) + val (B.take k)) (hB : B.length ≤ k) (hk : k < A.length) (hl : xs.length = A.length + 1) :
    val ((xs.set k ((A.getD k 0 + 0 + c) % 4294967296)).take (k + 1)) + B32 ^ (k + 1) * ((A.getD k 0 + 0 + c) / 4294967296) = val (A.take (k + 1)) + val (B.take (k + 1)) := by
  rw [take_set (by omega), val_append, val_take_succ hk, val_take_ge (xs := B) (by omega), Nat.pow_succ]
  rw [val_take_ge (xs := B) (by omega)] at hv
  have hm : (xs.take k).length = k := by simp; omega
  rw [hm]
  simp only [val, Nat.mul_zero, Nat.add_zero]
  have := add_digit (P := B32 ^ k) (x := A.getD k 0) (y := 0) (c := c)
  simp only [Nat.mul_zero, Nat.add_zero] at this
  omega

theorem val_set_top {xs : List Nat} {n c : Nat} (h : xs.length = n + 1) : val (xs.set n c) = val (xs.take n) + B32 ^ n * c := by
  have h2 : xs.set n c = xs.take n ++ [c] := by
    have := take_set (xs := xs) (k := n) (d := c) (by omega)
    rw [List.take_of_length_le (by simp; omega)] at this
    exact this
  have hm : (xs.take n).length = n := by simp; omega
  rw [h2, val_append, hm]
  simp [val]

end Go.Rt
