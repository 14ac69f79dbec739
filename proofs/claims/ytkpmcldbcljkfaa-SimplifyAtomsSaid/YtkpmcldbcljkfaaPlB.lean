/- Plain mathematics: the digit loops of sums, differences, products and quotients by one digit. Conditions: none. -/
import Derived.Test.YtkpmcldbcljkfaaPlN
set_option linter.unusedVariables false
set_option linter.unusedSimpArgs false
set_option linter.unnecessarySimpa false
namespace Go.Rt

theorem digs_set {xs : List Nat} {k d : Nat} (h : Digs xs) (hd : d < 4294967296) : Digs (xs.set k d) := by
  intro x hx
  rcases List.mem_or_eq_of_mem_set hx with q | q
  · exact h x q
  · subst q; exact hd
theorem digs_rep (n : Nat) : Digs (List.replicate n 0) := by
  intro x hx; rw [List.mem_replicate] at hx; rw [hx.2]; decide
theorem val_rep (n : Nat) : val (List.replicate n 0) = 0 := by
  induction n with
  | zero => rfl
  | succ n ih => rw [List.replicate_succ, val, ih, Nat.mul_zero]
theorem digs_drop {ds : List Nat} (h : Digs ds) (n : Nat) : Digs (ds.drop n) := fun d hd => h d (List.mem_of_mem_drop hd)

theorem val_set {xs : List Nat} {k d : Nat} (h : k < xs.length) : val (xs.set k d) + B32 ^ k * xs.getD k 0 = val xs + B32 ^ k * d := by
  have e1 : xs.set k d = xs.take k ++ d :: xs.drop (k + 1) := List.set_eq_take_append_cons_drop .. |>.trans (by rw [if_pos h])
  have e2 : xs = xs.take k ++ xs.getD k 0 :: xs.drop (k + 1) := by
    have := List.take_append_drop k xs
    rw [List.drop_eq_getElem_cons h] at this
    rw [List.getD_eq_getElem?_getD, List.getElem?_eq_getElem h]
    simpa using this.symm
  have hm : (xs.take k).length = k := by simp; omega
  have v1 : val (xs.set k d) = val (xs.take k) + B32 ^ k * (d + B32 * val (xs.drop (k + 1))) := by rw [e1, val_append, hm, val]
  have v2 : val xs = val (xs.take k) + B32 ^ k * (xs.getD k 0 + B32 * val (xs.drop (k + 1))) := by
    conv => lhs; rw [e2]
    rw [val_append, hm, val]
  rw [v1, v2, Nat.mul_add, Nat.mul_add]
  omega

theorem digD_set {xs : List Nat} {k d j : Nat} : (xs.set k d).getD j 0 = if k = j ∧ j < xs.length then d else xs.getD j 0 := by
  rw [List.getD_eq_getElem?_getD, List.getD_eq_getElem?_getD, List.getElem?_set]
  by_cases h : k = j
  · subst h
    by_cases h2 : k < xs.length
    · simp [h2]
    · simp [h2]
  · simp [h]

theorem add_done {A B xs a b : List Nat} {k c : Nat} (hxs : xs.length = A.length + 1) (hv : val (xs.take k) + B32 ^ k * c = val (A.take k) + val (B.take k)) (hk : k = A.length) (hB : B.length ≤ k) (hd : Digs xs) (hc : c ≤ 1) (hAB : val A + val B = val a + val b) :
    trimD (xs.set A.length c) = dig (val a + val b) := by
  subst hk
  rw [trimD_eq (digs_set hd (by omega)), val_set_top hxs, hv, val_take_ge (xs := A) (by omega), val_take_ge (xs := B) (by omega), hAB]

theorem sub_digitM {M P x y w : Nat} (hx : x < M) (hy : y < M) (hw : w ≤ 1) :
    P * ((x + M - y - w) % M) + P * y + P * w = P * x + P * M * (if x < y + w then 1 else 0) := by
  split
  · have e : (x + M - y - w) % M = x + M - y - w := Nat.mod_eq_of_lt (by omega)
    rw [e, Nat.mul_one, ← Nat.mul_add, ← Nat.mul_add, ← Nat.mul_add]
    congr 1
    omega
  · have e : (x + M - y - w) % M = x - y - w := by
      have e1 : x + M - y - w = x - y - w + M := by omega
      rw [e1, Nat.add_mod_right, Nat.mod_eq_of_lt (by omega)]
    rw [e, Nat.mul_zero, Nat.add_zero, ← Nat.mul_add, ← Nat.mul_add]
    congr 1
    omega
theorem sub_digit {P x y w : Nat} (hx : x < 4294967296) (hy : y < 4294967296) (hw : w ≤ 1) :
    P * ((x + 4294967296 - y - w) % 4294967296) + P * y + P * w = P * x + P * B32 * (if x < y + w then 1 else 0) := sub_digitM hx hy hw

theorem val_take_getD {xs : List Nat} (k : Nat) : val (xs.take (k + 1)) = val (xs.take k) + B32 ^ k * xs.getD k 0 := by
  rcases Nat.lt_or_ge k xs.length with q | q
  · exact val_take_succ q
  · rw [val_take_ge (by omega), val_take_ge q, List.getD_eq_getElem?_getD, List.getElem?_eq_none q]; simp

theorem sub_stepG {A B xs : List Nat} {k w d q : Nat} (hv : val (xs.take k) + val (B.take k) = val (A.take k) + B32 ^ k * w) (hk : k < xs.length)
    (h : B32 ^ k * d + B32 ^ k * B.getD k 0 + B32 ^ k * w = B32 ^ k * A.getD k 0 + B32 ^ k * B32 * q) :
    val ((xs.set k d).take (k + 1)) + val (B.take (k + 1)) = val (A.take (k + 1)) + B32 ^ (k + 1) * q := by
  rw [take_set hk, val_append, val_take_getD (xs := A), val_take_getD (xs := B), Nat.pow_succ]
  have hm : (xs.take k).length = k := by simp; omega
  rw [hm]
  simp only [val, Nat.mul_zero, Nat.add_zero]
  omega
theorem sub_step {A B xs : List Nat} {k w : Nat} (hA : Digs A) (hB : Digs B) (hv : val (xs.take k) + val (B.take k) = val (A.take k) + B32 ^ k * w) (hk : k < xs.length) (hw : w ≤ 1) :
    val ((xs.set k ((A.getD k 0 + 4294967296 - B.getD k 0 - w) % 4294967296)).take (k + 1)) + val (B.take (k + 1)) = val (A.take (k + 1)) + B32 ^ (k + 1) * (if A.getD k 0 < B.getD k 0 + w then 1 else 0) :=
  sub_stepG hv hk (sub_digit (getD_lt hA k) (getD_lt hB k) hw)

theorem sub_done {A B xs a b : List Nat} {k w : Nat} (hxs : xs.length = A.length) (hv : val (xs.take k) + val (B.take k) = val (A.take k) + B32 ^ k * w) (hk : k = A.length) (hB : B.length ≤ A.length) (hd : Digs xs) (ha : val A = val a) (hb : val B = val b) (h : val b ≤ val a) :
    trimD xs = dig (val a - val b) := by
  subst hk
  rw [val_take_ge (xs := A) (by omega), val_take_ge (xs := B) hB, val_take_ge (xs := xs) (by omega)] at hv
  have hx := val_lt hd
  rw [hxs] at hx
  have hw : w = 0 := by
    rcases Nat.eq_zero_or_pos w with q | q
    · exact q
    · have : B32 ^ A.length * 1 ≤ B32 ^ A.length * w := Nat.mul_le_mul_left _ q
      omega
  subst hw
  rw [trimD_eq hd]
  congr 1
  omega

theorem mul_digit {P r x y c : Nat} : P * ((r + x * y + c) % 4294967296) + P * B32 * ((r + x * y + c) / 4294967296) = P * r + P * (x * y) + P * c := by
  have h := Nat.mod_add_div (r + x * y + c) B32
  simp only [B32] at h ⊢
  rw [Nat.mul_assoc, ← Nat.mul_add, h, Nat.mul_add, Nat.mul_add]

theorem mul_bound {r x y c : Nat} (hr : r < 4294967296) (hx : x < 4294967296) (hy : y < 4294967296) (hc : c < 4294967296) : (r + x * y + c) / 4294967296 < 4294967296 := by
  have h1 : x * y ≤ 4294967295 * 4294967295 := Nat.mul_le_mul (by omega) (by omega)
  omega

/-- One digit of the inner loop of a product. -/
theorem mul_step {B xs ys : List Nat} {i k c x : Nat} (hv : val ys + B32 ^ (i + k) * c = val xs + B32 ^ i * (x * val (B.take k))) (hk : i + k < ys.length) :
    val (ys.set (i + k) ((ys.getD (i + k) 0 + x * B.getD k 0 + c) % 4294967296)) + B32 ^ (i + (k + 1)) * ((ys.getD (i + k) 0 + x * B.getD k 0 + c) / 4294967296) = val xs + B32 ^ i * (x * val (B.take (k + 1))) := by
  have h1 := val_set (d := (ys.getD (i + k) 0 + x * B.getD k 0 + c) % 4294967296) hk
  have h2 := mul_digit (P := B32 ^ (i + k)) (r := ys.getD (i + k) 0) (x := x) (y := B.getD k 0) (c := c)
  rw [val_take_getD, Nat.mul_add, Nat.mul_add, ← Nat.add_assoc i k 1, Nat.pow_succ]
  have e : B32 ^ i * (x * (B32 ^ k * B.getD k 0)) = B32 ^ (i + k) * (x * B.getD k 0) := by
    rw [Nat.pow_add, Nat.mul_left_comm x, Nat.mul_assoc]
  rw [e]
  omega

theorem mul_top {xs ys B : List Nat} {A : List Nat} {i c : Nat} (hv : val ys + B32 ^ (i + B.length) * c = val xs + B32 ^ i * (A.getD i 0 * val B)) (hx : val xs = val (A.take i) * val B) (h0 : ys.getD (i + B.length) 0 = 0) (hl : i + B.length < ys.length) :
    val (ys.set (i + B.length) c) = val (A.take (i + 1)) * val B := by
  have h1 := val_set (d := c) hl
  rw [h0, Nat.mul_zero, Nat.add_zero] at h1
  rw [h1, hv, hx, val_take_getD, Nat.add_mul, Nat.mul_assoc]

theorem val_zero_getD {xs : List Nat} {A B : List Nat} {i : Nat} (hx : val xs = val (A.take i) * val B) (h : A.getD i 0 = 0) : val xs = val (A.take (i + 1)) * val B := by
  rw [val_take_getD, h, Nat.mul_zero, Nat.add_zero, hx]

/-- One digit of a quotient by one digit. -/
theorem divs_step {A xs : List Nat} {n d r : Nat} (hv : val (A.drop n) = d * val (xs.drop n) + r) (h0 : 0 < n) (h1 : n ≤ A.length) (h2 : xs.length = A.length) :
    val (A.drop (n - 1)) = d * val ((xs.set (n - 1) ((r * 4294967296 + A.getD (n - 1) 0) / d)).drop (n - 1)) + (r * 4294967296 + A.getD (n - 1) 0) % d := by
  have eA : A.drop (n - 1) = A.getD (n - 1) 0 :: A.drop n := by
    rw [List.drop_eq_getElem_cons (by omega), show n - 1 + 1 = n by omega, List.getD_eq_getElem?_getD, List.getElem?_eq_getElem (by omega)]; rfl
  have eX : (xs.set (n - 1) ((r * 4294967296 + A.getD (n - 1) 0) / d)).drop (n - 1) = (r * 4294967296 + A.getD (n - 1) 0) / d :: xs.drop n := by
    rw [List.drop_eq_getElem_cons (by simp; omega), List.getElem_set_self, show n - 1 + 1 = n by omega]
    congr 1
    rw [List.drop_set_of_lt (by omega)]
  rw [eA, eX, val, val, hv, Nat.mul_add, Nat.mul_add]
  have := Nat.div_add_mod (r * 4294967296 + A.getD (n - 1) 0) d
  have e : B32 * (d * val (xs.drop n)) = d * (B32 * val (xs.drop n)) := Nat.mul_left_comm ..
  simp only [B32] at *
  omega

theorem divs_digit {r a d : Nat} (hr : r < d) (ha : a < 4294967296) : (r * 4294967296 + a) / d < 4294967296 := by
  rw [Nat.div_lt_iff_lt_mul (by omega)]
  have : (r + 1) * 4294967296 ≤ 4294967296 * d := by rw [Nat.mul_comm]; exact Nat.mul_le_mul_left _ hr
  omega

theorem divs_done {A xs a : List Nat} {n d r : Nat} (hv : val (A.drop n) = d * val (xs.drop n) + r) (h0 : n = 0) (hr : r < d) (hd : Digs xs) (ha : val A = val a) :
    trimD xs = dig (val a / d) ∧ r = val a % d := by
  subst h0
  simp only [List.drop_zero] at hv
  rw [ha] at hv
  have h1 : val a / d = val xs := by rw [hv, Nat.mul_add_div (by omega), Nat.div_eq_of_lt hr, Nat.add_zero]
  have h2 : val a % d = r := by rw [hv, Nat.mul_add_mod, Nat.mod_eq_of_lt hr]
  rw [trimD_eq hd, h1, h2]
  exact ⟨rfl, rfl⟩

theorem cmpN_neg {a b : Nat} (h : cmpN a b < 0) : a < b := by
  unfold cmpN at h; split at h
  · assumption
  · split at h <;> omega
theorem cmpN_nonneg {a b : Nat} (h : ¬ cmpN a b < 0) : b ≤ a := by
  unfold cmpN at h; split at h <;> omega
theorem dig_len_mono {a b : Nat} (h : a ≤ b) : (dig a).length ≤ (dig b).length := dig_len_pow (Nat.lt_of_le_of_lt h (lt_dig_len b))
theorem getD_ge {xs : List Nat} {k : Nat} (h : xs.length ≤ k) : xs.getD k 0 = 0 := by rw [List.getD_eq_getElem?_getD, List.getElem?_eq_none h]; rfl
theorem getD_rep (n j : Nat) : (List.replicate n 0).getD j 0 = 0 := by
  rw [List.getD_eq_getElem?_getD, List.getElem?_replicate]; split <;> rfl
theorem mul_zero_or {a b : Nat} (h : a = 0 ∨ b = 0) : dig (a * b) = [] := by
  rcases h with rfl | rfl
  · rw [Nat.zero_mul, dig_zero]
  · rw [Nat.mul_zero, dig_zero]
theorem nat_cast_toNat {d : Int} (h : 0 ≤ d) : ((d.toNat : Nat) : Int) = d := Int.toNat_of_nonneg h
theorem mod_nat {r a : Nat} {d : Int} (h : 0 ≤ d) : ((((r * 4294967296 + a) % d.toNat : Nat) : Int)) = ((r : Int) * 4294967296 + (a : Int)) % d := by
  rw [Int.natCast_emod, Int.natCast_add, Int.natCast_mul, nat_cast_toNat h]; rfl
theorem div_nat {r a : Nat} {d : Int} (h : 0 ≤ d) : (((r : Int) * 4294967296 + (a : Int)) / d).toNat = (r * 4294967296 + a) / d.toNat := by
  have e : ((((r * 4294967296 + a) / d.toNat : Nat) : Int)) = ((r : Int) * 4294967296 + (a : Int)) / d := by
    rw [Int.natCast_ediv, Int.natCast_add, Int.natCast_mul, nat_cast_toNat h]; rfl
  rw [← e, Int.toNat_natCast]
theorem div_nat0 {z d : Int} (h : 0 ≤ z ∧ 0 ≤ d) : 0 ≤ z / d := Int.ediv_nonneg h.1 h.2
theorem div_lt {r a d : Int} (h : 0 ≤ r) (h1 : r < d) (h2 : a < 4294967296) : (r * 4294967296 + a) / d < 4294967296 := by
  rw [Int.ediv_lt_iff_lt_mul (by omega)]
  have : (r + 1) * 4294967296 ≤ 4294967296 * d := by rw [Int.mul_comm]; exact Int.mul_le_mul_of_nonneg_left h1 (by decide)
  omega

theorem digAtN {xs : List Nat} {j : Nat} (h2 : j < xs.length) : xs[j]? = some (xs.getD j 0) := by
  simp [List.getD_eq_getElem?_getD, List.getElem?_eq_getElem h2]

end Go.Rt
