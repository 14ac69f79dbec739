/- Plain mathematics: long division by several digits. Conditions: none. -/
import Derived.Test.YtkpmcldbcljkfaaPlB
set_option linter.unusedVariables false
set_option linter.unusedSimpArgs false
namespace Go.Rt

theorem val_cut (u : List Nat) {j : Nat} (h : j ≤ u.length) : val u = val (u.take j) + B32 ^ j * val (u.drop j) := by
  have e := val_append (u.take j) (u.drop j)
  rw [List.take_append_drop] at e
  have : (u.take j).length = j := by simp; omega
  rw [this] at e; exact e
theorem val_drop1 (u : List Nat) (j : Nat) : val (u.drop j) = u.getD j 0 + B32 * val (u.drop (j + 1)) := by
  rcases Nat.lt_or_ge j u.length with h | h
  · rw [List.drop_eq_getElem_cons h, val]; simp [List.getD_eq_getElem?_getD, List.getElem?_eq_getElem h]
  · rw [List.drop_of_length_le h, List.drop_of_length_le (by omega), getD_ge h]; rfl
theorem pow_pos' (n : Nat) : 0 < B32 ^ n := Nat.pow_pos (by decide)
theorem val_take_lt {u : List Nat} (h : Digs u) (j : Nat) : val (u.take j) < B32 ^ j := by
  have h1 := val_lt (digs_take h j)
  have h2 : (u.take j).length ≤ j := by simp; omega
  exact Nat.lt_of_lt_of_le h1 (Nat.pow_le_pow_right (by decide) h2)
theorem digs_at {u : List Nat} (h : Digs u) (j : Nat) : u.getD j 0 < 4294967296 := by
  rcases Nat.lt_or_ge j u.length with q | q
  · exact h _ (List.mem_of_getElem? (digAtN q))
  · rw [getD_ge q]; decide
theorem val_drop_same {U u : List Nat} (hl : U.length = u.length) {t : Nat} (h : ∀ i, t ≤ i → U.getD i 0 = u.getD i 0) : val (U.drop t) = val (u.drop t) := by
  have key : ∀ m t, u.length - t ≤ m → (∀ i, t ≤ i → U.getD i 0 = u.getD i 0) → val (U.drop t) = val (u.drop t) := by
    intro m
    induction m with
    | zero => intro t ht _; rw [List.drop_of_length_le (by omega), List.drop_of_length_le (by omega)]
    | succ m ih =>
      intro t ht h
      rcases Nat.lt_or_ge t u.length with q | q
      · rw [val_drop1 U t, val_drop1 u t, h t (Nat.le_refl _), ih (t + 1) (by omega) fun i hi => h i (by omega)]
      · rw [List.drop_of_length_le (by omega), List.drop_of_length_le (by omega)]
  exact key _ t (Nat.le_refl _) h

/-! ### The guess of one digit -/
theorem guess_big {g top next rest u2 u3 V w E : Nat} (hg : g * top + rest = u2) (hV : (top * 4294967296 + next) * E ≤ V) (hw : w < (u2 * 4294967296 + u3 + 1) * E) (hq : w < V * 4294967296)
    (hc : 4294967296 ≤ g ∨ rest * 4294967296 + u3 < g * next) : w < g * V := by
  rcases hc with h | h
  · have : V * 4294967296 ≤ V * g := Nat.mul_le_mul_left V h
    rw [Nat.mul_comm V g] at this; omega
  · have h1 : u2 * 4294967296 + u3 + 1 ≤ g * (top * 4294967296 + next) := by
      have e : g * (top * 4294967296 + next) = (g * top) * 4294967296 + g * next := by rw [Nat.mul_add, Nat.mul_assoc]
      rw [e]; omega
    have h2 := Nat.mul_le_mul_right E h1
    have h3 := Nat.mul_le_mul_left g hV
    rw [← Nat.mul_assoc] at h3
    omega
theorem guess_ok {g top next rest u2 u3 V w E : Nat} (hg : g * top + rest = u2) (hV : (top * 4294967296 + next) * E ≤ V) (hV2 : V < (top * 4294967296 + next + 1) * E) (hw : (u2 * 4294967296 + u3) * E ≤ w) (ht : 0 < top) (hE : 0 < E) (hb : g < 4294967296)
    (hc : g * next ≤ rest * 4294967296 + u3) : g * V < w + V := by
  have hVp : 4294967296 * E ≤ V := by
    have h1 : 4294967296 ≤ top * 4294967296 + next := by omega
    exact Nat.le_trans (Nat.mul_le_mul_right E h1) hV
  rcases Nat.eq_zero_or_pos g with h | h
  · subst h; have : 0 < 4294967296 * E := Nat.mul_pos (by decide) hE; omega
  · have h1 : g * V < g * ((top * 4294967296 + next + 1) * E) := Nat.mul_lt_mul_of_pos_left hV2 h
    have h2 : g * ((top * 4294967296 + next + 1) * E) = (g * (top * 4294967296 + next)) * E + g * E := by grind
    have h3 : g * (top * 4294967296 + next) ≤ u2 * 4294967296 + u3 := by
      have e : g * (top * 4294967296 + next) = (g * top) * 4294967296 + g * next := by rw [Nat.mul_add, Nat.mul_assoc]
      rw [e]; omega
    have h4 := Nat.mul_le_mul_right E h3
    have h5 : g * E ≤ 4294967296 * E := Nat.mul_le_mul_right E (Nat.le_of_lt hb)
    omega
theorem guess_brk {g next rest u3 : Nat} (hn : next < 4294967296) (hb : g < 4294967296) (hr : 4294967296 ≤ rest) : g * next ≤ rest * 4294967296 + u3 := by
  have h1 : g * next ≤ 4294967296 * 4294967296 := Nat.mul_le_mul (Nat.le_of_lt hb) (Nat.le_of_lt hn)
  have h2 : 4294967296 * 4294967296 ≤ rest * 4294967296 := Nat.mul_le_mul_right _ hr
  omega
theorem guess_lt {g top rest u2 : Nat} (hg : g * top + rest = u2) (hu : u2 < (top + 1) * 4294967296) (hr : 4294967296 ≤ rest) : g < 4294967296 := by
  rcases Nat.lt_or_ge g 4294967296 with h | h
  · exact h
  · have := Nat.mul_le_mul_right top h
    rw [Nat.add_mul, Nat.mul_comm top] at hu
    omega
theorem guess_u2 {top next u2 u3 V w E : Nat} (hV2 : V < (top * 4294967296 + next + 1) * E) (hw : (u2 * 4294967296 + u3) * E ≤ w) (hq : w < V * 4294967296) (hn : next < 4294967296) (hE : 0 < E) : u2 < (top + 1) * 4294967296 := by
  rcases Nat.lt_or_ge u2 ((top + 1) * 4294967296) with h | h
  · exact h
  · exfalso
    have h1 : (top * 4294967296 + next + 1) * 4294967296 ≤ u2 * 4294967296 + u3 := by
      have : top * 4294967296 + next + 1 ≤ (top + 1) * 4294967296 := by rw [Nat.add_mul]; omega
      exact Nat.le_trans (Nat.mul_le_mul_right 4294967296 (Nat.le_trans this h)) (Nat.le_add_right _ _)
    have h2 := Nat.mul_le_mul_right E h1
    have h3 : (top * 4294967296 + next + 1) * 4294967296 * E = (top * 4294967296 + next + 1) * E * 4294967296 := by grind
    omega

/-! ### The state between the digits -/
structure KInv (a0 : Nat) (v u q : List Nat) (n m k : Nat) : Prop where
  lu : u.length = m + n
  lq : q.length = m
  du : Digs u
  dq : Digs q
  hk : k ≤ m
  eq : val v * val q + val u = a0
  lt : val u < val v * B32 ^ k
  z : ∀ i, i < k → q.getD i 0 = 0

theorem val_v {v : List Nat} {n : Nat} (hl : v.length = n + 2) (hd : Digs v) : (v.getD (n + 1) 0 * 4294967296 + v.getD n 0) * B32 ^ n ≤ val v ∧ val v < (v.getD (n + 1) 0 * 4294967296 + v.getD n 0 + 1) * B32 ^ n := by
  have e := val_cut v (j := n) (by omega)
  rw [val_drop1 v n, val_drop1 v (n + 1), List.drop_of_length_le (show v.length ≤ n + 1 + 1 by omega)] at e
  have hlt := val_take_lt hd n
  simp only [val, Nat.mul_zero, Nat.add_zero] at e
  have e2 : B32 ^ n * (v.getD n 0 + B32 * v.getD (n + 1) 0) = (v.getD (n + 1) 0 * 4294967296 + v.getD n 0) * B32 ^ n := by simp only [B32]; grind
  rw [e2] at e
  refine ⟨by omega, ?_⟩
  rw [Nat.add_mul (v.getD (n + 1) 0 * 4294967296 + v.getD n 0) 1]
  omega

section
variable {a0 : Nat} {v u q : List Nat} {n m k : Nat}

theorem KInv.w_lt (h : KInv a0 v u q n m (k + 1)) : val (u.drop k) < val v * 4294967296 := by
  have e := val_cut u (j := k) (by have := h.lu; have := h.hk; omega)
  have hl := h.lt
  rw [Nat.pow_succ, ← Nat.mul_assoc, Nat.mul_comm (val v) (B32 ^ k), Nat.mul_assoc] at hl
  have h2 : B32 ^ k * val (u.drop k) < B32 ^ k * (val v * B32) := by omega
  exact Nat.lt_of_mul_lt_mul_left h2

theorem KInv.top0 (h : KInv a0 v u q n m (k + 1)) (hv : v.length = n) (hd : Digs v) : val (u.drop (k + n + 1)) = 0 := by
  have hw := h.w_lt
  have hV := val_lt hd
  rw [hv] at hV
  have hl : k + n + 1 ≤ u.length := by have := h.lu; have := h.hk; omega
  have e := val_cut (u.drop k) (j := n + 1) (by simp; omega)
  rw [List.drop_drop, show k + (n + 1) = k + n + 1 by omega] at e
  rcases Nat.eq_zero_or_pos (val (u.drop (k + n + 1))) with q | q
  · exact q
  · exfalso
    have h1 : B32 ^ (n + 1) * 1 ≤ B32 ^ (n + 1) * val (u.drop (k + n + 1)) := Nat.mul_le_mul_left _ q
    have h2 : val v * 4294967296 < B32 ^ n * 4294967296 := Nat.mul_lt_mul_of_pos_right hV (by decide)
    have h3 : B32 ^ (n + 1) = B32 ^ n * 4294967296 := Nat.pow_succ ..
    omega

theorem KInv.w (h : KInv a0 v u q (n + 2) m (k + 1)) (hv : v.length = n + 2) (hd : Digs v) :
    ((u.getD (k + (n + 2)) 0 * 4294967296 + u.getD (k + n + 1) 0) * 4294967296 + u.getD (k + n) 0) * B32 ^ n ≤ val (u.drop k) ∧
    val (u.drop k) < ((u.getD (k + (n + 2)) 0 * 4294967296 + u.getD (k + n + 1) 0) * 4294967296 + u.getD (k + n) 0 + 1) * B32 ^ n := by
  have h0 := h.top0 hv hd
  have hl : k + n + 3 ≤ u.length := by have := h.lu; have := h.hk; omega
  have e := val_cut (u.drop k) (j := n) (by simp; omega)
  rw [List.drop_drop, val_drop1 u (k + n), val_drop1 u (k + n + 1), val_drop1 u (k + n + 1 + 1), show k + n + 1 + 1 + 1 = k + (n + 2) + 1 by omega, h0, show k + n + 1 + 1 = k + (n + 2) by omega] at e
  have hlt : val ((u.drop k).take n) < B32 ^ n := val_take_lt (digs_drop h.du k) n
  have e2 : B32 ^ n * (u.getD (k + n) 0 + B32 * (u.getD (k + n + 1) 0 + B32 * (u.getD (k + (n + 2)) 0 + B32 * 0))) = ((u.getD (k + (n + 2)) 0 * 4294967296 + u.getD (k + n + 1) 0) * 4294967296 + u.getD (k + n) 0) * B32 ^ n := by simp only [B32]; grind
  rw [e2] at e
  refine ⟨by omega, ?_⟩
  rw [Nat.add_mul ((u.getD (k + (n + 2)) 0 * 4294967296 + u.getD (k + n + 1) 0) * 4294967296 + u.getD (k + n) 0) 1]
  omega

/-- One digit is found. -/
theorem KInv.step (h : KInv a0 v u q n m (k + 1)) {U : List Nat} {Q : Nat} (hl : U.length = u.length) (hd : Digs U) (hQ : Q = val (u.drop k) / val v) (he : val U + Q * val v * B32 ^ k = val u) (hp : 0 < val v) : KInv a0 v U (q.set k Q) n m k := by
  have hk := h.hk
  have hlu := h.lu
  have hw := h.w_lt
  have hQb : Q < 4294967296 := by rw [hQ]; exact Nat.div_lt_of_lt_mul hw
  refine ⟨hl.trans h.lu, by simp [h.lq], hd, digs_set h.dq hQb, by omega, ?_, ?_, fun i hi => ?_⟩
  · have e := val_set (xs := q) (k := k) (d := Q) (by have := h.lq; omega)
    rw [h.z k (by omega), Nat.mul_zero, Nat.add_zero] at e
    rw [e, ← h.eq, ← he]
    grind
  · have e := val_cut u (j := k) (by omega)
    have ht := val_take_lt h.du k
    have hm := Nat.mod_lt (val (u.drop k)) hp
    have hdm := Nat.div_add_mod (val (u.drop k)) (val v)
    rw [← hQ] at hdm
    have e2 : B32 ^ k * val (u.drop k) = Q * val v * B32 ^ k + val (u.drop k) % val v * B32 ^ k := by rw [← hdm]; grind
    have h3 : (val (u.drop k) % val v + 1) * B32 ^ k ≤ val v * B32 ^ k := Nat.mul_le_mul_right _ hm
    rw [Nat.add_mul] at h3
    omega
  · rw [digD_set, if_neg (by omega)]; exact h.z i (by omega)

/-! ### A digit of a difference, in 64 bits -/
def tN (a s : Nat) : Nat := if a < s then a + 18446744073709551616 - s else a - s
theorem tN_digit {a s : Nat} (ha : a < 4294967296) (hs : s ≤ 4294967296) : tN a s % 4294967296 + s = a + 4294967296 * (tN a s / 9223372036854775808) := by
  unfold tN; split <;> omega
theorem tN_sign {a s : Nat} (ha : a < 4294967296) (hs : s ≤ 4294967296) : tN a s / 9223372036854775808 = if a < s then 1 else 0 := by
  unfold tN; split <;> omega
theorem tN_lt {a s : Nat} (ha : a < 4294967296) (hs : s ≤ 4294967296) : tN a s < 18446744073709551616 ∧ tN a s / 9223372036854775808 ≤ 1 := by
  unfold tN; split <;> omega

/-- The product of the guess and the first i digits of v is taken off. -/
structure MInv (u v : List Nat) (g k i : Nat) (U : List Nat) (c b : Nat) : Prop where
  lU : U.length = u.length
  dU : Digs U
  same : ∀ t, t < k ∨ k + i ≤ t → U.getD t 0 = u.getD t 0
  hc : c < 4294967296
  hb : b ≤ 1
  eq : val U + g * val (v.take i) * B32 ^ k = val u + (b + c) * B32 ^ (k + i)

theorem MInv.start (hd : Digs u) {g : Nat} : MInv u v g k 0 u 0 0 := ⟨rfl, hd, fun _ _ => rfl, by decide, by decide, by simp [val]⟩
theorem MInv.p_lt {g i c b : Nat} {U : List Nat} (h : MInv u v g k i U c b) (hg : g < 4294967296) (hv : Digs v) : g * v.getD i 0 + c < 18446744073709551616 ∧ (g * v.getD i 0 + c) / 4294967296 < 4294967296 := by
  have hx := digs_at hv i
  have hc := h.hc
  have h1 : g * v.getD i 0 ≤ 4294967295 * 4294967295 := Nat.mul_le_mul (by omega) (by omega)
  constructor <;> omega
theorem MInv.next {g i c b : Nat} {U : List Nat} (h : MInv u v g k i U c b) (hg : g < 4294967296) (hv : Digs v) (hi : i < v.length) (hk : k + i < u.length) :
    MInv u v g k (i + 1) (U.set (k + i) (tN (U.getD (k + i) 0) (b + (g * v.getD i 0 + c) % 4294967296) % 4294967296)) ((g * v.getD i 0 + c) / 4294967296) (tN (U.getD (k + i) 0) (b + (g * v.getD i 0 + c) % 4294967296) / 9223372036854775808) := by
  have ha := digs_at h.dU (k + i)
  have hb := h.hb
  have hs : b + (g * v.getD i 0 + c) % 4294967296 ≤ 4294967296 := by omega
  have hp := h.p_lt hg hv
  refine ⟨by simp [h.lU], digs_set h.dU (Nat.mod_lt _ (by decide)), fun t ht => ?_, hp.2, (tN_lt ha hs).2, ?_⟩
  · rw [digD_set, if_neg (by omega)]; exact h.same t (by omega)
  · have e := val_set (xs := U) (k := k + i) (d := tN (U.getD (k + i) 0) (b + (g * v.getD i 0 + c) % 4294967296) % 4294967296) (by have := h.lU; omega)
    have e1 := tN_digit ha hs
    have e2 := h.eq
    have e3 := val_take_succ (xs := v) (k := i) hi
    have e4 := Nat.mod_add_div (g * v.getD i 0 + c) 4294967296
    rw [e3]
    have e5 : B32 ^ (k + (i + 1)) = B32 ^ k * B32 ^ i * 4294967296 := by rw [show k + (i + 1) = (k + i) + 1 by omega, Nat.pow_succ, Nat.pow_add]
    have e6 : B32 ^ (k + i) = B32 ^ k * B32 ^ i := Nat.pow_add ..
    rw [e5]
    rw [e6] at e e2
    generalize B32 ^ k = P at *
    generalize B32 ^ i = R at *
    generalize tN (U.getD (k + i) 0) (b + (g * v.getD i 0 + c) % 4294967296) % 4294967296 = td at *
    generalize tN (U.getD (k + i) 0) (b + (g * v.getD i 0 + c) % 4294967296) / 9223372036854775808 = tb at *
    generalize (g * v.getD i 0 + c) / 4294967296 = c' at *
    generalize hlo : (g * v.getD i 0 + c) % 4294967296 = lo at *
    generalize val (U.set (k + i) td) = W at *
    generalize U.getD (k + i) 0 = a at *
    generalize v.getD i 0 = x at *
    generalize val (v.take i) = y at *
    generalize val U = z at *
    have e7 : W + P * R * a + (z + g * y * P) + g * x * (P * R) + (b + lo) * (P * R) + c * (P * R) = z + P * R * td + (val u + (b + c) * (P * R)) + g * x * (P * R) + (b + lo) * (P * R) + c * (P * R) := by rw [e, e2]
    have e8 : P * R * td + (b + lo) * (P * R) = P * R * (a + 4294967296 * tb) := by rw [← e1]; grind
    have e9 : g * x * (P * R) + c * (P * R) = lo * (P * R) + 4294967296 * c' * (P * R) := by rw [← Nat.add_mul, ← Nat.add_mul, e4]
    grind

/-- The whole product is taken off; behind the top digit all is zero. -/
theorem MInv.top {g c b : Nat} {U : List Nat} (h : MInv u v g k v.length U c b) (hk : k + v.length < u.length) :
    val (U.set (k + v.length) (tN (U.getD (k + v.length) 0) (b + c) % 4294967296)) + g * val v * B32 ^ k = val u + B32 ^ (k + v.length + 1) * (tN (U.getD (k + v.length) 0) (b + c) / 9223372036854775808) := by
  have ha := digs_at h.dU (k + v.length)
  have hb := h.hb
  have hc := h.hc
  have hs : b + c ≤ 4294967296 := by omega
  have e := val_set (xs := U) (k := k + v.length) (d := tN (U.getD (k + v.length) 0) (b + c) % 4294967296) (by have := h.lU; omega)
  have e1 := tN_digit ha hs
  have e2 := h.eq
  rw [List.take_length] at e2
  rw [Nat.pow_succ]
  generalize B32 ^ (k + v.length) = R at *
  generalize tN (U.getD (k + v.length) 0) (b + c) % 4294967296 = td at *
  generalize tN (U.getD (k + v.length) 0) (b + c) / 9223372036854775808 = tb at *
  generalize val (U.set (k + v.length) td) = W at *
  generalize U.getD (k + v.length) 0 = a at *
  have e8 : R * td + (b + c) * R = R * a + R * 4294967296 * tb := by
    have : R * (td + (b + c)) = R * (a + 4294967296 * tb) := by rw [e1]
    grind
  have e9 : R * B32 * tb = R * 4294967296 * tb := rfl
  omega

/-- The guess was right. -/
theorem K_yes {g : Nat} {U : List Nat} (h : KInv a0 v u q n m (k + 1)) (he : val U + g * val v * B32 ^ k = val u) (hlo : val (u.drop k) < (g + 1) * val v) (hp : 0 < val v) : g = val (u.drop k) / val v := by
  have e := val_cut u (j := k) (by have := h.lu; have := h.hk; omega)
  have ht := val_take_lt h.du k
  have h1 : g * val v ≤ val (u.drop k) := by
    have h2 : B32 ^ k * (g * val v) < B32 ^ k * (val (u.drop k) + 1) := by
      rw [Nat.mul_add, Nat.mul_one, Nat.mul_comm (B32 ^ k) (g * val v)]; omega
    have := Nat.lt_of_mul_lt_mul_left h2
    omega
  exact (Nat.div_eq_of_lt_le h1 hlo).symm

/-- The guess was one too great. -/
theorem K_no {g : Nat} {U : List Nat} (h : KInv a0 v u q n m (k + 1)) (hv : v.length = n) (hd : Digs v) (hlU : U.length = u.length) (hdU : Digs U) (hsame : ∀ t, k + n < t → U.getD t 0 = u.getD t 0)
    (he : val U + g * val v * B32 ^ k = val u + B32 ^ (k + n + 1)) (hup : g * val v < val (u.drop k) + val v) (hp : 0 < val v) : 1 ≤ g ∧ g - 1 = val (u.drop k) / val v ∧ val (U.drop (k + n + 1)) = 0 := by
  have hl : k + n + 1 ≤ u.length := by have := h.lu; have := h.hk; omega
  have h0 := h.top0 hv hd
  have h1 := val_drop_same hlU (t := k + n + 1) fun i hi => hsame i (by omega)
  have h2 := val_cut U (j := k + n + 1) (by omega)
  rw [h1, h0, Nat.mul_zero, Nat.add_zero] at h2
  have h3 : val U < B32 ^ (k + n + 1) := by rw [h2]; exact val_take_lt hdU _
  have e := val_cut u (j := k) (by omega)
  have h4 : val (u.drop k) < g * val v := by
    have : B32 ^ k * val (u.drop k) < B32 ^ k * (g * val v) := by rw [Nat.mul_comm (B32 ^ k) (g * val v)]; omega
    exact Nat.lt_of_mul_lt_mul_left this
  have hg : 1 ≤ g := by
    rcases Nat.eq_zero_or_pos g with q | q
    · subst q; omega
    · exact q
  refine ⟨hg, (Nat.div_eq_of_lt_le ?_ ?_).symm, h1.trans h0⟩
  · obtain ⟨f, rfl⟩ : ∃ f, g = f + 1 := ⟨g - 1, by omega⟩
    rw [Nat.add_sub_cancel]; rw [Nat.add_mul] at hup; omega
  · rw [Nat.sub_add_cancel hg]; exact h4

/-- The divisor is added back, i digits of it. -/
structure AInv (u v : List Nat) (k i : Nat) (U : List Nat) (s : Nat) : Prop where
  lU : U.length = u.length
  dU : Digs U
  same : ∀ t, t < k ∨ k + i ≤ t → U.getD t 0 = u.getD t 0
  hs : s ≤ 1
  eq : val U + s * B32 ^ (k + i) = val u + val (v.take i) * B32 ^ k
theorem AInv.start (hd : Digs u) : AInv u v k 0 u 0 := ⟨rfl, hd, fun _ _ => rfl, by decide, by simp [val]⟩
theorem AInv.next {i s : Nat} {U : List Nat} (h : AInv u v k i U s) (hv : Digs v) (hi : i < v.length) (hk : k + i < u.length) :
    AInv u v k (i + 1) (U.set (k + i) ((U.getD (k + i) 0 + v.getD i 0 + s) % 4294967296)) ((U.getD (k + i) 0 + v.getD i 0 + s) / 4294967296) := by
  have ha := digs_at h.dU (k + i)
  have hx := digs_at hv i
  have hs := h.hs
  refine ⟨by simp [h.lU], digs_set h.dU (Nat.mod_lt _ (by decide)), fun t ht => ?_, by omega, ?_⟩
  · rw [digD_set, if_neg (by omega)]; exact h.same t (by omega)
  · have e := val_set (xs := U) (k := k + i) (d := (U.getD (k + i) 0 + v.getD i 0 + s) % 4294967296) (by have := h.lU; omega)
    have e2 := h.eq
    have e3 := val_take_succ (xs := v) (k := i) hi
    have e4 := Nat.mod_add_div (U.getD (k + i) 0 + v.getD i 0 + s) 4294967296
    have e5 : B32 ^ (k + (i + 1)) = B32 ^ k * B32 ^ i * 4294967296 := by rw [show k + (i + 1) = (k + i) + 1 by omega, Nat.pow_succ, Nat.pow_add]
    have e6 : B32 ^ (k + i) = B32 ^ k * B32 ^ i := Nat.pow_add ..
    rw [e3, e5]
    rw [e6] at e e2
    generalize B32 ^ k = P at *
    generalize B32 ^ i = R at *
    generalize (U.getD (k + i) 0 + v.getD i 0 + s) % 4294967296 = lo at *
    generalize (U.getD (k + i) 0 + v.getD i 0 + s) / 4294967296 = hi' at *
    generalize val (U.set (k + i) lo) = W at *
    generalize U.getD (k + i) 0 = a at *
    generalize v.getD i 0 = x at *
    have e7 : P * R * lo + P * R * (4294967296 * hi') = P * R * (a + x + s) := by rw [← e4]; grind
    grind
theorem AInv.top {s g : Nat} {U : List Nat} {u0 : Nat} (h : AInv u v k v.length U s) (hk : k + v.length < u.length) (he : val u + (g + 1) * val v * B32 ^ k = u0 + B32 ^ (k + v.length + 1)) (hlt : u0 < g * val v * B32 ^ k + B32 ^ (k + v.length)) (hge : g * val v * B32 ^ k ≤ u0) (hH : val (u.drop (k + v.length + 1)) = 0) :
    val (U.set (k + v.length) ((U.getD (k + v.length) 0 + s) % 4294967296)) + g * val v * B32 ^ k = u0 := by
  have hU := val_cut U (j := k + v.length) (by have := h.lU; omega)
  have hH2 := (val_drop_same h.lU (t := k + v.length + 1) fun i hi => h.same i (by omega)).trans hH
  rw [val_drop1, hH2] at hU
  have ht := val_take_lt h.dU (k + v.length)
  have e := val_set (xs := U) (k := k + v.length) (d := (U.getD (k + v.length) 0 + s) % 4294967296) (by have := h.lU; omega)
  have e2 := h.eq
  rw [List.take_length] at e2
  have ha := digs_at h.dU (k + v.length)
  have hs := h.hs
  have e5 : B32 ^ (k + v.length + 1) = B32 ^ (k + v.length) * 4294967296 := Nat.pow_succ ..
  rw [e5] at he
  obtain ⟨Z, rfl⟩ : ∃ Z, u0 = g * val v * B32 ^ k + Z := ⟨u0 - g * val v * B32 ^ k, by omega⟩
  have hZ : Z < B32 ^ (k + v.length) := by omega
  have e6 : val U + s * B32 ^ (k + v.length) = Z + B32 ^ (k + v.length) * 4294967296 := by
    rw [Nat.add_mul, Nat.add_mul, Nat.one_mul] at he; omega
  generalize B32 ^ (k + v.length) = R at *
  generalize U.getD (k + v.length) 0 = a at *
  generalize val (U.take (k + v.length)) = L at *
  have hR : 0 < R := by omega
  have e7 : L + R * (a + s) = Z + R * 4294967296 := by
    have : R * (a + B32 * 0) + s * R = R * (a + s) := by grind
    omega
  have e8 : a + s = 4294967296 := by
    have h1 := congrArg (· / R) e7
    simp only [Nat.add_mul_div_left _ _ hR, Nat.div_eq_of_lt ht, Nat.div_eq_of_lt hZ, Nat.zero_add] at h1
    exact h1
  have e9 : L = Z := by rw [e8] at e7; omega
  have e10 : (a + s) % 4294967296 = 0 := by rw [e8]
  rw [e10] at e ⊢
  rw [Nat.mul_zero, Nat.add_zero] at e
  have e11 : R * (a + B32 * 0) = R * a := by simp
  omega
end
end Go.Rt
