/- Plain mathematics: shifts of digit lists by fewer than 32 bits; lengths in bits. Conditions: none. -/
import Derived.Test.YtkpmcldbcljkfaaPlK
import Derived.Test.YtkpmcldbcljkfaaRtH
set_option linter.unusedVariables false
set_option linter.unusedSimpArgs false
namespace Go.Rt
open Go Go.RowKit

theorem pow_split {s : Nat} (h : s ≤ 32) : 2 ^ s * 2 ^ (32 - s) = 4294967296 := by
  rw [← Nat.pow_add, show s + (32 - s) = 32 by omega]
theorem shl_parts {x s : Nat} (h : s ≤ 32) (hx : x < 4294967296) : x * 2 ^ s = x * 2 ^ s % 4294967296 + 4294967296 * (x / 2 ^ (32 - s)) ∧ x * 2 ^ s % 4294967296 = 2 ^ s * (x % 2 ^ (32 - s)) ∧ x / 2 ^ (32 - s) < 2 ^ s := by
  have hp := pow_split h
  have h0 : 0 < 2 ^ (32 - s) := Nat.pow_pos (by decide)
  have h1 : 0 < 2 ^ s := Nat.pow_pos (by decide)
  have e := Nat.mod_add_div x (2 ^ (32 - s))
  have e2 : x * 2 ^ s = 2 ^ s * (x % 2 ^ (32 - s)) + 4294967296 * (x / 2 ^ (32 - s)) := by
    rw [← hp]; conv => lhs; rw [← e]
    rw [Nat.add_mul, Nat.mul_comm (x % 2 ^ (32 - s))]; grind
  have h2 : 2 ^ s * (x % 2 ^ (32 - s)) < 4294967296 := by
    rw [← hp]; exact Nat.mul_lt_mul_of_pos_left (Nat.mod_lt _ h0) h1
  have e3 : x * 2 ^ s % 4294967296 = 2 ^ s * (x % 2 ^ (32 - s)) := by
    rw [e2, Nat.add_mul_mod_self_left, Nat.mod_eq_of_lt h2]
  refine ⟨by rw [e3]; exact e2, e3, ?_⟩
  exact Nat.div_lt_of_lt_mul (by rw [Nat.mul_comm, hp]; exact hx)
theorem pow_s_lt {s : Nat} (h : s < 32) : 2 ^ s < 4294967296 := Nat.pow_lt_pow_right (by decide) h

/-- The first i digits of D are shifted; low: what comes out of them. -/
structure SInv (D : List Nat) (s i : Nat) (O : List Nat) (low : Nat) : Prop where
  lO : O.length = D.length
  dO : Digs O
  same : ∀ t, i ≤ t → O.getD t 0 = D.getD t 0
  hl : low < 2 ^ s
  eq : val (O.take i) + low * B32 ^ i = val (D.take i) * 2 ^ s
section
variable {D O : List Nat} {s i low : Nat}
theorem SInv.start (hd : Digs D) : SInv D s 0 D 0 := ⟨rfl, hd, fun _ _ => rfl, Nat.pow_pos (by decide), by simp [val]⟩
theorem SInv.digit (h : SInv D s i O low) (hs : s < 32) : O.getD i 0 * 2 ^ s % 4294967296 + low < 4294967296 := by
  have hx := digs_at h.dO i
  obtain ⟨h1, h2, h3⟩ := shl_parts (x := O.getD i 0) (Nat.le_of_lt hs) hx
  have hp := pow_split (Nat.le_of_lt hs)
  have h0 : 0 < 2 ^ (32 - s) := Nat.pow_pos (by decide)
  have h4 : 2 ^ s * (O.getD i 0 % 2 ^ (32 - s) + 1) ≤ 2 ^ s * 2 ^ (32 - s) := Nat.mul_le_mul_left _ (Nat.mod_lt _ h0)
  rw [Nat.mul_add, Nat.mul_one, hp] at h4
  have := h.hl
  omega
theorem SInv.next (h : SInv D s i O low) (hs : s < 32) (hi : i < D.length) : SInv D s (i + 1) (O.set i (O.getD i 0 * 2 ^ s % 4294967296 + low)) (O.getD i 0 / 2 ^ (32 - s)) := by
  have hx := digs_at h.dO i
  obtain ⟨h1, h2, h3⟩ := shl_parts (x := O.getD i 0) (Nat.le_of_lt hs) hx
  refine ⟨by simp [h.lO], digs_set h.dO (h.digit hs), fun t ht => ?_, h3, ?_⟩
  · rw [digD_set, if_neg (by omega)]; exact h.same t (by omega)
  · rw [take_set (by have := h.lO; omega), val_append, val_take_succ hi, ← h.same i (Nat.le_refl _)]
    have hm : (O.take i).length = i := by simp; have := h.lO; omega
    rw [hm, Nat.pow_succ]
    simp only [val, Nat.mul_zero, Nat.add_zero]
    have e := h.eq
    generalize O.getD i 0 * 2 ^ s % 4294967296 = y at *
    generalize O.getD i 0 / 2 ^ (32 - s) = z at *
    generalize hx2 : O.getD i 0 = x at *
    generalize B32 ^ i = P at *
    generalize 2 ^ s = T at *
    have e2 : x * T * P = (y + 4294967296 * z) * P := by rw [h1]
    grind
theorem SInv.done (h : SInv D s i O low) (hs : s < 32) (hi : D.length ≤ i) {ds : List Nat} (hD : D = ds ++ [0]) (hd : Digs ds) : val O = val ds * 2 ^ s := by
  have e := h.eq
  rw [List.take_of_length_le (by have := h.lO; omega), List.take_of_length_le hi] at e
  have hv : val D = val ds := by rw [hD, val_append]; simp [val]
  rw [hv] at e
  have hl := val_lt hd
  have hlen : D.length = ds.length + 1 := by rw [hD]; simp
  have h1 : val ds * 2 ^ s < B32 ^ ds.length * 4294967296 := by
    have h2 : val ds * 2 ^ s ≤ val ds * 4294967296 := Nat.mul_le_mul_left _ (Nat.le_of_lt (pow_s_lt hs))
    have h3 : val ds * 4294967296 < B32 ^ ds.length * 4294967296 := Nat.mul_lt_mul_of_pos_right hl (by decide)
    omega
  have h4 : B32 ^ ds.length * 4294967296 ≤ B32 ^ i := by
    rw [← Nat.pow_succ]; exact Nat.pow_le_pow_right (by decide) (by omega)
  rcases Nat.eq_zero_or_pos low with q | q
  · rw [q] at e; omega
  · have : 1 * B32 ^ i ≤ low * B32 ^ i := Nat.mul_le_mul_right _ q
    omega
end

/-- The first i digits of D are shifted down. -/
structure HInv (D : List Nat) (s i : Nat) (O : List Nat) : Prop where
  lO : O.length = D.length
  dO : Digs O
  same : ∀ t, i ≤ t → O.getD t 0 = D.getD t 0
  eq : 2 ^ s * val (O.take i) + D.getD 0 0 % 2 ^ s = val (D.take i) + D.getD i 0 % 2 ^ s * B32 ^ i
section
variable {D O : List Nat} {s i : Nat}
theorem HInv.start (hd : Digs D) : HInv D s 0 D := ⟨rfl, hd, fun _ _ => rfl, by simp [val]⟩
theorem shr_parts {x h s : Nat} (hs : s < 32) (h0 : 0 < s) (hx : x < 4294967296) : x / 2 ^ s < 2 ^ (32 - s) ∧ h * 2 ^ (32 - s) % 4294967296 = h % 2 ^ s * 2 ^ (32 - s) ∧ x / 2 ^ s + h % 2 ^ s * 2 ^ (32 - s) < 4294967296 := by
  have hp := pow_split (Nat.le_of_lt hs)
  have h1 : 0 < 2 ^ s := Nat.pow_pos (by decide)
  have h2 : x / 2 ^ s < 2 ^ (32 - s) := Nat.div_lt_of_lt_mul (by rw [hp]; exact hx)
  have h3 : (h % 2 ^ s + 1) * 2 ^ (32 - s) ≤ 2 ^ s * 2 ^ (32 - s) := Nat.mul_le_mul_right _ (Nat.mod_lt _ h1)
  rw [hp, Nat.add_mul, Nat.one_mul] at h3
  have h5 : 0 < 2 ^ (32 - s) := Nat.pow_pos (by decide)
  refine ⟨h2, ?_, by omega⟩
  have e := Nat.mod_add_div h (2 ^ s)
  have e2 : h * 2 ^ (32 - s) = h % 2 ^ s * 2 ^ (32 - s) + 4294967296 * (h / 2 ^ s) := by
    rw [← hp]; conv => lhs; rw [← e]
    grind
  rw [e2, Nat.add_mul_mod_self_left, Nat.mod_eq_of_lt (by omega)]
theorem HInv.next (h : HInv D s i O) (hs : s < 32) (h0 : 0 < s) (hi : i < D.length) : HInv D s (i + 1) (O.set i (O.getD i 0 / 2 ^ s + D.getD (i + 1) 0 % 2 ^ s * 2 ^ (32 - s))) := by
  have hx := digs_at h.dO i
  obtain ⟨h1, h2, h3⟩ := shr_parts (x := O.getD i 0) (h := D.getD (i + 1) 0) hs h0 hx
  refine ⟨by simp [h.lO], digs_set h.dO h3, fun t ht => ?_, ?_⟩
  · rw [digD_set, if_neg (by omega)]; exact h.same t (by omega)
  · rw [take_set (by have := h.lO; omega), val_append, val_take_succ hi, h.same i (Nat.le_refl _)]
    have hm : (O.take i).length = i := by simp; have := h.lO; omega
    rw [hm, Nat.pow_succ]
    simp only [val, Nat.mul_zero, Nat.add_zero]
    have e := h.eq
    have e1 := Nat.mod_add_div (D.getD i 0) (2 ^ s)
    have hp := pow_split (Nat.le_of_lt hs)
    generalize D.getD (i + 1) 0 % 2 ^ s = y at *
    generalize hd0 : D.getD 0 0 % 2 ^ s = d0 at *
    generalize D.getD i 0 / 2 ^ s = z at *
    generalize D.getD i 0 % 2 ^ s = r at *
    generalize D.getD i 0 = x at *
    generalize B32 ^ i = P at *
    generalize 2 ^ (32 - s) = S at *
    generalize 2 ^ s = T at *
    have e2 : T * (P * (z + y * S)) = P * (T * z) + y * (P * 4294967296) := by rw [← hp]; grind
    have e3 : P * x = P * r + P * (T * z) := by rw [← e1]; grind
    rw [Nat.mul_add, e2]
    have e4 : y * (P * B32) = y * (P * 4294967296) := rfl
    have e5 : r * P = P * r := Nat.mul_comm ..
    omega
theorem HInv.done (h : HInv D s i O) (hi : D.length ≤ i) : val O = val D / 2 ^ s := by
  have e := h.eq
  rw [List.take_of_length_le (by have := h.lO; omega), List.take_of_length_le hi, getD_ge hi, Nat.zero_mod, Nat.zero_mul, Nat.add_zero] at e
  have h1 : 0 < 2 ^ s := Nat.pow_pos (by decide)
  have h2 : D.getD 0 0 % 2 ^ s < 2 ^ s := Nat.mod_lt _ h1
  rw [← e, Nat.mul_add_div h1, Nat.div_eq_of_lt h2, Nat.add_zero]
end
theorem shr_zero {x : Nat} : x = x / 2 ^ 0 := by simp

/-! ### Machine words -/
theorem w_shl {x s : Nat} (hx : x < 4294967296) (hs : s < 32) : IntKind.u32.wrap ((x : Int) * 2 ^ (min ((s : Nat) : Int).toNat 32)) = ((x * 2 ^ s % 4294967296 : Nat) : Int) := by
  rw [Int.toNat_natCast, Nat.min_eq_left (by omega)]
  have : (x : Int) * 2 ^ s = ((x * 2 ^ s : Nat) : Int) := by simp
  rw [this, wu32_mod (by omega)]; omega
theorem w_or {x low s : Nat} (hs : s < 32) (hx : x < 4294967296) (hl : low < 2 ^ s) (hd : x * 2 ^ s % 4294967296 + low < 4294967296) : bitsOf .or .u32 ((x * 2 ^ s % 4294967296 : Nat) : Int) (low : Int) = ((x * 2 ^ s % 4294967296 + low : Nat) : Int) := by
  have h2 := pow_s_lt hs
  rw [bitsOf_or (by omega) (by omega)]
  obtain ⟨_, e, _⟩ := shl_parts (x := x) (Nat.le_of_lt hs) hx
  rw [e, Nat.two_pow_add_eq_or_of_lt hl]
theorem w_shr {x s : Nat} (hs : s ≤ 32) : ((x : Int)).fdiv (2 ^ (min ((32 : Int) - (s : Int)).toNat 32)) = ((x / 2 ^ (32 - s) : Nat) : Int) := by
  have e : min ((32 : Int) - (s : Int)).toNat 32 = 32 - s := by omega
  rw [e]
  have : (2 : Int) ^ (32 - s) = ((2 ^ (32 - s) : Nat) : Int) := by simp
  rw [this, Int.fdiv_eq_ediv_of_nonneg _ (Int.natCast_nonneg _)]; simp
theorem w_shr2 {x s : Nat} (hs : s ≤ 32) : ((x : Int)).fdiv (2 ^ (min ((s : Nat) : Int).toNat 32)) = ((x / 2 ^ s : Nat) : Int) := by
  have e : min ((s : Nat) : Int).toNat 32 = s := by omega
  rw [e]
  have : (2 : Int) ^ s = ((2 ^ s : Nat) : Int) := by simp
  rw [this, Int.fdiv_eq_ediv_of_nonneg _ (Int.natCast_nonneg _)]; simp
theorem w_shl2 {x s : Nat} (hx : x < 4294967296) (hs : s < 32) (h0 : 0 < s) : IntKind.u32.wrap ((x : Int) * 2 ^ (min ((32 : Int) - (s : Int)).toNat 32)) = ((x % 2 ^ s * 2 ^ (32 - s) : Nat) : Int) := by
  have e : min ((32 : Int) - (s : Int)).toNat 32 = 32 - s := by omega
  rw [e]
  have : (x : Int) * 2 ^ (32 - s) = ((x * 2 ^ (32 - s) : Nat) : Int) := by simp
  rw [this, wu32_mod (by omega), ← (shr_parts (x := 0) (h := x) hs h0 (by decide)).2.1]; omega
theorem w_or2 {x y s : Nat} (hs : s < 32) (h0 : 0 < s) (hx : x < 4294967296) : bitsOf .or .u32 ((x / 2 ^ s : Nat) : Int) ((y % 2 ^ s * 2 ^ (32 - s) : Nat) : Int) = ((x / 2 ^ s + y % 2 ^ s * 2 ^ (32 - s) : Nat) : Int) := by
  obtain ⟨h1, _, h3⟩ := shr_parts (x := x) (h := y) hs h0 hx
  rw [bitsOf_or (by omega) (by omega), Nat.or_comm, Nat.mul_comm, ← Nat.two_pow_add_eq_or_of_lt h1, Nat.add_comm]

/-! ### Lengths in bits -/
def bl8 (n : Nat) : Nat := if n = 0 then 0 else Nat.log2 n + 1
def bl16 (n : Nat) : Nat := if 256 ≤ n then 8 + bl8 (n / 256) else bl8 n
def bl (n : Nat) : Nat := if 65536 ≤ n then 16 + bl16 (n / 65536) else bl16 n
theorem bl8_lt (n : Nat) : n < 2 ^ bl8 n := by
  unfold bl8; split
  · subst_vars; decide
  · exact Nat.lt_log2_self
theorem bl8_le {n : Nat} (h : n < 256) : bl8 n ≤ 8 ∧ (0 < n → 0 < bl8 n) := by
  unfold bl8; split
  · omega
  · rename_i h0
    have : Nat.log2 n < 8 := (Nat.log2_lt h0).2 (by simpa using h)
    omega
theorem bl16_lt {n : Nat} : n < 2 ^ bl16 n := by
  unfold bl16; split
  · have := bl8_lt (n / 256)
    rw [Nat.pow_add]; omega
  · exact bl8_lt n
theorem bl16_le {n : Nat} (h : n < 65536) : bl16 n ≤ 16 ∧ (0 < n → 0 < bl16 n) := by
  unfold bl16; split
  · have := bl8_le (n := n / 256) (by omega); omega
  · have := bl8_le (n := n) (by omega); omega
theorem bl_lt {n : Nat} : n < 2 ^ bl n := by
  unfold bl; split
  · have := bl16_lt (n := n / 65536)
    rw [Nat.pow_add]; omega
  · exact bl16_lt
theorem bl_le {n : Nat} (h : n < 4294967296) : bl n ≤ 32 ∧ (0 < n → 0 < bl n) := by
  unfold bl; split
  · have := bl16_le (n := n / 65536) (by omega); omega
  · have := bl16_le (n := n) (by omega); omega
theorem lz_ok {n : Nat} (h : n < 4294967296) (h0 : 0 < n) : 32 - bl n < 32 ∧ n * 2 ^ (32 - bl n) < 4294967296 := by
  have h1 := bl_le h
  have h2 := bl_lt (n := n)
  refine ⟨by omega, ?_⟩
  have h3 : 0 < 2 ^ (32 - bl n) := Nat.pow_pos (by decide)
  have h4 := Nat.mul_lt_mul_of_pos_right h2 h3
  rw [← Nat.pow_add, show bl n + (32 - bl n) = 32 by omega] at h4
  exact h4
theorem wu8 {z : Int} (h0 : 0 ≤ z) (h1 : z < 256) : IntKind.u8.wrap z = z := by simp [IntKind.wrap, IntKind.signed, IntKind.bits]; omega
theorem fdiv16 {x : Nat} : ((x : Int)).fdiv (2 ^ (min (16 : Int).toNat 32)) = ((x / 65536 : Nat) : Int) := w_shr2 (s := 16) (by decide)
theorem fdiv8 {x : Nat} : ((x : Int)).fdiv (2 ^ (min (8 : Int).toNat 32)) = ((x / 256 : Nat) : Int) := w_shr2 (s := 8) (by decide)
theorem w_quo {x y : Nat} (hx : x < 18446744073709551616) : IntKind.u64.wrap ((x : Int).tdiv (y : Int)) = ((x / y : Nat) : Int) := by
  rw [← Int.ofNat_tdiv]
  have := Nat.div_le_self x y
  exact wu64 (Int.natCast_nonneg _) (Int.ofNat_lt.2 (Nat.lt_of_le_of_lt this hx))
theorem w_rem {x y : Nat} : (x : Int).tmod (y : Int) = ((x % y : Nat) : Int) := (Int.ofNat_tmod x y).symm
theorem minmax {s : Nat} (h : s < 32) : min (max ((s : Nat) : Int) 0) 16777216 = ((s : Nat) : Int) := by omega
theorem w_q32 {s : Nat} (h : s < 32) : IntKind.i64.wrap ((min (max ((s : Nat) : Int) 0) 16777216).tdiv 32) = 0 := by
  have : ((s : Nat) : Int).tdiv 32 = 0 := by
    have := Int.ofNat_tdiv s 32
    rw [Nat.div_eq_of_lt h] at this; exact this.symm
  rw [minmax h, this]; rfl
theorem w_r32 {s : Nat} (h : s < 32) : (min (max ((s : Nat) : Int) 0) 16777216).tmod 32 = ((s : Nat) : Int) := by
  have := Int.ofNat_tmod s 32
  rw [Nat.mod_eq_of_lt h] at this; rw [minmax h]; exact this.symm
theorem w_q32' {s : Nat} (h : s < 32) : IntKind.i64.wrap ((max ((s : Nat) : Int) 0).tdiv 32) = 0 := by
  have := w_q32 h
  rw [minmax h] at this
  rw [show max ((s : Nat) : Int) 0 = ((s : Nat) : Int) by omega]; exact this
theorem w_r32' {s : Nat} (h : s < 32) : (max ((s : Nat) : Int) 0).tmod 32 = ((s : Nat) : Int) := by
  have := w_r32 h
  rw [minmax h] at this
  rw [show max ((s : Nat) : Int) 0 = ((s : Nat) : Int) by omega]; exact this
theorem digs_snoc0 {ds : List Nat} (h : Digs ds) : Digs (ds ++ [0]) := fun d hd => by
  rcases List.mem_append.1 hd with q | q
  · exact h d q
  · simp only [List.mem_singleton] at q; subst q; decide
theorem val_snoc0 (ds : List Nat) : val (ds ++ [0]) = val ds := by rw [val_append]; simp [val]
theorem shl_copy (ds : List Nat) : (List.replicate (ds.length + 1) 0).take 0 ++ ds ++ (List.replicate (ds.length + 1) 0).drop (0 + ds.length) = ds ++ [0] := by
  rw [List.drop_replicate]; simp
theorem shl_pos {n s : Nat} (h : 0 < n) : n * 2 ^ s ≠ 0 := by
  have : 0 < n * 2 ^ s := Nat.mul_pos h (Nat.pow_pos (by decide))
  omega
theorem dig_ne {n : Nat} (h : n ≠ 0) : dig n ≠ [] := by rw [dig_pos h]; exact List.cons_ne_nil _ _
theorem trim_pre (ds : List Nat) : ∃ n, trimD ds = ds.take n := by
  have h : ∀ l : List Nat, ∃ n, (l.dropWhile (· == 0)).reverse = l.reverse.take n := fun l => by
    obtain ⟨n, hn⟩ : ∃ n, l.dropWhile (· == 0) = l.drop n := by
      induction l with
      | nil => exact ⟨0, rfl⟩
      | cons x l ih =>
        rw [List.dropWhile_cons]
        split
        · obtain ⟨n, hn⟩ := ih; exact ⟨n + 1, hn⟩
        · exact ⟨0, rfl⟩
    refine ⟨l.reverse.length - n, ?_⟩
    rw [hn, List.reverse_drop]; simp
  obtain ⟨n, hn⟩ := h ds.reverse
  exact ⟨n, by unfold trimD; rw [hn, List.reverse_reverse]⟩
end Go.Rt
