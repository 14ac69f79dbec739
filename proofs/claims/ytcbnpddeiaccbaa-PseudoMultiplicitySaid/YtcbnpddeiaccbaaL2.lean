/- The logic of the walks, and the plain mathematics, part 2: how a program logic for the model steps through code, and what the functions compute. Conditions: those of each theorem. -/
import Derived.Test.YtcbnpddeiaccbaaL1
set_option linter.unusedVariables false
set_option linter.unusedSimpArgs false
namespace Go.Rt
open Go Go.RowKit
theorem pow_split {s : Nat} (h : s ≤ 32) : 2 ^ s * 2 ^ (32 - s) = 4294967296 := by
 rw [← Nat.pow_add, show s + (32 - s) = 32 by omega]
theorem shl_parts {x s : Nat} (h : s ≤ 32) (hx : x < 4294967296) : x * 2 ^ s = x * 2 ^ s % 4294967296 + 4294967296 * (x / 2 ^ (32 - s)) ∧ x * 2 ^ s % 4294967296 = 2 ^ s * (x % 2 ^ (32 - s)) ∧ x / 2 ^ (32 - s) < 2 ^ s := by
 have hp := pow_split h
 have h0 : 0 < 2 ^ (32 - s) := Nat.pow_pos (by decide)
 have h1 : 0 < 2 ^ s := Nat.pow_pos (by decide)
 have e := Nat.mod_add_div x (2 ^ (32 - s))
 have e2 : x * 2 ^ s = 2 ^ s * (x % 2 ^ (32 - s)) + 4294967296 * (x / 2 ^ (32 - s)) := by
  rw [← hp]; conv => lhs; rw [← e]
  rw [Nat.add_mul, Nat.mul_comm (x % 2 ^ (32 - s))]; grind
 have h2 : 2 ^ s * (x % 2 ^ (32 - s)) < 4294967296 := by
  rw [← hp]; exact Nat.mul_lt_mul_of_pos_left (Nat.mod_lt _ h0) h1
 have e3 : x * 2 ^ s % 4294967296 = 2 ^ s * (x % 2 ^ (32 - s)) := by
  rw [e2, Nat.add_mul_mod_self_left, Nat.mod_eq_of_lt h2]
 refine ⟨by rw [e3]; exact e2, e3, ?_⟩
 exact Nat.div_lt_of_lt_mul (by rw [Nat.mul_comm, hp]; exact hx)
theorem pow_s_lt {s : Nat} (h : s < 32) : 2 ^ s < 4294967296 := Nat.pow_lt_pow_right (by decide) h
structure SInv (D : List Nat) (s i : Nat) (O : List Nat) (low : Nat) : Prop where
 lO : O.length = D.length
 dO : U7 O
 same : ∀ t, i ≤ t → O.getD t 0 = D.getD t 0
 hl : low < 2 ^ s
 eq : val (O.take i) + low * B32 ^ i = val (D.take i) * 2 ^ s
section
variable {D O : List Nat} {s i low : Nat}
theorem SInv.start (hd : U7 D) : SInv D s 0 D 0 := ⟨rfl, hd, fun _ _ => rfl, Nat.pow_pos (by decide), by simp [val]⟩
theorem SInv.digit (h : SInv D s i O low) (hs : s < 32) : O.getD i 0 * 2 ^ s % 4294967296 + low < 4294967296 := by
 have hx := T9 h.dO i
 obtain ⟨h1, h2, h3⟩ := shl_parts (x := O.getD i 0) (Nat.le_of_lt hs) hx
 have hp := pow_split (Nat.le_of_lt hs)
 have h0 : 0 < 2 ^ (32 - s) := Nat.pow_pos (by decide)
 have h4 : 2 ^ s * (O.getD i 0 % 2 ^ (32 - s) + 1) ≤ 2 ^ s * 2 ^ (32 - s) := Nat.mul_le_mul_left _ (Nat.mod_lt _ h0)
 rw [Nat.mul_add, Nat.mul_one, hp] at h4
 have := h.hl
 omega
theorem SInv.next (h : SInv D s i O low) (hs : s < 32) (hi : i < D.length) : SInv D s (i + 1) (O.set i (O.getD i 0 * 2 ^ s % 4294967296 + low)) (O.getD i 0 / 2 ^ (32 - s)) := by
 have hx := T9 h.dO i
 obtain ⟨h1, h2, h3⟩ := shl_parts (x := O.getD i 0) (Nat.le_of_lt hs) hx
 refine ⟨by simp [h.lO], digs_set h.dO (h.digit hs), fun t ht => ?_, h3, ?_⟩
 ·rw [digD_set, if_neg (by omega)]; exact h.same t (by omega)
 ·rw [take_set (by have := h.lO; omega), val_append, val_take_succ hi, ← h.same i (Nat.le_refl _)]
  have hm : (O.take i).length = i := by simp; have := h.lO; omega
  rw [hm, Nat.pow_succ]
  simp only [val, Nat.mul_zero, Nat.add_zero]
  have e := h.eq
  generalize O.getD i 0 * 2 ^ s % 4294967296 = y at *
  generalize O.getD i 0 / 2 ^ (32 - s) = z at *
  generalize hx2 : O.getD i 0 = x at *
  generalize B32 ^ i = P at *
  generalize 2 ^ s = T at *
  have e2 : x * T * P = (y + 4294967296 * z) * P := by rw [h1]
  grind
theorem SInv.done (h : SInv D s i O low) (hs : s < 32) (hi : D.length ≤ i) {ds : List Nat} (hD : D = ds ++ [0]) (hd : U7 ds) : val O = val ds * 2 ^ s := by
 have e := h.eq
 rw [List.take_of_length_le (by have := h.lO; omega), List.take_of_length_le hi] at e
 have hv : val D = val ds := by rw [hD, val_append]; simp [val]
 rw [hv] at e
 have hl := val_lt hd
 have hlen : D.length = ds.length + 1 := by rw [hD]; simp
 have h1 : val ds * 2 ^ s < B32 ^ ds.length * 4294967296 := by
  have h2 : val ds * 2 ^ s ≤ val ds * 4294967296 := Nat.mul_le_mul_left _ (Nat.le_of_lt (pow_s_lt hs))
  have h3 : val ds * 4294967296 < B32 ^ ds.length * 4294967296 := Nat.mul_lt_mul_of_pos_right hl (by decide)
  omega
 have h4 : B32 ^ ds.length * 4294967296 ≤ B32 ^ i := by
  rw [← Nat.pow_succ]; exact Nat.pow_le_pow_right (by decide) (by omega)
 rcases Nat.eq_zero_or_pos low with q | q
 ·rw [q] at e; omega
 ·have : 1 * B32 ^ i ≤ low * B32 ^ i := Nat.mul_le_mul_right _ q
  omega
end
structure HInv (D : List Nat) (s i : Nat) (O : List Nat) : Prop where
 lO : O.length = D.length
 dO : U7 O
 same : ∀ t, i ≤ t → O.getD t 0 = D.getD t 0
 eq : 2 ^ s * val (O.take i) + D.getD 0 0 % 2 ^ s = val (D.take i) + D.getD i 0 % 2 ^ s * B32 ^ i
section
variable {D O : List Nat} {s i : Nat}
theorem HInv.start (hd : U7 D) : HInv D s 0 D := ⟨rfl, hd, fun _ _ => rfl, by simp [val]⟩
theorem shr_parts {x h s : Nat} (hs : s < 32) (h0 : 0 < s) (hx : x < 4294967296) : x / 2 ^ s < 2 ^ (32 - s) ∧ h * 2 ^ (32 - s) % 4294967296 = h % 2 ^ s * 2 ^ (32 - s) ∧ x / 2 ^ s + h % 2 ^ s * 2 ^ (32 - s) < 4294967296 := by
 have hp := pow_split (Nat.le_of_lt hs)
 have h1 : 0 < 2 ^ s := Nat.pow_pos (by decide)
 have h2 : x / 2 ^ s < 2 ^ (32 - s) := Nat.div_lt_of_lt_mul (by rw [hp]; exact hx)
 have h3 : (h % 2 ^ s + 1) * 2 ^ (32 - s) ≤ 2 ^ s * 2 ^ (32 - s) := Nat.mul_le_mul_right _ (Nat.mod_lt _ h1)
 rw [hp, Nat.add_mul, Nat.one_mul] at h3
 have h5 : 0 < 2 ^ (32 - s) := Nat.pow_pos (by decide)
 refine ⟨h2, ?_, by omega⟩
 have e := Nat.mod_add_div h (2 ^ s)
 have e2 : h * 2 ^ (32 - s) = h % 2 ^ s * 2 ^ (32 - s) + 4294967296 * (h / 2 ^ s) := by
  rw [← hp]; conv => lhs; rw [← e]
  grind
 rw [e2, Nat.add_mul_mod_self_left, Nat.mod_eq_of_lt (by omega)]
theorem HInv.next (h : HInv D s i O) (hs : s < 32) (h0 : 0 < s) (hi : i < D.length) : HInv D s (i + 1) (O.set i (O.getD i 0 / 2 ^ s + D.getD (i + 1) 0 % 2 ^ s * 2 ^ (32 - s))) := by
 have hx := T9 h.dO i
 obtain ⟨h1, h2, h3⟩ := shr_parts (x := O.getD i 0) (h := D.getD (i + 1) 0) hs h0 hx
 refine ⟨by simp [h.lO], digs_set h.dO h3, fun t ht => ?_, ?_⟩
 ·rw [digD_set, if_neg (by omega)]; exact h.same t (by omega)
 ·rw [take_set (by have := h.lO; omega), val_append, val_take_succ hi, h.same i (Nat.le_refl _)]
  have hm : (O.take i).length = i := by simp; have := h.lO; omega
  rw [hm, Nat.pow_succ]
  simp only [val, Nat.mul_zero, Nat.add_zero]
  have e := h.eq
  have e1 := Nat.mod_add_div (D.getD i 0) (2 ^ s)
  have hp := pow_split (Nat.le_of_lt hs)
  generalize D.getD (i + 1) 0 % 2 ^ s = y at *
  generalize hd0 : D.getD 0 0 % 2 ^ s = d0 at *
  generalize D.getD i 0 / 2 ^ s = z at *
  generalize D.getD i 0 % 2 ^ s = r at *
  generalize D.getD i 0 = x at *
  generalize B32 ^ i = P at *
  generalize 2 ^ (32 - s) = S at *
  generalize 2 ^ s = T at *
  have e2 : T * (P * (z + y * S)) = P * (T * z) + y * (P * 4294967296) := by rw [← hp]; grind
  have e3 : P * x = P * r + P * (T * z) := by rw [← e1]; grind
  rw [Nat.mul_add, e2]
  have e4 : y * (P * B32) = y * (P * 4294967296) := rfl
  have e5 : r * P = P * r := Nat.mul_comm ..
  omega
theorem HInv.done (h : HInv D s i O) (hi : D.length ≤ i) : val O = val D / 2 ^ s := by
 have e := h.eq
 rw [List.take_of_length_le (by have := h.lO; omega), List.take_of_length_le hi, getD_ge hi, Nat.zero_mod, Nat.zero_mul, Nat.add_zero] at e
 have h1 : 0 < 2 ^ s := Nat.pow_pos (by decide)
 have h2 : D.getD 0 0 % 2 ^ s < 2 ^ s := Nat.mod_lt _ h1
 rw [← e, Nat.mul_add_div h1, Nat.div_eq_of_lt h2, Nat.add_zero]
end
theorem w_shl {x s : Nat} (hx : x < 4294967296) (hs : s < 32) : IntKind.u32.wrap ((x : Int) * 2 ^ (min ((s : Nat) : Int).toNat 32)) = ((x * 2 ^ s % 4294967296 : Nat) : Int) := by
 rw [Int.toNat_natCast, Nat.min_eq_left (by omega)]
 have : (x : Int) * 2 ^ s = ((x * 2 ^ s : Nat) : Int) := by simp
 rw [this, wu32_mod (by omega)]; omega
theorem w_or {x low s : Nat} (hs : s < 32) (hx : x < 4294967296) (hl : low < 2 ^ s) (hd : x * 2 ^ s % 4294967296 + low < 4294967296) : bitsOf .or .u32 ((x * 2 ^ s % 4294967296 : Nat) : Int) (low : Int) = ((x * 2 ^ s % 4294967296 + low : Nat) : Int) := by
 have h2 := pow_s_lt hs
 rw [bitsOf_or (by omega) (by omega)]
 obtain ⟨_, e, _⟩ := shl_parts (x := x) (Nat.le_of_lt hs) hx
 rw [e, Nat.two_pow_add_eq_or_of_lt hl]
theorem w_shr {x s : Nat} (hs : s ≤ 32) : ((x : Int)).fdiv (2 ^ (min ((32 : Int) - (s : Int)).toNat 32)) = ((x / 2 ^ (32 - s) : Nat) : Int) := by
 have e : min ((32 : Int) - (s : Int)).toNat 32 = 32 - s := by omega
 rw [e]
 have : (2 : Int) ^ (32 - s) = ((2 ^ (32 - s) : Nat) : Int) := by simp
 rw [this, Int.fdiv_eq_ediv_of_nonneg _ (Int.natCast_nonneg _)]; simp
theorem w_shr2 {x s : Nat} (hs : s ≤ 32) : ((x : Int)).fdiv (2 ^ (min ((s : Nat) : Int).toNat 32)) = ((x / 2 ^ s : Nat) : Int) := by
 have e : min ((s : Nat) : Int).toNat 32 = s := by omega
 rw [e]
 have : (2 : Int) ^ s = ((2 ^ s : Nat) : Int) := by simp
 rw [this, Int.fdiv_eq_ediv_of_nonneg _ (Int.natCast_nonneg _)]; simp
theorem w_shl2 {x s : Nat} (hx : x < 4294967296) (hs : s < 32) (h0 : 0 < s) : IntKind.u32.wrap ((x : Int) * 2 ^ (min ((32 : Int) - (s : Int)).toNat 32)) = ((x % 2 ^ s * 2 ^ (32 - s) : Nat) : Int) := by
 have e : min ((32 : Int) - (s : Int)).toNat 32 = 32 - s := by omega
 rw [e]
 have : (x : Int) * 2 ^ (32 - s) = ((x * 2 ^ (32 - s) : Nat) : Int) := by simp
 rw [this, wu32_mod (by omega), ← (shr_parts (x := 0) (h := x) hs h0 (by decide)).2.1]; omega
theorem w_or2 {x y s : Nat} (hs : s < 32) (h0 : 0 < s) (hx : x < 4294967296) : bitsOf .or .u32 ((x / 2 ^ s : Nat) : Int) ((y % 2 ^ s * 2 ^ (32 - s) : Nat) : Int) = ((x / 2 ^ s + y % 2 ^ s * 2 ^ (32 - s) : Nat) : Int) := by
 obtain ⟨h1, _, h3⟩ := shr_parts (x := x) (h := y) hs h0 hx
 rw [bitsOf_or (by omega) (by omega), Nat.or_comm, Nat.mul_comm, ← Nat.two_pow_add_eq_or_of_lt h1, Nat.add_comm]
def bl8 (n : Nat) : Nat := if n = 0 then 0 else Nat.log2 n + 1
def bl16 (n : Nat) : Nat := if 256 ≤ n then 8 + bl8 (n / 256) else bl8 n
def bl (n : Nat) : Nat := if 65536 ≤ n then 16 + bl16 (n / 65536) else bl16 n
theorem bl8_lt (n : Nat) : n < 2 ^ bl8 n := by
 unfold bl8; split
 ·subst_vars; decide
 ·exact Nat.lt_log2_self
theorem bl8_le {n : Nat} (h : n < 256) : bl8 n ≤ 8 ∧ (0 < n → 0 < bl8 n) := by
 unfold bl8; split
 ·omega
 ·rename_i h0
  have : Nat.log2 n < 8 := (Nat.log2_lt h0).2 (by simpa using h)
  omega
theorem bl16_lt {n : Nat} : n < 2 ^ bl16 n := by
 unfold bl16; split
 ·have := bl8_lt (n / 256)
  rw [Nat.pow_add]; omega
 ·exact bl8_lt n
theorem bl16_le {n : Nat} (h : n < 65536) : bl16 n ≤ 16 ∧ (0 < n → 0 < bl16 n) := by
 unfold bl16; split
 ·have := bl8_le (n := n / 256) (by omega); omega
 ·have := bl8_le (n := n) (by omega); omega
theorem bl_lt {n : Nat} : n < 2 ^ bl n := by
 unfold bl; split
 ·have := bl16_lt (n := n / 65536)
  rw [Nat.pow_add]; omega
 ·exact bl16_lt
theorem bl_le {n : Nat} (h : n < 4294967296) : bl n ≤ 32 ∧ (0 < n → 0 < bl n) := by
 unfold bl; split
 ·have := bl16_le (n := n / 65536) (by omega); omega
 ·have := bl16_le (n := n) (by omega); omega
theorem wu8 {z : Int} (h0 : 0 ≤ z) (h1 : z < 256) : IntKind.u8.wrap z = z := by simp [IntKind.wrap, IntKind.signed, IntKind.bits]; omega
theorem fdiv16 {x : Nat} : ((x : Int)).fdiv (2 ^ (min (16 : Int).toNat 32)) = ((x / 65536 : Nat) : Int) := w_shr2 (s := 16) (by decide)
theorem fdiv8 {x : Nat} : ((x : Int)).fdiv (2 ^ (min (8 : Int).toNat 32)) = ((x / 256 : Nat) : Int) := w_shr2 (s := 8) (by decide)
theorem w_quo {x y : Nat} (hx : x < 18446744073709551616) : IntKind.u64.wrap ((x : Int).tdiv (y : Int)) = ((x / y : Nat) : Int) := by
 rw [← Int.ofNat_tdiv]
 have := Nat.div_le_self x y
 exact wu64 (Int.natCast_nonneg _) (Int.ofNat_lt.2 (Nat.lt_of_le_of_lt this hx))
theorem w_rem {x y : Nat} : (x : Int).tmod (y : Int) = ((x % y : Nat) : Int) := (Int.ofNat_tmod x y).symm
theorem minmax {s : Nat} (h : s < 32) : min (max ((s : Nat) : Int) 0) 16777216 = ((s : Nat) : Int) := by omega
theorem w_q32 {s : Nat} (h : s < 32) : IntKind.i64.wrap ((min (max ((s : Nat) : Int) 0) 16777216).tdiv 32) = 0 := by
 have : ((s : Nat) : Int).tdiv 32 = 0 := by
  have := Int.ofNat_tdiv s 32
  rw [Nat.div_eq_of_lt h] at this; exact this.symm
 rw [minmax h, this]; rfl
theorem w_r32 {s : Nat} (h : s < 32) : (min (max ((s : Nat) : Int) 0) 16777216).tmod 32 = ((s : Nat) : Int) := by
 have := Int.ofNat_tmod s 32
 rw [Nat.mod_eq_of_lt h] at this; rw [minmax h]; exact this.symm
theorem w_q32' {s : Nat} (h : s < 32) : IntKind.i64.wrap ((max ((s : Nat) : Int) 0).tdiv 32) = 0 := by
 have := w_q32 h
 rw [minmax h] at this
 rw [show max ((s : Nat) : Int) 0 = ((s : Nat) : Int) by omega]; exact this
theorem w_r32' {s : Nat} (h : s < 32) : (max ((s : Nat) : Int) 0).tmod 32 = ((s : Nat) : Int) := by
 have := w_r32 h
 rw [minmax h] at this
 rw [show max ((s : Nat) : Int) 0 = ((s : Nat) : Int) by omega]; exact this
theorem digs_snoc0 {ds : List Nat} (h : U7 ds) : U7 (ds ++ [0]) := fun d hd => by
 rcases List.mem_append.1 hd with q | q
 ·exact h d q
 ·simp only [List.mem_singleton] at q; subst q; decide
theorem val_snoc0 (ds : List Nat) : val (ds ++ [0]) = val ds := by rw [val_append]; simp [val]
theorem shl_copy (ds : List Nat) : (List.replicate (ds.length + 1) 0).take 0 ++ ds ++ (List.replicate (ds.length + 1) 0).drop (0 + ds.length) = ds ++ [0] := by
 rw [List.drop_replicate]; simp
theorem shl_pos {n s : Nat} (h : 0 < n) : n * 2 ^ s ≠ 0 := by
 have : 0 < n * 2 ^ s := Nat.mul_pos h (Nat.pow_pos (by decide))
 omega
theorem dig_ne {n : Nat} (h : n ≠ 0) : dig n ≠ [] := by rw [dig_pos h]; exact List.cons_ne_nil _ _
theorem trim_pre (ds : List Nat) : ∃ n, Q3 ds = ds.take n := by
 have h : ∀ l : List Nat, ∃ n, (l.dropWhile (· == 0)).reverse = l.reverse.take n := fun l => by
  obtain ⟨n, hn⟩ : ∃ n, l.dropWhile (· == 0) = l.drop n := by
   induction l with
   | nil => exact ⟨0, rfl⟩
   | cons x l ih =>
    rw [List.dropWhile_cons]
    split
    ·obtain ⟨n, hn⟩ := ih; exact ⟨n + 1, hn⟩
    ·exact ⟨0, rfl⟩
  refine ⟨l.reverse.length - n, ?_⟩
  rw [hn, List.reverse_drop]; simp
 obtain ⟨n, hn⟩ := h ds.reverse
 exact ⟨n, by unfold Q3; rw [hn, List.reverse_reverse]⟩
end Go.Rt
namespace Go.Rt
open Go Go.RowKit
structure GK (V w E top nx u2 u3 : Nat) : Prop where
 hV : (top * 4294967296 + nx) * E ≤ V
 hV2 : V < (top * 4294967296 + nx + 1) * E
 hw : (u2 * 4294967296 + u3) * E ≤ w
 hw2 : w < (u2 * 4294967296 + u3 + 1) * E
 hq : w < V * 4294967296
 ht : 0 < top
 hE : 0 < E
 hn : nx < 4294967296
 h3 : u3 < 4294967296
structure GInv (V w top u2 g rest : Nat) : Prop where
 eq : g * top + rest = u2
 hr : rest < 4294967296
 lo : w < (g + 1) * V
section
variable {V w E top nx u2 u3 g rest : Nat}
theorem GInv.start (h : GK V w E top nx u2 u3) (htop : top < 4294967296) : GInv V w top u2 (u2 / top) (u2 % top) := by
 have hm := Nat.mod_lt u2 h.ht
 have e := Nat.div_add_mod u2 top
 refine ⟨by rw [Nat.mul_comm]; exact e, by omega, ?_⟩
 have h1 : u2 + 1 ≤ (u2 / top + 1) * top := by rw [Nat.add_mul, Nat.mul_comm (u2 / top)]; omega
 have h2 : u2 * 4294967296 + u3 + 1 ≤ (u2 + 1) * 4294967296 := by have := h.h3; omega
 have h3 := Nat.mul_le_mul_right E (Nat.le_trans h2 (Nat.mul_le_mul_right 4294967296 h1))
 have h4 : (u2 / top + 1) * top * 4294967296 * E ≤ (u2 / top + 1) * V := by
  have h5 : top * 4294967296 * E ≤ V := Nat.le_trans (Nat.mul_le_mul_right E (Nat.le_add_right _ _)) h.hV
  have := Nat.mul_le_mul_left (u2 / top + 1) h5
  simpa [Nat.mul_assoc] using this
 have := h.hw2
 omega
theorem GInv.pos (h : GK V w E top nx u2 u3) (hi : GInv V w top u2 g rest) (hc : 4294967296 ≤ g ∨ rest * 4294967296 + u3 < g * nx) : 1 ≤ g ∧ w < (g - 1 + 1) * V := by
 have h1 := guess_big hi.eq h.hV h.hw2 h.hq hc
 rcases Nat.eq_zero_or_pos g with q | q
 ·subst q; omega
 ·exact ⟨q, by rw [Nat.sub_add_cancel q]; exact h1⟩
theorem GInv.next (h : GK V w E top nx u2 u3) (hi : GInv V w top u2 g rest) (hc : 4294967296 ≤ g ∨ rest * 4294967296 + u3 < g * nx) (hr : rest + top < 4294967296) : GInv V w top u2 (g - 1) (rest + top) := by
 obtain ⟨h1, h2⟩ := hi.pos h hc
 refine ⟨?_, hr, h2⟩
 obtain ⟨f, rfl⟩ : ∃ f, g = f + 1 := ⟨g - 1, by omega⟩
 have := hi.eq
 rw [Nat.add_mul] at this
 rw [Nat.add_sub_cancel]; omega
structure GOk (V w g : Nat) : Prop where
 lt : g < 4294967296
 lo : w < (g + 1) * V
 up : g * V < w + V
theorem GInv.stop (h : GK V w E top nx u2 u3) (hi : GInv V w top u2 g rest) (hg : g < 4294967296) (hc : ¬ rest * 4294967296 + u3 < g * nx) : GOk V w g :=
 ⟨hg, hi.lo, guess_ok hi.eq h.hV h.hV2 h.hw h.ht h.hE hg (by omega)⟩
theorem GInv.brk (h : GK V w E top nx u2 u3) (hi : GInv V w top u2 g rest) (hc : 4294967296 ≤ g ∨ rest * 4294967296 + u3 < g * nx) (hr : 4294967296 ≤ rest + top) : GOk V w (g - 1) := by
 obtain ⟨h1, h2⟩ := hi.pos h hc
 have e : (g - 1) * top + (rest + top) = u2 := by
  obtain ⟨f, rfl⟩ : ∃ f, g = f + 1 := ⟨g - 1, by omega⟩
  have := hi.eq
  rw [Nat.add_mul] at this
  rw [Nat.add_sub_cancel]; omega
 have hlt := guess_lt e (guess_u2 h.hV2 h.hw h.hq h.hn h.hE) hr
 exact ⟨hlt, h2, guess_ok e h.hV h.hV2 h.hw h.ht h.hE hlt (guess_brk h.hn hlt hr)⟩
end
section
variable {a0 : Nat} {v u q : List Nat} {n m k : Nat}
theorem KInv.gk (h : KInv a0 v u q n m (k + 1)) (h2 : 2 ≤ n) (hv : v.length = n) (hd : U7 v) (ht : 0 < v.getD (n - 1) 0) :
  GK (val v) (val (u.drop k)) (B32 ^ (n - 2)) (v.getD (n - 1) 0) (v.getD (n - 2) 0) (u.getD (k + n) 0 * 4294967296 + u.getD (k + n - 1) 0) (u.getD (k + n - 2) 0) := by
 obtain ⟨l, rfl⟩ : ∃ l, n = l + 2 := ⟨n - 2, by omega⟩
 have h3 := val_v hv hd
 have h4 := h.w hv hd
 rw [show k + (l + 2) - 1 = k + l + 1 by omega, show k + (l + 2) - 2 = k + l by omega, show l + 2 - 1 = l + 1 by omega, show l + 2 - 2 = l by omega] at *
 exact ⟨h3.1, h3.2, h4.1, h4.2, h.w_lt, ht, pow_pos' l, T9 hd l, T9 h.du (k + l)⟩
theorem KInv.u2_lt (h : KInv a0 v u q n m (k + 1)) : u.getD (k + n) 0 * 4294967296 + u.getD (k + n - 1) 0 < 18446744073709551616 := by
 have h1 := T9 h.du (k + n)
 have h2 := T9 h.du (k + n - 1)
 omega
theorem KInv.yes (h : KInv a0 v u q n m (k + 1)) (hv : v.length = n) (hp : 0 < val v) {g c b : Nat} {U : List Nat} (hg : GOk (val v) (val (u.drop k)) g) (hM : MInv u v g k v.length U c b)
  (hz : tN (U.getD (k + n) 0) (b + c) / 9223372036854775808 = 0) : KInv a0 v (U.set (k + n) (tN (U.getD (k + n) 0) (b + c) % 4294967296)) (q.set k g) n m k := by
 have hlu := h.lu
 have hk := h.hk
 subst hv
 have e := hM.top (by omega)
 rw [hz, Nat.mul_zero, Nat.add_zero] at e
 have hQ := K_yes h e hg.lo hp
 exact h.step (by simp [hM.lU]) (digs_set hM.dU (Nat.mod_lt _ (by decide))) hQ e hp
theorem KInv.no (h : KInv a0 v u q n m (k + 1)) (hv : v.length = n) (hd : U7 v) (hp : 0 < val v) {g c b s : Nat} {U W : List Nat} (hg : GOk (val v) (val (u.drop k)) g) (hM : MInv u v g k v.length U c b)
  (hz : ¬ tN (U.getD (k + n) 0) (b + c) / 9223372036854775808 = 0) (hA : AInv (U.set (k + n) (tN (U.getD (k + n) 0) (b + c) % 4294967296)) v k v.length W s) :
  KInv a0 v (W.set (k + n) ((W.getD (k + n) 0 + s) % 4294967296)) ((q.set k g).set k (g - 1)) n m k := by
 have hlu := h.lu
 have hk := h.hk
 subst hv
 have e := hM.top (by omega)
 have hb := hM.hb
 have hc := hM.hc
 have hz1 : tN (U.getD (k + v.length) 0) (b + c) / 9223372036854775808 = 1 := by
  have := (tN_lt (T9 hM.dU (k + v.length)) (show b + c ≤ 4294967296 by omega)).2
  omega
 rw [hz1, Nat.mul_one] at e
 have hU2d : U7 (U.set (k + v.length) (tN (U.getD (k + v.length) 0) (b + c) % 4294967296)) := digs_set hM.dU (Nat.mod_lt _ (by decide))
 have hU2l : (U.set (k + v.length) (tN (U.getD (k + v.length) 0) (b + c) % 4294967296)).length = u.length := by simp [hM.lU]
 obtain ⟨h1, h2, h3⟩ := K_no h rfl hd hU2l hU2d (fun t ht => by rw [digD_set, if_neg (by omega)]; exact hM.same t (by omega)) e hg.up hp
 have hsplit := val_cut u (j := k) (by omega)
 have ht := val_take_lt h.du k
 have hmod := Nat.mod_lt (val (u.drop k)) hp
 have hdm := Nat.div_add_mod (val (u.drop k)) (val v)
 rw [← h2] at hdm
 have hVlt := val_lt hd
 have hx : B32 ^ k * val (u.drop k) = (g - 1) * val v * B32 ^ k + val (u.drop k) % val v * B32 ^ k := by rw [← hdm]; grind
 have hy : (val (u.drop k) % val v + 1) * B32 ^ k ≤ val v * B32 ^ k := Nat.mul_le_mul_right _ hmod
 rw [Nat.add_mul] at hy
 have hw : val v * B32 ^ k < B32 ^ (k + v.length) := by
  rw [Nat.pow_add, Nat.mul_comm]; exact Nat.mul_lt_mul_of_pos_left hVlt (pow_pos' k)
 have hge : (g - 1) * val v * B32 ^ k ≤ val u := by omega
 have hlt : val u < (g - 1) * val v * B32 ^ k + B32 ^ (k + v.length) := by omega
 have hfin := hA.top (g := g - 1) (by rw [hU2l]; omega) (by rw [Nat.sub_add_cancel h1]; exact e) hlt hge h3
 have hset : (q.set k g).set k (g - 1) = q.set k (g - 1) := by rw [List.set_set]
 rw [hset]
 exact h.step (by simp [hA.lU, hM.lU]) (digs_set hA.dU (Nat.mod_lt _ (by decide))) h2 hfin hp
theorem KInv.done (h : KInv a0 v u q n m 0) (hv : v.length = n) (hd : U7 v) : val q = a0 / val v ∧ val u = a0 % val v ∧ val (u.take n) = val u := by
 have e := h.eq
 have hl := h.lt
 rw [Nat.pow_zero, Nat.mul_one] at hl
 have h1 : a0 / val v = val q := Nat.div_eq_of_lt_le (by rw [Nat.mul_comm]; omega) (by rw [Nat.add_mul, Nat.mul_comm]; omega)
 have h2 := Nat.div_add_mod a0 (val v)
 rw [h1] at h2
 refine ⟨h1.symm, by omega, ?_⟩
 have h3 := val_cut u (j := n) (by have := h.lu; omega)
 have h4 := val_lt hd
 rw [hv] at h4
 rcases Nat.eq_zero_or_pos (val (u.drop n)) with q' | q'
 ·rw [q'] at h3; omega
 ·have : B32 ^ n * 1 ≤ B32 ^ n * val (u.drop n) := Nat.mul_le_mul_left _ q'
  omega
end
theorem top_pos {b : List Nat} (hd : U7 b) (h : 0 < (Q3 b).length) : 0 < (Q3 b).getD ((Q3 b).length - 1) 0 := by
 have h1 := W7 hd
 have key : ∀ (ds : List Nat), 0 < ds.length → dig (val ds) = ds → U7 ds → 0 < ds.getD (ds.length - 1) 0 := by
  intro ds hl he hdd
  rcases list_snoc ds with rfl | ⟨xs, d, rfl⟩
  ·simp at hl
  ·rcases Nat.eq_zero_or_pos d with q | q
   ·exfalso
    subst q
    have h2 : val (xs ++ [0]) = val xs := val_snoc0 xs
    have h3 : (dig (val xs)).length ≤ xs.length := dig_length_le fun x hx => hdd x (by simp [hx])
    rw [← h2, he] at h3; simp at h3; omega
   ·simpa using q
 exact key _ h (by rw [h1, val_dig]) (digs_trimD hd)
theorem shl_len {b : List Nat} (hd : U7 b) (h : 0 < (Q3 b).length) {s : Nat} (hs : s = 32 - bl ((Q3 b).getD ((Q3 b).length - 1) 0)) : (dig (val (Q3 b) * 2 ^ s)).length = (Q3 b).length ∧ s < 32 := by
 have qd := digs_trimD hd
 have ht := top_pos hd h
 have htl := T9 qd ((Q3 b).length - 1)
 have hb1 := bl_le htl
 have hb2 := bl_lt (n := (Q3 b).getD ((Q3 b).length - 1) 0)
 refine ⟨Nat.le_antisymm (R8 ?_) ?_, by omega⟩
 ·have e := val_cut (Q3 b) (j := (Q3 b).length - 1) (by omega)
  rw [val_drop1, show (Q3 b).length - 1 + 1 = (Q3 b).length by omega, List.drop_length] at e
  simp only [val, Nat.mul_zero, Nat.add_zero] at e
  have hl := val_take_lt qd ((Q3 b).length - 1)
  have h1 : val (Q3 b) < ((Q3 b).getD ((Q3 b).length - 1) 0 + 1) * B32 ^ ((Q3 b).length - 1) := by
   rw [Nat.add_mul, Nat.mul_comm ((Q3 b).getD ((Q3 b).length - 1) 0)]; omega
  have h2 : ((Q3 b).getD ((Q3 b).length - 1) 0 + 1) * 2 ^ s ≤ 4294967296 := by
   have : ((Q3 b).getD ((Q3 b).length - 1) 0 + 1) * 2 ^ s ≤ 2 ^ bl ((Q3 b).getD ((Q3 b).length - 1) 0) * 2 ^ s := Nat.mul_le_mul_right _ hb2
   rw [← Nat.pow_add, show bl ((Q3 b).getD ((Q3 b).length - 1) 0) + s = 32 by omega] at this
   exact this
  have h3 : val (Q3 b) * 2 ^ s < ((Q3 b).getD ((Q3 b).length - 1) 0 + 1) * B32 ^ ((Q3 b).length - 1) * 2 ^ s := Nat.mul_lt_mul_of_pos_right h1 (Nat.pow_pos (by decide))
  have h4 : ((Q3 b).getD ((Q3 b).length - 1) 0 + 1) * B32 ^ ((Q3 b).length - 1) * 2 ^ s = ((Q3 b).getD ((Q3 b).length - 1) 0 + 1) * 2 ^ s * B32 ^ ((Q3 b).length - 1) := by grind
  have h5 := Nat.mul_le_mul_right (B32 ^ ((Q3 b).length - 1)) h2
  have h6 : 4294967296 * B32 ^ ((Q3 b).length - 1) = B32 ^ (Q3 b).length := by
   conv => rhs; rw [show (Q3 b).length = (Q3 b).length - 1 + 1 by omega, Nat.pow_succ]
   exact Nat.mul_comm ..
  omega
 ·have h1 : (dig (val (Q3 b))).length = (Q3 b).length := by rw [val_trimD hd, ← W7 hd]
  rw [← h1]
  have h2 : 1 ≤ 2 ^ s := Nat.pow_pos (by decide)
  exact dig_len_mono (by have := Nat.mul_le_mul_left (val (Q3 b)) h2; omega)
theorem dig_top {n : Nat} (h : n ≠ 0) : B32 ^ ((dig n).length - 1) ≤ n := by
 rcases Nat.lt_or_ge n (B32 ^ ((dig n).length - 1)) with q | q
 ·exfalso
  have := R8 q
  have h1 : 0 < (dig n).length := by rw [dig_pos h]; simp
  omega
 ·exact q
theorem KInv.start {x : Nat} {v : List Nat} (hv : 0 < val v) (hd : U7 v) (hvd : v = dig (val v)) (hge : v.length ≤ (dig x).length) : KInv x v (dig x ++ [0]) (List.replicate ((dig x).length + 1 - v.length) 0) v.length ((dig x).length + 1 - v.length) ((dig x).length + 1 - v.length) := by
 refine ⟨by simp; omega, by simp, digs_snoc0 (digs_dig x), digs_rep _, Nat.le_refl _, by rw [val_rep, val_snoc0, val_dig]; simp, ?_, fun i _ => getD_rep _ _⟩
 rw [val_snoc0, val_dig]
 have h1 := lt_dig_len x
 have h2 := dig_top (n := val v) (by omega)
 rw [← hvd] at h2
 have h0 : 0 < v.length := by
  rcases Nat.eq_zero_or_pos v.length with q | q
  ·have := List.eq_nil_of_length_eq_zero q; subst this; simp [val] at hv
  ·exact q
 have h3 : B32 ^ (dig x).length ≤ val v * B32 ^ ((dig x).length + 1 - v.length) := by
  have h4 := Nat.mul_le_mul_right (B32 ^ ((dig x).length + 1 - v.length)) h2
  rw [← Nat.pow_add, show v.length - 1 + ((dig x).length + 1 - v.length) = (dig x).length by omega] at h4
  exact h4
 omega
theorem div_scale {a b T : Nat} (hT : 0 < T) : a * T / (b * T) = a / b ∧ a * T % (b * T) / T = a % b := by
 refine ⟨Nat.mul_div_mul_right a b hT, ?_⟩
 rw [Nat.mul_mod_mul_right, Nat.mul_div_cancel _ hT]
theorem or_halvesN {x y : Nat} (hx : x < 4294967296) (hy : y < 4294967296) : bitsOf .or .u64 ((x : Int) * 4294967296) (y : Int) = ((x * 4294967296 + y : Nat) : Int) := by
 rw [or_halvesI (by omega) (by omega) (by omega) (by omega)]; omega
theorem shl32N {z : Nat} (h : z < 4294967296) : IntKind.u64.wrap ((z : Int) * 2 ^ (min (32 : Int).toNat 64)) = (z : Int) * 4294967296 := shl32_u64 (by omega) (by omega)
theorem w_mul64 {x y : Nat} (hx : x < 4294967296) (hy : y < 4294967296) : IntKind.u64.wrap ((x : Int) * (y : Int)) = ((x * y : Nat) : Int) := by
 have h1 : x * y ≤ 4294967295 * 4294967295 := Nat.mul_le_mul (by omega) (by omega)
 have h2 : (x : Int) * (y : Int) = ((x * y : Nat) : Int) := by simp
 rw [h2]; exact wu64 (Int.natCast_nonneg _) (by omega)
theorem w_add64 {x y : Nat} (h : x + y < 18446744073709551616) : IntKind.u64.wrap ((x : Int) + (y : Int)) = ((x + y : Nat) : Int) := by
 rw [wu64 (by omega) (by omega)]; omega
theorem w_sub1 {x : Nat} (h : 1 ≤ x) (h2 : x < 18446744073709551616) : IntKind.u64.wrap ((x : Int) - 1) = ((x - 1 : Nat) : Int) := by
 rw [wu64 (by omega) (by omega)]; omega
theorem w_sub1' {x : Nat} (h : 1 ≤ x) (h2 : x < 4294967296) : IntKind.u32.wrap ((x : Int) - 1) = ((x - 1 : Nat) : Int) := by
 rw [wu32 (by omega) (by omega)]; omega
theorem w_shr32 {x : Nat} : ((x : Int)).fdiv (2 ^ (min (32 : Int).toNat 64)) = ((x / 4294967296 : Nat) : Int) := by
 have e : ((2 : Int) ^ (min (32 : Int).toNat 64)) = 4294967296 := by decide
 rw [e, Int.fdiv_eq_ediv_of_nonneg _ (by decide)]; omega
theorem w_shr63 {x : Nat} : ((x : Int)).fdiv (2 ^ (min (63 : Int).toNat 64)) = ((x / 9223372036854775808 : Nat) : Int) := by
 have e : ((2 : Int) ^ (min (63 : Int).toNat 64)) = 9223372036854775808 := by decide
 rw [e, Int.fdiv_eq_ediv_of_nonneg _ (by decide)]; omega
theorem w_and32 {x : Nat} (hx : x < 18446744073709551616) : bitsOf .and .u64 (x : Int) 4294967295 = ((x % 4294967296 : Nat) : Int) := by
 have h1 : x &&& 4294967295 = x % 4294967296 := Nat.and_two_pow_sub_one_eq_mod x 32
 have e : bitsOf .and .u64 (x : Int) 4294967295 = IntKind.u64.wrap ((BitVec.ofNat 64 x &&& BitVec.ofNat 64 4294967295).toNat : Int) := by
  have : (4294967295 : Int) = ((4294967295 : Nat) : Int) := rfl
  rw [this]; simp only [bitsOf, BitVec.ofInt_natCast]; rfl
 rw [e, BitVec.toNat_and, BitVec.toNat_ofNat, BitVec.toNat_ofNat, Nat.mod_eq_of_lt (by simpa using hx), Nat.mod_eq_of_lt (by decide), h1]
 exact wu64 (by omega) (by omega)
theorem w_tN {a b p : Nat} (ha : a < 4294967296) (hs : b + p ≤ 4294967296) : IntKind.u64.wrap (IntKind.u64.wrap ((a : Int) - (b : Int)) - (p : Int)) = ((tN a (b + p) : Nat) : Int) := by
 have e : ∀ z : Int, IntKind.u64.wrap z = z % 18446744073709551616 := fun z => by simp [IntKind.wrap, IntKind.signed, IntKind.bits]
 rw [e, e]
 unfold tN
 split <;> omega
theorem w_mod32 {x : Nat} : IntKind.u32.wrap (x : Int) = ((x % 4294967296 : Nat) : Int) := by rw [wu32_mod (by omega)]; omega
theorem w_addmod {a s : Nat} : IntKind.u32.wrap ((a : Int) + (s : Int)) = (((a + s) % 4294967296 : Nat) : Int) := by rw [wu32_mod (by omega)]; omega
theorem K_g64 {V w top u2 g r : Nat} (h : GInv V w top u2 g r) (ht : 0 < top) (hu : u2 < 18446744073709551616) : g < 18446744073709551616 := by
 have := h.eq
 have h1 : g * 1 ≤ g * top := Nat.mul_le_mul_left _ ht
 omega
theorem K_gpos {a0 n m k g c b : Nat} {v u q U : List Nat} (h : KInv a0 v u q n m (k + 1)) (hv : v.length = n) (hd : U7 v) (hp : 0 < val v) (hg : GOk (val v) (val (u.drop k)) g) (hM : MInv u v g k v.length U c b)
  (hz : ¬ tN (U.getD (k + n) 0) (b + c) / 9223372036854775808 = 0) : 1 ≤ g := by
 have hlu := h.lu
 have hk := h.hk
 subst hv
 have e := hM.top (by omega)
 rcases Nat.eq_zero_or_pos g with q0 | q0
 ·exfalso
  subst q0
  have hb := hM.hb
  have hc := hM.hc
  have hz1 : tN (U.getD (k + v.length) 0) (b + c) / 9223372036854775808 = 1 := by
   have := (tN_lt (T9 hM.dU (k + v.length)) (show b + c ≤ 4294967296 by omega)).2
   omega
  rw [hz1, Nat.mul_one] at e
  have := K_no h rfl hd (by simp [hM.lU]) (digs_set hM.dU (Nat.mod_lt _ (by decide))) (fun t ht => by rw [digD_set, if_neg (by omega)]; exact hM.same t (by omega)) e hg.up hp
  omega
 ·exact q0
theorem set_at {xs : List Nat} {k d : Nat} (h : k < xs.length) : (xs.set k d)[k]? = some d := by simp [h]
theorem shl_dig_len {a : List Nat} {s : Nat} (hd : U7 a) (hs : s < 32) : (dig (val a * 2 ^ s)).length ≤ a.length + 1 := by
 refine R8 ?_
 have h1 := val_lt hd
 have h2 := pow_s_lt hs
 have h3 : val a * 2 ^ s ≤ val a * 4294967296 := Nat.mul_le_mul_left _ (Nat.le_of_lt h2)
 have h4 : val a * 4294967296 < B32 ^ a.length * 4294967296 := Nat.mul_lt_mul_of_pos_right h1 (by decide)
 rw [Nat.pow_succ]; exact Nat.lt_of_le_of_lt h3 h4
theorem dig_top_pos {n : Nat} (h : n ≠ 0) : 0 < (dig n).getD ((dig n).length - 1) 0 := by
 have h1 : Q3 (dig n) = dig n := by rw [W7 (digs_dig n), val_dig]
 have h2 := top_pos (b := dig n) (digs_dig n) (by rw [h1, dig_pos h]; simp)
 rw [h1] at h2; exact h2
theorem shl_cap {b : List Nat} {s : Nat} (hd : U7 (Q3 b)) (hs : s < 32) : (dig (val (Q3 b) * 2 ^ s)).length ≤ (Q3 (Q3 b)).length + 1 ∨ (Q3 (Q3 b)).length + 1 ≤ (Q3 (Q3 b)).length + 1 := .inr (Nat.le_refl _)
end Go.Rt
namespace Go.Rt
open Go Go.RowKit
structure Z where
 neg : Bool
 abs : List Nat
def zT (z : Z) : List Ty := [tIs (.bool z.neg), tSl X8 z.abs]
abbrev R9 : Enc Z := encF 2 zT
def mkZ (n : Bool) (ds : List Nat) : Z := ⟨n && decide (0 < ds.length), ds⟩
def X4 (z : Z) : Int := if z.neg then - (val z.abs : Int) else (val z.abs : Int)
def ofI (n : Int) : Z := ⟨decide (n < 0), dig n.natAbs⟩
structure Mo where
 a : Int
 b : Int
 c : Int
 d : Int
def moT (m : Mo) : List Ty := [tIs (.int .i64 m.a), tIs (.int .i64 m.b), tIs (.int .i64 m.c), tIs (.int .i64 m.d)]
abbrev encMo : Enc Mo := encF 4 moT
structure Tm where
 coef : Z
 exp : Mo
def tmT (t : Tm) : List Ty := [tIs (.bool t.coef.neg), tSl X8 t.coef.abs, tIs (.int .i64 t.exp.a), tIs (.int .i64 t.exp.b), tIs (.int .i64 t.exp.c), tIs (.int .i64 t.exp.d)]
abbrev X5 : Enc Tm := encF 6 tmT
inductive Pol where
 | mk (lv : Int) (c : Z) (cs : List Pol)
def Pol.lv : Pol → Int | .mk l _ _ => l
def Pol.c : Pol → Z | .mk _ c _ => c
def Pol.cs : Pol → List Pol | .mk _ _ cs => cs
mutual
def Y4 : Pol → List Ty
 | .mk l c cs => [tIs (.int .i64 l), tIs (.bool c.neg), tSl X8 c.abs, tSl (encL 4) (polsT cs)]
def polsT : List Pol → List (List Ty)
 | [] => []
 | p :: ps => Y4 p :: polsT ps
end
abbrev Q5 : Enc Pol := encF 4 Y4
theorem polsT_eq : ∀ ps : List Pol, polsT ps = ps.map Y4
 | [] => by simp [polsT]
 | p :: ps => by simp [polsT, polsT_eq ps]
theorem Q0 (p : Pol) : Y4 p = [tIs (.int .i64 p.lv), tIs (.bool p.c.neg), tSl X8 p.c.abs, tSl Q5 p.cs] := by
 cases p with
 | mk l c cs => rw [Y4, polsT_eq, tSl_map]; rfl
inductive Mx where
 | mk (kind rel : Int) (poly : Pol) (kids : List Mx)
def Mx.kids : Mx → List Mx | .mk _ _ _ ks => ks
def encSl {α : Type} (E : Enc α) : Enc (List α) where
 sz := 1
 ag := false
 C xs cs s := ∃ v, cs = [v] ∧ slP E xs v s
 up hl := fun ⟨v, h1, h2⟩ => ⟨v, h1, slP.up hl h2⟩
 len := fun ⟨v, h1, _⟩ => by rw [h1]; rfl
 one := fun ⟨v, h1, h2⟩ => by
  subst h1
  obtain ⟨A, n, c, rfl, _⟩ := h2
  intro u hu
  simp at hu; subst hu; rfl
end Go.Rt
namespace Go.Rt
open Go Go.RowKit
variable {X : Cx} {ops : Array Oper} {Q : Exit → Act → World → Prop} {rest : List Oper} {Γ : Gam} {H : Hp}
variable {dst : Option Tmp} {ty : TypeId} {pos : String} {af : Array Edge} {gd : Option (Nat × Bool)} {o : Oper} {T T' : Ty}
theorem JC.peel {ι : Type} {c : Code} (G : ι → Gam) (HH : ι → Hp) (inv : ι → Prop) (μ : ι → Nat) (M : Nat)
  (first : JC X c (Exit.then (fun a w => ∃ j, inv j ∧ μ j < M ∧ Sat X (G j) (HH j) a w) Q) Γ H)
  (round : ∀ i, inv i → JC X c (Exit.then (fun a w => ∃ j, inv j ∧ μ j < μ i ∧ Sat X (G j) (HH j) a w) Q) (G i) (HH i)) : JC X (.loop c) Q Γ H := by
 refine JC.loop (ι := Option ι) (fun | none => Γ | some i => G i) (fun | none => H | some i => HH i) (fun | none => True | some i => inv i) (fun | none => M | some i => μ i) none trivial (fun _ _ h => h) fun i hi => ?_
 cases i with
 | none => exact fun a w hs => then_mono (fun _ _ ⟨j, h⟩ => ⟨some j, h⟩) (first a w hs)
 | some i => exact fun a w hs => then_mono (fun _ _ ⟨j, h⟩ => ⟨some j, h⟩) (round i hi a w hs)
section
variable {α β γ δ : Type} {c : Code}
theorem JC.peel3 (G : α → β → γ → Gam) (HH : α → β → γ → Hp) (inv : α → β → γ → Prop) (μ : α → β → γ → Nat) (M : Nat)
  (first : JC X c (Exit.then (fun a w => ∃ l m n, inv l m n ∧ μ l m n < M ∧ Sat X (G l m n) (HH l m n) a w) Q) Γ H)
  (round : ∀ i j k, inv i j k → JC X c (Exit.then (fun a w => ∃ l m n, inv l m n ∧ μ l m n < μ i j k ∧ Sat X (G l m n) (HH l m n) a w) Q) (G i j k) (HH i j k)) : JC X (.loop c) Q Γ H :=
 JC.peel (ι := α × β × γ) (fun i => G i.1 i.2.1 i.2.2) (fun i => HH i.1 i.2.1 i.2.2) (fun i => inv i.1 i.2.1 i.2.2) (fun i => μ i.1 i.2.1 i.2.2) M (fun a w hs => then_mono (fun _ _ ⟨k, l, m, h⟩ => ⟨(k, l, m), h⟩) (first a w hs))
  fun i hi a w hs => then_mono (fun _ _ ⟨k, l, m, h⟩ => ⟨(k, l, m), h⟩) (round i.1 i.2.1 i.2.2 hi a w hs)
theorem JC.peel4 (G : α → β → γ → δ → Gam) (HH : α → β → γ → δ → Hp) (inv : α → β → γ → δ → Prop) (μ : α → β → γ → δ → Nat) (M : Nat)
  (first : JC X c (Exit.then (fun a w => ∃ l m n p, inv l m n p ∧ μ l m n p < M ∧ Sat X (G l m n p) (HH l m n p) a w) Q) Γ H)
  (round : ∀ i j k l, inv i j k l → JC X c (Exit.then (fun a w => ∃ m n p q, inv m n p q ∧ μ m n p q < μ i j k l ∧ Sat X (G m n p q) (HH m n p q) a w) Q) (G i j k l) (HH i j k l)) : JC X (.loop c) Q Γ H :=
 JC.peel (ι := α × β × γ × δ) (fun i => G i.1 i.2.1 i.2.2.1 i.2.2.2) (fun i => HH i.1 i.2.1 i.2.2.1 i.2.2.2) (fun i => inv i.1 i.2.1 i.2.2.1 i.2.2.2) (fun i => μ i.1 i.2.1 i.2.2.1 i.2.2.2) M (fun a w hs => then_mono (fun _ _ ⟨k, l, m, n, h⟩ => ⟨(k, l, m, n), h⟩) (first a w hs))
  fun i hi a w hs => then_mono (fun _ _ ⟨k, l, m, n, h⟩ => ⟨(k, l, m, n), h⟩) (round i.1 i.2.1 i.2.2.1 i.2.2.2 hi a w hs)
theorem JQ.first4 {G : α → β → γ → δ → Gam} {HH : α → β → γ → δ → Hp} {inv : α → β → γ → δ → Prop} {μ : α → β → γ → δ → Nat} {M : Nat} (j : α) (j2 : β) (j3 : γ) (j4 : δ) (hj : inv j j2 j3 j4) (hμ : μ j j2 j3 j4 < M) (hs : ∀ a w, Sat X Γ H a w → Sat X (G j j2 j3 j4) (HH j j2 j3 j4) a w) :
  JQ X (Exit.then (fun a w => ∃ l m n p, inv l m n p ∧ μ l m n p < M ∧ Sat X (G l m n p) (HH l m n p) a w) Q) .normal Γ H := fun a w h => ⟨j, j2, j3, j4, hj, hμ, hs a w h⟩
theorem JQ.first3 {G : α → β → γ → Gam} {HH : α → β → γ → Hp} {inv : α → β → γ → Prop} {μ : α → β → γ → Nat} {M : Nat} (j : α) (j2 : β) (j3 : γ) (hj : inv j j2 j3) (hμ : μ j j2 j3 < M) (hs : ∀ a w, Sat X Γ H a w → Sat X (G j j2 j3) (HH j j2 j3) a w) :
  JQ X (Exit.then (fun a w => ∃ l m n, inv l m n ∧ μ l m n < M ∧ Sat X (G l m n) (HH l m n) a w) Q) .normal Γ H := fun a w h => ⟨j, j2, j3, hj, hμ, hs a w h⟩
end
theorem nil_sl {α : Type} {E : Enc α} : ∀ v s, (tIs (.slice none 0 0)).p v s → (tSl E []).p v s := fun v s h => by
 have h' : v = .slice none 0 0 := h
 subst h'; exact Q9 _ _
theorem nil_z : ∀ v s, (tIs (.slice none 0 0)).p v s → tZ.p v s := fun v s h => ⟨none, h⟩
theorem ot_len_nil {t e sz by_ : Nat} {x : Operand} {ats : Array TypeId} (hx : OpT Γ x (tIs (.slice none 0 0))) (ht : slB X.P t = some (e, sz, by_)) (ha : ats = #[t]) :
  R2 X Γ H ⟨dst, .call { callee := .builtin .len, args := #[x], argTypes := ats }, ty, pos, af, gd⟩ (tIs (.int .i64 0)) := Y8 (E := X8) (xs := []) (.sub hx nil_sl) ht ha
end Go.Rt
namespace Go.Rt
def sgn (n : Int) : Int := if n < 0 then -1 else if n = 0 then 0 else 1
theorem mkZ_int {n : Bool} {ds : List Nat} : Z.mk (n && decide ((0 : Int) < (ds.length : Int))) ds = mkZ n ds := by
 unfold mkZ; congr 2; rw [decide_eq_decide]; omega
theorem mkZ_dig (n : Bool) (k : Nat) : mkZ n (dig k) = ofI (if n then -(k : Int) else (k : Int)) := by
 unfold mkZ ofI
 by_cases h : k = 0
 ·subst h; rw [dig_zero]; cases n <;> simp [dig_zero]
 ·have := dig_len_pos.2 h
  cases n with
  | true =>
   simp only [if_true, Bool.true_and, Int.natAbs_neg, Int.natAbs_natCast]
   rw [decide_eq_true this, decide_eq_true (by omega)]
  | false =>
   simp only [Bool.false_and, Int.natAbs_natCast]
   rw [decide_eq_false (by simp)]; simp
theorem mkZ_neg {n : Int} (h : n < 0) : mkZ true (dig (0 - n).toNat) = ofI n := by
 rw [mkZ_dig]; congr 1; simp; omega
theorem mkZ_pos {n : Int} (h : 0 ≤ n) : mkZ false (dig n.toNat) = ofI n := by
 rw [mkZ_dig]; congr 1; simp; omega
theorem Y9 (n : Int) : X4 (ofI n) = n := by
 unfold X4 ofI
 simp only [decide_eq_true_eq, val_dig]
 split <;> omega
def ZOk (z : Z) : Prop := U7 z.abs
theorem mkZ_ofI {n : Bool} {ds : List Nat} (h : U7 ds) : mkZ n (Q3 ds) = ofI (X4 ⟨n, ds⟩) := by
 rw [W7 h, mkZ_dig]; rfl
theorem sgn_zero {z : Z} (h : val z.abs = 0) : (0 : Int) = sgn (X4 z) := by unfold X4 sgn; split <;> simp [h]
theorem sgn_neg {z : Z} (h : ¬ val z.abs = 0) (h1 : z.neg = true) : (-1 : Int) = sgn (X4 z) := by unfold X4 sgn; rw [if_pos h1, if_pos (by omega)]
theorem sgn_pos {z : Z} (h : ¬ val z.abs = 0) (h1 : z.neg = false) : (1 : Int) = sgn (X4 z) := by unfold X4 sgn; rw [h1]; simp only [Bool.false_eq_true, if_false]; rw [if_neg (by omega), if_neg (by omega)]
theorem N0 (n : Int) : (sgn n = -1 ∧ n < 0) ∨ (sgn n = 0 ∧ n = 0) ∨ (sgn n = 1 ∧ 0 < n) := by
 unfold sgn; split
 ·exact .inl ⟨rfl, by assumption⟩
 ·split
  ·exact .inr (.inl ⟨rfl, by assumption⟩)
  ·exact .inr (.inr ⟨rfl, by omega⟩)
theorem cmp_gt {x y : Int} (h : sgn y < sgn x) : (1 : Int) = sgn (x - y) := by
 rcases N0 x with h1 | h1 | h1 <;> rcases N0 y with h2 | h2 | h2 <;> rcases N0 (x - y) with h3 | h3 | h3 <;> omega
theorem cmp_lt {x y : Int} (h : sgn x < sgn y) : (-1 : Int) = sgn (x - y) := by
 rcases N0 x with h1 | h1 | h1 <;> rcases N0 y with h2 | h2 | h2 <;> rcases N0 (x - y) with h3 | h3 | h3 <;> omega
theorem cmpN_sgn (a b : Nat) : cmpN a b = sgn ((a : Int) - b) := by
 unfold cmpN sgn
 split
 ·rw [if_pos (by omega)]
 ·split
  ·rw [if_neg (by omega), if_neg (by omega)]
  ·rw [if_neg (by omega), if_pos (by omega)]
theorem cmp_neg {x y : Z} (h : ¬ sgn (X4 y) < sgn (X4 x)) (h0 : ¬ sgn (X4 x) < sgn (X4 y)) (h1 : sgn (X4 x) < 0) : cmpN (val y.abs) (val x.abs) = sgn (X4 x - X4 y) := by
 rw [cmpN_sgn]
 have hx : X4 x < 0 := by rcases N0 (X4 x) with q | q | q <;> omega
 have hy : X4 y < 0 := by rcases N0 (X4 y) with q | q | q <;> omega
 congr 1
 unfold X4 at *
 split at hx <;> split at hy <;> first | omega | (rename_i a b; rw [if_pos a, if_pos b]; omega)
theorem cmp_pos {x y : Z} (h : ¬ sgn (X4 y) < sgn (X4 x)) (h0 : ¬ sgn (X4 x) < sgn (X4 y)) (h1 : ¬ sgn (X4 x) < 0) : cmpN (val x.abs) (val y.abs) = sgn (X4 x - X4 y) := by
 rw [cmpN_sgn]
 have hx : 0 ≤ X4 x := by rcases N0 (X4 x) with q | q | q <;> omega
 have hy : 0 ≤ X4 y := by rcases N0 (X4 y) with q | q | q <;> omega
 have ex : X4 x = val x.abs := by unfold X4 at *; split at hx <;> simp [*] <;> omega
 have ey : X4 y = val y.abs := by unfold X4 at *; split at hy <;> simp [*] <;> omega
 rw [ex, ey]
theorem sgn_sub_zero {x y : Int} : decide (sgn (x - y) = 0) = decide (x = y) := by
 rw [decide_eq_decide]; rcases N0 (x - y) with q | q | q <;> omega
theorem add_same {x y : Z} (h : x.neg = y.neg) : mkZ x.neg (dig (val x.abs + val y.abs)) = ofI (X4 x + X4 y) := by
 rw [mkZ_dig]; congr 1; unfold X4; rw [h]; split <;> omega
theorem add_ge {x y : Z} (h : ¬ x.neg = y.neg) (h1 : val y.abs ≤ val x.abs) : mkZ x.neg (dig (val x.abs - val y.abs)) = ofI (X4 x + X4 y) := by
 rw [mkZ_dig]; congr 1; unfold X4
 cases hx : x.neg <;> cases hy : y.neg <;> simp_all <;> omega
theorem add_lt {x y : Z} (h : ¬ x.neg = y.neg) (h1 : ¬ val y.abs ≤ val x.abs) : mkZ y.neg (dig (val y.abs - val x.abs)) = ofI (X4 x + X4 y) := by
 rw [mkZ_dig]; congr 1; unfold X4
 cases hx : x.neg <;> cases hy : y.neg <;> simp_all <;> omega
theorem mul_made {x y : Z} : mkZ (!(x.neg == y.neg)) (dig (val x.abs * val y.abs)) = ofI (X4 x * X4 y) := by
 rw [mkZ_dig]; congr 1; unfold X4
 cases hx : x.neg <;> cases hy : y.neg <;> simp [Int.neg_mul, Int.mul_neg]
theorem slP_encI {z : Z} {v : Value} {s : St} (h : (tV R9 z).p v s) : ZOk z := by
 obtain ⟨_, _, h2⟩ := h
 revert h2
 generalize v.cells.toList = cs
 intro h2
 match cs, h2 with
 | [_, _], ⟨_, _, h, _⟩ => exact slP_encD h
theorem zval_not {z : Z} : X4 (Z.mk (!z.neg) z.abs) = - X4 z := by unfold X4; cases z.neg <;> simp
theorem wu64_neg1 {n : Int} (h : n < 0) (h1 : -9223372036854775808 ≤ n) : IntKind.u64.wrap n = n + 18446744073709551616 := by
 simp [IntKind.wrap, IntKind.signed, IntKind.bits]; omega
theorem wu64_neg {n : Int} (h : n < 0 ∧ -9223372036854775808 ≤ n) : IntKind.u64.wrap (0 - (n + 18446744073709551616)) = 0 - n := by
 simp [IntKind.wrap, IntKind.signed, IntKind.bits]; omega
end Go.Rt
namespace Go.Rt
open Go Go.RowKit
def trimB {α : Type} (z : α → Bool) (xs : List α) : List α := (xs.reverse.dropWhile z).reverse
theorem trimB_zero {α : Type} {z : α → Bool} (xs : List α) {x : α} (h : z x = true) : trimB z (xs ++ [x]) = trimB z xs := by simp [trimB, h]
theorem trimB_pos {α : Type} {z : α → Bool} (xs : List α) {x : α} (h : z x = false) : trimB z (xs ++ [x]) = xs ++ [x] := by simp [trimB, h]
def z0 : Z := ⟨false, []⟩
def p0 : Pol := .mk 0 z0 []
def R1 (n : Int) : Pol := .mk 0 (ofI n) []
theorem ofI_zero : ofI 0 = z0 := by simp [ofI, z0, dig_zero]
theorem constP_zero : R1 0 = p0 := by rw [R1, ofI_zero]; rfl
def atP (cs : List Pol) (i : Nat) : Pol := cs.getD i p0
theorem atP_some {cs : List Pol} {i : Nat} (h : i < cs.length) : cs[i]? = some (atP cs i) := by
 unfold atP; simp [List.getD_eq_getElem?_getD, List.getElem?_eq_getElem h]
theorem atP_at {cs : List Pol} {i : Int} {j : Nat} (h1 : i.toNat = j) (h2 : j < cs.length) : cs[i.toNat]? = some (atP cs j) := by subst h1; exact atP_some h2
theorem Y3 {cs : List Pol} {i : Nat} (h : i < cs.length) : atP cs i ∈ cs := by
 have := atP_some h
 exact List.mem_of_getElem? this
theorem take_snocP {cs : List Pol} {n : Nat} (h0 : 0 < n) (h1 : n ≤ cs.length) : cs.take n = cs.take (n - 1) ++ [atP cs (n - 1)] := by
 have hlt : n - 1 < cs.length := by omega
 have := List.take_succ_eq_append_getElem (l := cs) (i := n - 1) hlt
 rw [show n - 1 + 1 = n by omega] at this
 rw [this, atP, List.getD_eq_getElem?_getD, List.getElem?_eq_getElem hlt]
 rfl
def Z5 (p : Pol) : Bool := decide (p.lv = 0) && decide (X4 p.c = 0)
theorem sgn_eq0 {n : Int} : decide (sgn n = 0) = decide (n = 0) := by
 rw [decide_eq_decide]; rcases N0 n with q | q | q <;> omega
def trimP (cs : List Pol) : List Pol := trimB Z5 cs
theorem trimP_step {cs : List Pol} {n : Nat} (h0 : 0 < n) (h1 : n ≤ cs.length) (h : Z5 (atP cs (n - 1)) = true) : trimP (cs.take (n - 1)) = trimP (cs.take n) := by
 rw [take_snocP h0 h1, trimP, trimP, trimB_zero _ h]
theorem trimP_stop {cs : List Pol} {n : Nat} (h1 : n ≤ cs.length) (h : ¬ 0 < n ∨ Z5 (atP cs (n - 1)) = false) : trimP (cs.take n) = cs.take n := by
 by_cases h0 : 0 < n
 ·rw [take_snocP h0 h1, trimP, trimB_pos _ (by rcases h with h | h; exact absurd h0 h; exact h)]
 ·rw [show n = 0 by omega]; rfl
def U0 (l : Int) (cs : List Pol) : Pol := match trimP cs with
 | [] => p0
 | [p] => p
 | ps => .mk l z0 ps
theorem joinP_0 {l : Int} {cs : List Pol} {n : Nat} (h : trimP (cs.take n) = trimP cs) (h2 : trimP (cs.take n) = cs.take n) (hn : n = 0) : p0 = U0 l cs := by
 subst hn; unfold U0; rw [← h]; rfl
theorem joinP_1 {l : Int} {cs : List Pol} {n : Nat} (h : trimP (cs.take n) = trimP cs) (h2 : trimP (cs.take n) = cs.take n) (hl : n ≤ cs.length) (hn : n = 1) : atP cs 0 = U0 l cs := by
 subst hn
 unfold U0; rw [← h, h2, take_snocP (by decide) hl]; rfl
theorem joinP_2 {l : Int} {cs : List Pol} {n : Nat} (h : trimP (cs.take n) = trimP cs) (h2 : trimP (cs.take n) = cs.take n) (hl : n ≤ cs.length) (h0 : ¬ n = 0) (hn : ¬ n = 1) : Pol.mk l z0 (cs.take n) = U0 l cs := by
 unfold U0; rw [← h, h2]
 match hc : cs.take n with
 | [] => have := congrArg List.length hc; rw [List.length_take, Nat.min_eq_left hl] at this; exact absurd this h0
 | [x] => have := congrArg List.length hc; rw [List.length_take, Nat.min_eq_left hl] at this; exact absurd this hn
 | x :: y :: r => rfl
def Z0 (p : Pol) (l : Int) : List Pol := if p.lv = l ∧ 0 < l then p.cs else [p]
inductive Fit (B : Nat) : Pol → Prop
 | mk {l : Int} {c : Z} {cs : List Pol} (h0 : U7 c.abs) (h1 : c.abs.length ≤ B) (h2 : cs.length ≤ 4294967296) (h3 : ∀ q ∈ cs, Fit B q) : Fit B (.mk l c cs)
variable {B D : Nat}
theorem Fit.d {p : Pol} (h : Fit B p) : U7 p.c.abs := by cases h; assumption
theorem Fit.c {p : Pol} (h : Fit B p) : p.c.abs.length ≤ B := by cases h; assumption
theorem Fit.cs {p : Pol} (h : Fit B p) : p.cs.length ≤ 4294967296 := by cases h; assumption
theorem Fit.sub {p : Pol} (h : Fit B p) : ∀ q ∈ p.cs, Fit B q := by cases h; assumption
theorem Fit.at {p : Pol} (h : Fit B p) {i : Nat} (hi : i < p.cs.length) : Fit B (atP p.cs i) := h.sub _ (Y3 hi)
theorem fit_p0 : Fit B p0 := .mk (fun d h => by cases h) (Nat.zero_le _) (Nat.zero_le _) (fun q h => by cases h)
theorem fit_const {n : Int} (h : (dig n.natAbs).length ≤ B) : Fit B (R1 n) := .mk (digs_dig _) h (Nat.zero_le _) (fun q h => by cases h)
theorem trimB_sub {α : Type} {z : α → Bool} {xs : List α} {x : α} (h : x ∈ trimB z xs) : x ∈ xs := by
 have := (List.dropWhile_sublist z (l := xs.reverse)).subset (List.mem_reverse.1 h)
 exact List.mem_reverse.1 this
theorem trimB_len {α : Type} {z : α → Bool} {xs : List α} : (trimB z xs).length ≤ xs.length := by
 have := (List.dropWhile_sublist z (l := xs.reverse)).length_le
 simpa [trimB] using this
theorem joinP_cases {C : Pol → Prop} {l : Int} {cs : List Pol} (h0 : C p0) (h1 : ∀ q ∈ cs, C q) (h2 : 2 ≤ (trimP cs).length → C (.mk l z0 (trimP cs))) : C (U0 l cs) := by
 unfold U0
 split
 ·exact h0
 ·rename_i p h; exact h1 _ (trimB_sub (z := Z5) (by show p ∈ trimP cs; rw [h]; simp))
 ·rename_i h h'
  refine h2 ?_
  match hc : trimP cs with
  | [] => exact absurd hc h
  | [x] => exact absurd hc (h' x)
  | x :: y :: r => simp
theorem joinP_fit {l : Int} {cs : List Pol} (hl : cs.length ≤ 4294967296) (h : ∀ q ∈ cs, Fit B q) : Fit B (U0 l cs) :=
 joinP_cases fit_p0 h fun _ => .mk (fun d h => by cases h) (Nat.zero_le _) (Nat.le_trans trimB_len hl) (fun q hq => h q (trimB_sub hq))
theorem val_pow {z : Z} (h : U7 z.abs) : (X4 z).natAbs < B32 ^ z.abs.length := by
 have := val_lt h
 have e : (X4 z).natAbs = val z.abs := by unfold X4; split <;> simp
 rw [e]; exact this
theorem dig_zval {z : Z} (h : U7 z.abs) : (dig (X4 z).natAbs).length ≤ z.abs.length := R8 (val_pow h)
theorem natAbs_dig (n : Int) : n.natAbs < B32 ^ (dig n.natAbs).length := lt_dig_len _
theorem pow_mono {a b : Nat} (h : a ≤ b) : B32 ^ a ≤ B32 ^ b := Nat.pow_le_pow_right (by decide) h
theorem mul_fit {a b : Int} (ha : (dig a.natAbs).length ≤ B) (hb : (dig b.natAbs).length ≤ D) : (dig (a * b).natAbs).length ≤ B + D := by
 refine R8 ?_
 rw [Int.natAbs_mul, Nat.pow_add]
 have h1 := Nat.lt_of_lt_of_le (natAbs_dig a) (pow_mono ha)
 have h2 := Nat.lt_of_lt_of_le (natAbs_dig b) (pow_mono hb)
 exact Nat.mul_lt_mul'' h1 h2
theorem add_fit {a b : Int} (ha : (dig a.natAbs).length ≤ B) (hb : (dig b.natAbs).length ≤ B) : (dig (a + b).natAbs).length ≤ B + 1 := by
 refine R8 ?_
 have h1 := Nat.lt_of_lt_of_le (natAbs_dig a) (pow_mono ha)
 have h2 := Nat.lt_of_lt_of_le (natAbs_dig b) (pow_mono hb)
 have h3 : (a + b).natAbs ≤ a.natAbs + b.natAbs := Int.natAbs_add_le a b
 rw [Nat.pow_succ]
 generalize B32 ^ B = P at *
 have h4 : P * 2 ≤ P * B32 := Nat.mul_le_mul_left _ (by decide)
 omega
-- c times a polynomial
mutual
def Z2 : Pol → Int → Pol
 | .mk l c cs, n => if l = 0 then R1 (X4 c * n) else U0 l (scalesP cs n)
def scalesP : List Pol → Int → List Pol
 | [], _ => []
 | p :: ps, n => Z2 p n :: scalesP ps n
end
theorem scalesP_eq (n : Int) : ∀ cs, scalesP cs n = cs.map (Z2 · n)
 | [] => by simp [scalesP]
 | p :: ps => by simp [scalesP, scalesP_eq n ps]
theorem scaleP_eq (p : Pol) (n : Int) : Z2 p n = if p.lv = 0 then R1 (X4 p.c * n) else U0 p.lv (p.cs.map (Z2 · n)) := by
 cases p with
 | mk l c cs => rw [Z2, scalesP_eq]; rfl
def fillP (f : Pol → Pol) (cs : List Pol) (k : Nat) : List Pol := (cs.take k).map f ++ List.replicate (cs.length - k) p0
theorem fillP_len {f : Pol → Pol} {cs : List Pol} {k : Nat} (h : k ≤ cs.length) : (fillP f cs k).length = cs.length := by simp [fillP]; omega
theorem fillP_zero {f : Pol → Pol} {cs : List Pol} : List.replicate cs.length p0 = fillP f cs 0 := by simp [fillP]
theorem fillP_full {f : Pol → Pol} {cs : List Pol} {k : Nat} (h : cs.length ≤ k) : fillP f cs k = cs.map f := by
 simp [fillP, List.take_of_length_le h, Nat.sub_eq_zero_of_le h]
theorem fillP_set {f : Pol → Pol} {cs : List Pol} {k : Nat} (h : k < cs.length) : (fillP f cs k).set k (f (atP cs k)) = fillP f cs (k + 1) := by
 unfold fillP
 have e : cs.take (k + 1) = cs.take k ++ [atP cs k] := by
  have := take_snocP (cs := cs) (n := k + 1) (by omega) (by omega)
  simpa using this
 have hl : ((cs.take k).map f).length = k := by simp; omega
 rw [List.set_append_right _ _ (by omega), hl, Nat.sub_self, e, List.map_append, show cs.length - k = (cs.length - (k + 1)) + 1 by omega, List.replicate_succ]
 simp
theorem Pol.ind {C : Pol → Prop} (h : ∀ p, (∀ q ∈ p.cs, C q) → C p) : ∀ p, C p :=
 fun p => Pol.rec (motive_1 := C) (motive_2 := fun cs => ∀ q ∈ cs, C q) (fun l c cs ih => h _ ih) (fun q hq => by cases hq) (fun p ps hp hps q hq => by
  cases hq with
  | head => exact hp
  | tail _ hq => exact hps q hq) p
theorem scaleP_fit {p : Pol} {n : Int} (h : Fit B p) (hn : (dig n.natAbs).length ≤ D) : Fit (B + D) (Z2 p n) := by
 induction p using Pol.ind
 rename_i p ih
 rw [scaleP_eq]
 split
 ·exact fit_const (mul_fit (Nat.le_trans (dig_zval h.d) h.c) hn)
 ·refine joinP_fit (by simpa using h.cs) fun q hq => ?_
  obtain ⟨x, hx, rfl⟩ := List.mem_map.1 hq
  exact ih x hx (h.sub x hx)
theorem dig1 : dig 1 = [1] := by rw [dig_pos (by decide)]; simp [dig_zero, B32]
theorem ofI1_len : (ofI 1).abs.length = 1 := by simp [ofI, dig1]
theorem ofIm1_len : (ofI (-1)).abs.length = 1 := by simp [ofI, dig1]
def varP (l : Int) : Pol := if l < 1 ∨ 4 < l then p0 else .mk l z0 [p0, R1 1]
theorem encP_zero {s : St} : Q5.C p0 (Value.agg #[.int .i64 0, .bool false, .slice none 0 0, .slice none 0 0]).cells.toList s := by
 refine ⟨by rw [Q0]; rfl, ?_⟩
 rw [Q0]
 exact ⟨rfl, rfl, rfl, rfl, Q9 _ _, rfl, Q9 _ _, rfl, trivial⟩
-- is p canonical, with a level below b?
mutual
def canonB : Pol → Int → Bool
 | .mk l c cs, b => if l = 0 then decide (cs.length = 0) && (!c.neg || !decide (X4 c = 0))
  else !(decide (l < 0) || decide (b ≤ l) || decide (cs.length < 2) || !decide (X4 c = 0)) && cansB cs l && !Z5 (atP cs (cs.length - 1))
def cansB : List Pol → Int → Bool
 | [], _ => true
 | p :: ps, b => canonB p b && cansB ps b
end
theorem cansB_eq (b : Int) : ∀ cs, cansB cs b = cs.all (canonB · b)
 | [] => by simp [cansB]
 | p :: ps => by simp [cansB, cansB_eq b ps]
theorem canonB_eq (p : Pol) (b : Int) : canonB p b = if p.lv = 0 then decide (p.cs.length = 0) && (!p.c.neg || !decide (X4 p.c = 0))
  else !(decide (p.lv < 0) || decide (b ≤ p.lv) || decide (p.cs.length < 2) || !decide (X4 p.c = 0)) && p.cs.all (canonB · p.lv) && !Z5 (atP p.cs (p.cs.length - 1)) := by
 cases p with
 | mk l c cs => rw [canonB, cansB_eq]; rfl
theorem canon_0 {p : Pol} {b : Int} (h : p.lv = 0) : (decide ((p.cs.length : Int) = 0) && (!p.c.neg || !decide (sgn (X4 p.c) = 0))) = canonB p b := by
 rw [canonB_eq, if_pos h, sgn_eq0]; congr 1; rw [decide_eq_decide]; omega
theorem canon_no {p : Pol} {b : Int} (h : ¬ p.lv = 0) (h1 : ((p.lv < 0 ∨ b ≤ p.lv) ∨ (p.cs.length : Int) < 2) ∨ ¬ sgn (X4 p.c) = 0) : false = canonB p b := by
 have h2 : (decide (p.lv < 0) || decide (b ≤ p.lv) || decide (p.cs.length < 2) || !decide (X4 p.c = 0)) = true := by
  simp only [Bool.or_eq_true, Bool.not_eq_true', decide_eq_true_eq, decide_eq_false_iff_not]
  rcases h1 with ((h1 | h1) | h1) | h1
  ·exact .inl (.inl (.inl h1))
  ·exact .inl (.inl (.inr h1))
  ·exact .inl (.inr (by omega))
  ·exact .inr (fun h3 => h1 (by rw [h3]; rfl))
 rw [canonB_eq, if_neg h, h2]; rfl
theorem canon_sub {p : Pol} {b : Int} {k : Nat} (h : ¬ p.lv = 0) (hk : k < p.cs.length) (h1 : canonB (atP p.cs k) p.lv = false) : false = canonB p b := by
 have h2 : p.cs.all (canonB · p.lv) = false := by
  rw [List.all_eq_false]; exact ⟨atP p.cs k, Y3 hk, by simp [h1]⟩
 rw [canonB_eq, if_neg h, h2, Bool.and_false]; rfl
theorem canon_end {p : Pol} {b : Int} {k : Nat} (h : ¬ p.lv = 0) (h1 : ((¬ p.lv < 0 ∧ ¬ b ≤ p.lv) ∧ ¬ (p.cs.length : Int) < 2) ∧ sgn (X4 p.c) = 0) (hk : p.cs.length ≤ k) (h2 : (p.cs.take k).all (canonB · p.lv) = true) : (!Z5 (atP p.cs (p.cs.length - 1))) = canonB p b := by
 rw [List.take_of_length_le hk] at h2
 have h3 : X4 p.c = 0 := by rcases N0 (X4 p.c) with q | q | q <;> omega
 obtain ⟨⟨⟨q1, q2⟩, q3⟩, _⟩ := h1
 rw [canonB_eq, if_neg h, h2, decide_eq_false q1, decide_eq_false q2, decide_eq_false (show ¬ p.cs.length < 2 by omega), decide_eq_true h3]; rfl
theorem all_take {f : Pol → Bool} {cs : List Pol} {k : Nat} (hk : k < cs.length) (h : (cs.take k).all f = true) (h1 : f (atP cs k) = true) : (cs.take (k + 1)).all f = true := by
 have := take_snocP (cs := cs) (n := k + 1) (by omega) (by omega)
 rw [this]; simp at h ⊢; exact ⟨h, h1⟩
def normC (p : Pol) : Pol := if p.lv ≤ 0 then R1 (X4 p.c) else if 4 < p.lv then p0 else Z2 p 1
def zipP (f : Pol → Pol → Pol) : List Pol → List Pol → List Pol
 | xs, [] => xs
 | [], y :: ys => y :: ys
 | x :: xs, y :: ys => f x y :: zipP f xs ys
theorem zipP_nil (f : Pol → Pol → Pol) (xs : List Pol) : zipP f xs [] = xs := by cases xs <;> rfl
theorem zipP_nil' (f : Pol → Pol → Pol) (ys : List Pol) : zipP f [] ys = ys := by cases ys <;> rfl
theorem zipP_len (f : Pol → Pol → Pol) : ∀ xs ys : List Pol, (zipP f xs ys).length = max xs.length ys.length
 | xs, [] => by rw [zipP_nil]; simp
 | [], y :: ys => by rw [zipP_nil']; simp
 | x :: xs, y :: ys => by simp only [zipP, List.length_cons, zipP_len f xs ys]; omega
theorem zipP_at (f : Pol → Pol → Pol) : ∀ (k : Nat) (xs ys : List Pol), k < xs.length → atP (zipP f xs (ys.take k)) k = atP xs k
 | 0, xs, ys, h => by simp [zipP_nil]
 | k + 1, xs, [], h => by simp [zipP_nil]
 | k + 1, x :: xs, y :: ys, h => by simpa [zipP, atP] using zipP_at f k xs ys (by simpa using h)
 | k + 1, [], y :: ys, h => by simp at h
theorem zipP_set (f : Pol → Pol → Pol) : ∀ (k : Nat) (xs ys : List Pol), k < xs.length → k < ys.length → (zipP f xs (ys.take k)).set k (f (atP xs k) (atP ys k)) = zipP f xs (ys.take (k + 1))
 | 0, x :: xs, y :: ys, h, h' => by simp [zipP, zipP_nil, atP]
 | k + 1, x :: xs, y :: ys, h, h' => by simpa [zipP, atP] using zipP_set f k xs ys (by simpa using h) (by simpa using h')
 | _, [], _, h, _ => by simp at h
 | _, _ :: _, [], _, h => by simp at h
theorem zipP_snoc (f : Pol → Pol → Pol) : ∀ (k : Nat) (xs ys : List Pol), xs.length ≤ k → k < ys.length → zipP f xs (ys.take k) ++ [atP ys k] = zipP f xs (ys.take (k + 1))
 | k, [], ys, h, h' => by
  rw [zipP_nil', zipP_nil']
  have := take_snocP (cs := ys) (n := k + 1) (by omega) (by omega)
  simpa using this.symm
 | 0, x :: xs, ys, h, h' => by simp at h
 | k + 1, x :: xs, y :: ys, h, h' => by simpa [zipP, atP] using zipP_snoc f k xs ys (by simpa using h) (by simpa using h')
 | _ + 1, _ :: _, [], _, h => by simp at h
theorem zipP_len_take {f : Pol → Pol → Pol} {k : Nat} {xs ys : List Pol} (h : k ≤ ys.length) : (zipP f xs (ys.take k)).length = max xs.length k := by rw [zipP_len]; simp; omega
theorem takeP_snoc {cs : List Pol} {k : Nat} (h : k < cs.length) : cs.take k ++ [atP cs k] = cs.take (k + 1) := by
 have := take_snocP (cs := cs) (n := k + 1) (by omega) (by omega)
 simpa using this.symm
theorem takeP_one {cs : List Pol} (h : 0 < cs.length) : [atP cs 0] = cs.take 1 := by
 have := takeP_snoc h
 simpa using this
def K0 : Nat → Pol → Pol → Pol
 | 0, p, q => R1 (X4 p.c + X4 q.c)
 | k + 1, p, q => if max p.lv q.lv = 0 then R1 (X4 p.c + X4 q.c) else U0 (max p.lv q.lv) (zipP (K0 k) (Z0 p (max p.lv q.lv)) (Z0 q (max p.lv q.lv)))
inductive Lev : Nat → Pol → Prop
 | zero {k : Nat} {c : Z} {cs : List Pol} : Lev k (.mk 0 c cs)
 | succ {k l : Nat} {c : Z} {cs : List Pol} (h : l + 1 ≤ k) (hc : 0 < cs.length) (hs : ∀ q ∈ cs, Lev l q) : Lev k (.mk ((l + 1 : Nat) : Int) c cs)
theorem Lev.mono {k m : Nat} {p : Pol} (h : Lev k p) (hm : k ≤ m) : Lev m p := by
 cases h with
 | zero => exact .zero
 | succ h hc hs => exact .succ (Nat.le_trans h hm) hc hs
theorem Lev.lv {k : Nat} {p : Pol} (h : Lev k p) : 0 ≤ p.lv ∧ p.lv ≤ k := by
 cases h with
 | zero => simp only [Pol.lv]; omega
 | succ h hc hs => simp only [Pol.lv]; omega
theorem Lev.coefs {k : Nat} {p : Pol} {l : Int} (h : Lev (k + 1) p) (hl : 0 < l) (hl1 : p.lv ≤ l) (hl2 : l ≤ k + 1) : 0 < (Z0 p l).length ∧ ∀ q ∈ Z0 p l, Lev k q := by
 unfold Z0
 cases h with
 | zero =>
  rw [if_neg (by simp only [Pol.lv]; omega)]
  exact ⟨by simp, fun q hq => by simp at hq; subst hq; exact .zero⟩
 | succ h hc hs =>
  rename_i m c cs
  by_cases he : ((m + 1 : Nat) : Int) = l
  ·rw [if_pos ⟨he, hl⟩]
   exact ⟨hc, fun q hq => (hs q hq).mono (by omega)⟩
  ·rw [if_neg (fun h => he h.1)]
   exact ⟨by simp, fun q hq => by
    simp at hq; subst hq
    simp only [Pol.lv] at hl1
    exact .succ (by omega) hc hs⟩
theorem coefs_fit {p : Pol} {l : Int} (h : Fit B p) : (Z0 p l).length ≤ 4294967296 ∧ ∀ q ∈ Z0 p l, Fit B q := by
 unfold Z0
 split
 ·exact ⟨h.cs, h.sub⟩
 ·exact ⟨by simp, fun q hq => by simp at hq; subst hq; exact h⟩
theorem zipP_all {f : Pol → Pol → Pol} {C : Pol → Prop} : ∀ {xs ys : List Pol}, (∀ x ∈ xs, C x) → (∀ y ∈ ys, C y) → (∀ x ∈ xs, ∀ y ∈ ys, C (f x y)) → ∀ z ∈ zipP f xs ys, C z
 | xs, [], hx, _, _ => by rw [zipP_nil]; exact hx
 | [], y :: ys, _, hy, _ => by rw [zipP_nil']; exact hy
 | x :: xs, y :: ys, hx, hy, hf => by
  intro z hz
  cases hz with
  | head => exact hf _ (.head _) _ (.head _)
  | tail _ hz => exact zipP_all (fun x h => hx x (.tail _ h)) (fun y h => hy y (.tail _ h)) (fun x h y h' => hf x (.tail _ h) y (.tail _ h')) z hz
theorem Fit.mono {p : Pol} (h : Fit B p) (hd : B ≤ D) : Fit D p := by
 induction p using Pol.ind
 rename_i p ih
 cases h with
 | mk h0 h1 h2 h3 => exact .mk h0 (Nat.le_trans h1 hd) h2 fun q hq => ih q hq (h3 q hq)
theorem addF_fit : ∀ {k : Nat} {p q : Pol}, Lev k p → Lev k q → Fit B p → Fit B q → Fit (B + 1) (K0 k p q)
 | 0, p, q, _, _, hp, hq => fit_const (add_fit (Nat.le_trans (dig_zval hp.d) hp.c) (Nat.le_trans (dig_zval hq.d) hq.c))
 | k + 1, p, q, lp, lq, hp, hq => by
  unfold K0
  split
  ·exact fit_const (add_fit (Nat.le_trans (dig_zval hp.d) hp.c) (Nat.le_trans (dig_zval hq.d) hq.c))
  ·rename_i hne
   have h1 := lp.lv; have h2 := lq.lv
   have c1 := lp.coefs (l := max p.lv q.lv) (by omega) (by omega) (by omega)
   have c2 := lq.coefs (l := max p.lv q.lv) (by omega) (by omega) (by omega)
   have f1 := coefs_fit (l := max p.lv q.lv) hp
   have f2 := coefs_fit (l := max p.lv q.lv) hq
   refine joinP_fit (by rw [zipP_len]; omega) (zipP_all (fun x hx => (f1.2 x hx).mono (Nat.le_succ _)) (fun y hy => (f2.2 y hy).mono (Nat.le_succ _)) fun x hx y hy => addF_fit (c1.2 x hx) (c2.2 y hy) (f1.2 x hx) (f2.2 y hy))
theorem add_parts {k : Nat} {p q : Pol} (lp : Lev (k + 1) p) (lq : Lev (k + 1) q) (hp : Fit B p) (hq : Fit B q) (hne : ¬ max p.lv q.lv = 0) :
  (0 < (Z0 p (max p.lv q.lv)).length ∧ (Z0 p (max p.lv q.lv)).length ≤ 4294967296 ∧ (Z0 q (max p.lv q.lv)).length ≤ 4294967296) ∧
  (∀ x ∈ Z0 p (max p.lv q.lv), Lev k x ∧ Fit B x) ∧ (∀ y ∈ Z0 q (max p.lv q.lv), Lev k y ∧ Fit B y) ∧
  (zipP (K0 k) (Z0 p (max p.lv q.lv)) (Z0 q (max p.lv q.lv))).length ≤ 4294967296 ∧ ∀ z ∈ zipP (K0 k) (Z0 p (max p.lv q.lv)) (Z0 q (max p.lv q.lv)), Fit (B + 1) z := by
 have h1 := lp.lv; have h2 := lq.lv
 have c1 := lp.coefs (l := max p.lv q.lv) (by omega) (by omega) (by omega)
 have c2 := lq.coefs (l := max p.lv q.lv) (by omega) (by omega) (by omega)
 have f1 := coefs_fit (l := max p.lv q.lv) hp
 have f2 := coefs_fit (l := max p.lv q.lv) hq
 refine ⟨⟨c1.1, f1.1, f2.1⟩, fun x hx => ⟨c1.2 x hx, f1.2 x hx⟩, fun y hy => ⟨c2.2 y hy, f2.2 y hy⟩, by rw [zipP_len]; omega, ?_⟩
 exact zipP_all (fun x hx => (f1.2 x hx).mono (Nat.le_succ _)) (fun y hy => (f2.2 y hy).mono (Nat.le_succ _)) fun x hx y hy => addF_fit (c1.2 x hx) (c2.2 y hy) (f1.2 x hx) (f2.2 y hy)
theorem addF_join {k : Nat} {p q : Pol} (h : ¬ max p.lv q.lv = 0) : U0 (max p.lv q.lv) (zipP (K0 k) (Z0 p (max p.lv q.lv)) (Z0 q (max p.lv q.lv))) = K0 (k + 1) p q := by
 rw [K0.eq_2, if_neg h]
theorem addF_const {k : Nat} {p q : Pol} (h : max p.lv q.lv = 0) : R1 (X4 p.c + X4 q.c) = K0 k p q := by
 cases k with
 | zero => rfl
 | succ k => unfold K0; rw [if_pos h]
theorem zipP_l3 {f : Pol → Pol → Pol} {xs ys : List Pol} (k : Nat) (h : k ≤ ys.length) : xs.length ≤ (zipP f xs (ys.take k)).length ∧ k ≤ (zipP f xs (ys.take k)).length ∧ ((zipP f xs (ys.take k)).length = xs.length ∨ (zipP f xs (ys.take k)).length = k) := by
 rw [zipP_len_take h]; omega
theorem zipP_el {f : Pol → Pol → Pol} {k : Nat} {xs ys : List Pol} (h : k < xs.length) (h1 : k ≤ ys.length) : (zipP f xs (ys.take k))[k]? = some (atP xs k) := by
 rw [atP_some (by rw [zipP_len_take h1]; omega), zipP_at f k xs ys h]
theorem two_at0 {xs ys : List Pol} {i : Int} (h : i.toNat = 0) : [xs, ys][i.toNat]? = some xs := by rw [h]; rfl
theorem two_at1 {xs ys : List Pol} {i : Int} (h : i.toNat = 1) : [xs, ys][i.toNat]? = some ys := by rw [h]; rfl
theorem encSl_in {α : Type} {E : Enc α} {xs : List α} : ∀ v s, (tSl E xs).p v s → (tV (encSl E) xs).p v s := fun v s h => by
 obtain ⟨A, n, c, rfl, h2⟩ := h
 exact ⟨rfl, _, rfl, A, n, c, rfl, h2⟩
theorem encSl_ld {α : Type} {E : Enc α} {xs : List α} : ∀ cs s, (cEnc (encSl E) xs).p cs s → ∃ v, cs[0]? = some v ∧ (tSl E xs).p v s := fun cs s ⟨v, h1, h2⟩ => ⟨v, by rw [h1]; rfl, h2⟩
end Go.Rt
namespace Go.Rt
open Go Go.RowKit
variable {X : Cx} {ops : Array Oper} {Q : Exit → Act → World → Prop} {rest : List Oper} {Γ : Gam} {H : Hp}
variable {dst : Option Tmp} {ty : TypeId} {pos : String} {af : Array Edge} {gd : Option (Nat × Bool)} {o : Oper} {T T' : Ty}
theorem sub_freezeP {b e : Nat} {R R' : CTy} {H' : Hp} (ts : List Nat) (hts : AllL Γ (X7 b 0) ts) (hr : HRem ⟨b, e, R⟩ H H') (hR : ∀ cs s, R.p cs s → R'.p cs s) :
  ∀ a w, Sat X Γ H a w → Sat X (setTs Γ (tPtr R') ts) H' a w := fun a w hs => by
 have hs' := X3 hr.sub a w hs
 refine ⟨hs'.size, hs'.defers, hs'.m0, hs'.below, fun i U hU => ?_, hs'.hp⟩
 rcases setTs_look hU with ⟨hi, rfl⟩ | hU
 ·have hv : a.tmps.getD i undef = .pointer (some ⟨b, 0, none⟩) := hs.slots i _ (hts.spec i hi)
  obtain ⟨hb0, cs, hcs, h1⟩ := hs.hp.1 _ hr.mem
  have hnm : ¬ mask X.M0 H' b := by
   rintro (hm | ⟨e', he', hb⟩)
   ·have h4 := hs.m0 b hm
    have hb0' : X.w0.heap.size ≤ b ∨ b ∈ X.L := hb0
    rcases hb0' with q | q
    ·omega
    ·exact h4.2 q
   ·exact hr.ne hs.hp.2 e' he' hb
  refine ⟨b, 0, cs.toList, hv, R'.up (mask_le fun e' he' => let ⟨e2, h4, h5, _⟩ := hr.sub.mem e' he'; ⟨e2, h4, h5⟩) (hR _ _ h1), fun j u hu => ⟨?_, hnm⟩⟩
  have hcs' : w.heap[b]? = some (.cells cs e (0, 0)) := hcs
  simp only [World.cell?, hcs', Nat.zero_add]
  simpa using hu
 ·exact hs'.slots i U hU
def Mo.at (m : Mo) (i : Nat) : Int := match i with | 0 => m.a | 1 => m.b | 2 => m.c | _ => m.d
def Mo.set (m : Mo) (i : Nat) (x : Int) : Mo := match i with | 0 => { m with a := x } | 1 => { m with b := x } | 2 => { m with c := x } | _ => { m with d := x }
theorem moT_at {m : Mo} {i : Nat} (h : i < 4) : (moT m)[i]? = some (tIs (.int .i64 (m.at i))) := by
 match i, h with
 | 0, _ => rfl
 | 1, _ => rfl
 | 2, _ => rfl
 | 3, _ => rfl
theorem moT_set {m : Mo} {i : Nat} {x : Int} (h : i < 4) : moT (m.set i x) = (moT m).set i (tIs (.int .i64 x)) := by
 match i, h with
 | 0, _ => rfl
 | 1, _ => rfl
 | 2, _ => rfl
 | 3, _ => rfl
def arB4 (P : Program) (t : TypeId) : Option TypeId := match P.underlying t with
 | some (.array 4 e) => match P.underlying e, P.info? e with
  | some (.int .i64), some i => if i.size == 1 && P.cellsOf e == 1 && !P.eqGuardType P.depth t then some e else none
  | _, _ => none
 | _ => none
theorem arB4_spec {P : Program} {t e : TypeId} (h : arB4 P t = some e) : P.underlying t = some (.array 4 e) ∧ P.underlying e = some (.int .i64) ∧ (∃ i, P.info? e = some i ∧ i.size = 1) ∧ P.cellsOf e = 1 ∧ P.eqGuardType P.depth t = false := by
 unfold arB4 at h
 split at h
 ·rename_i e' hu
  split at h
  ·rename_i i h1 h2
   split at h
   ·rename_i hc
    cases h
    simp only [Bool.and_eq_true, beq_iff_eq, Bool.not_eq_true'] at hc
    exact ⟨hu, h1, ⟨i, h2, hc.1.1⟩, hc.1.2, hc.2⟩
   ·cases h
  ·cases h
 ·cases h
theorem moV {v : Value} {m : Mo} {s : St} (h : (tV encMo m).p v s) : v = .agg #[.int .i64 m.a, .int .i64 m.b, .int .i64 m.c, .int .i64 m.d] := by
 obtain ⟨h1, _, h3⟩ := h
 cases v <;> first | (cases h1; done) | skip
 rename_i cs
 simp only [Value.cells] at h3
 have h4 := cellsP.length h3
 obtain ⟨l⟩ := cs
 simp only [moT, List.length_cons, List.length_nil] at h4 h3
 match l, h4, h3 with
 | [a, b, c, d], _, ⟨e1, _, e2, _, e3, _, e4, _, _⟩ =>
  have e1' : a = .int .i64 m.a := e1
  have e2' : b = .int .i64 m.b := e2
  have e3' : c = .int .i64 m.c := e3
  have e4' : d = .int .i64 m.d := e4
  rw [e1', e2', e3', e4']
theorem run_isAgg_int {P : Program} {e : TypeId} {k : IntKind} (h : P.underlying e = some (.int k)) (w : World) : (isAgg e).run P w = .ok false w := by
 simp [isAgg, run_underlying h]
theorem ot_indexA {t e : TypeId} {x y : Operand} {k : IntKind} {n : Int} {m : Mo} (hx : OpT Γ x (tV encMo m)) (hy : OpT Γ y (tIs (.int k n))) (ht : arB4 X.P t = some e) (h0 : 0 ≤ n) (h4 : n < 4) :
  R2 X Γ H ⟨dst, .index t x y, ty, pos, af, gd⟩ (tIs (.int .i64 (m.at n.toNat))) :=
 V4 fun a w hs => by
  have h1 := moV (hx.ev hs (Y1 (by simp [Op.operands])))
  have h2 : a.eval y = .int k n := hy.ev hs (Y1 (by simp [Op.operands]))
  obtain ⟨hu, he, ⟨i, hi, hsz⟩, _, _⟩ := arB4_spec ht
  refine ⟨.int .i64 (m.at n.toNat), w, ?_, Below.refl _ _, rfl⟩
  have hn : n = 0 ∨ n = 1 ∨ n = 2 ∨ n = 3 := by omega
  simp only [execOp, Instr.index, h1, h2, asIntOf, Sem.run_bind, Sem.run_pure, Result.andThen_ok, run_underlying hu, sizeOf, typeInfo, run_program, hi, hsz]
  rcases hn with rfl | rfl | rfl | rfl <;> simp [part, run_isAgg_int he, Mo.at, sizeOf, typeInfo, hi, hsz]
theorem ot_indexAddrA {t e : TypeId} {x y : Operand} {k : IntKind} {n : Int} {b o : Nat} (hx : OpT Γ x (X7 b o)) (hy : OpT Γ y (tIs (.int k n))) (ht : arB4 X.P t = some e) (h0 : 0 ≤ n) (h4 : n < 4) :
  R2 X Γ H ⟨dst, .indexAddr t x y, ty, pos, af, gd⟩ (X7 b (o + n.toNat)) :=
 V4 fun a w hs => by
  have h1 : a.eval x = .pointer (some ⟨b, o, none⟩) := hx.ev hs (Y1 (by simp [Op.operands]))
  have h2 : a.eval y = .int k n := hy.ev hs (Y1 (by simp [Op.operands]))
  obtain ⟨hu, he, ⟨i, hi, hsz⟩, _, _⟩ := arB4_spec ht
  refine ⟨_, w, ?_, Below.refl _ _, rfl⟩
  simp [execOp, Instr.indexAt, h1, h2, asIntOf, run_underlying hu, Instr.sureAddr, sizeOf, typeInfo, hi, hsz, h0, h4, add_at]
def cOne (T : Ty) : CTy := ⟨fun cs s => ∃ v, cs[0]? = some v ∧ T.p v s, fun hl ⟨v, h1, h2⟩ => ⟨v, h1, T.up hl h2⟩⟩
theorem cOne_ld {T : Ty} : ∀ cs s, (cOne T).p cs s → ∃ v, cs[0]? = some v ∧ T.p v s := fun _ _ h => h
theorem ot_indexAddrP {t e : TypeId} {x y : Operand} {k : IntKind} {n : Int} {R : CTy} {T : Ty} (hx : OpT Γ x (tPtr R)) (hy : OpT Γ y (tIs (.int k n))) (ht : arB4 X.P t = some e) (h0 : 0 ≤ n) (h4 : n < 4)
  (hR : ∀ cs s, R.p cs s → ∃ v, cs[n.toNat]? = some v ∧ T.p v s) :
  R2 X Γ H ⟨dst, .indexAddr t x y, ty, pos, af, gd⟩ (tPtr (cOne T)) :=
 V4 fun a w hs => by
  obtain ⟨b, o, cs, h1, hr, hc⟩ := hx.ev hs (Y1 (by simp [Op.operands]))
  have h2 : a.eval y = .int k n := hy.ev hs (Y1 (by simp [Op.operands]))
  obtain ⟨hu, he, ⟨i, hi, hsz⟩, _, _⟩ := arB4_spec ht
  obtain ⟨v, hv, hT⟩ := hR _ _ hr
  refine ⟨.pointer (some ⟨b, o + n.toNat, none⟩), w, ?_, Below.refl _ _, b, o + n.toNat, cs.drop n.toNat, rfl, ⟨v, by rw [List.getElem?_drop]; exact hv, hT⟩, fun j u hu' => ?_⟩
  ·simp [execOp, Instr.indexAt, h1, h2, asIntOf, run_underlying hu, Instr.sureAddr, sizeOf, typeInfo, hi, hsz, h0, h4, add_at]
  ·rw [List.getElem?_drop] at hu'
   have := hc _ _ hu'
   rwa [← Nat.add_assoc] at this
theorem mo_ld {m : Mo} {i : Nat} (h : i < 4) : ∀ cs s, (cTs (moT m)).p cs s → ∃ v, cs[i]? = some v ∧ (tIs (.int .i64 (m.at i))).p v s := Z8 (moT_at h)
theorem mo_st {m : Mo} {i : Nat} {x : Int} (h : i < 4) : ∀ cs v s, (cTs (moT m)).p cs s → (tIs (.int .i64 x)).p v s →
  v.cells.size = 1 ∧ i + 1 ≤ cs.length ∧ (∀ u ∈ v.cells.toList, u.oneCell' = true) ∧ (cTs (moT (m.set i x))).p (cs.take i ++ v.cells.toList ++ cs.drop (i + 1)) s :=
 st_cell (one_is rfl rfl) (moT_set h) (nat_blt.2 (by simpa [moT] using h))
theorem moEq {m n : Mo} : (m.a = n.a ∧ m.b = n.b ∧ m.c = n.c ∧ m.d = n.d) ↔ m = n := by
 obtain ⟨a, b, c, d⟩ := m
 obtain ⟨a', b', c', d'⟩ := n
 simp [Mo.mk.injEq]
instance : DecidableEq Mo := fun m n => decidable_of_iff _ moEq
theorem ot_eqA {t e yt : TypeId} {x y : Operand} {m n : Mo} (hx : OpT Γ x (tV encMo m)) (hy : OpT Γ y (tV encMo n)) (ht : arB4 X.P t = some e) :
  R2 X Γ H ⟨dst, .binOp .eql t x y yt, ty, pos, af, gd⟩ (tIs (.bool (decide (m = n)))) :=
 V4 fun a w hs => by
  have h1 := moV (hx.ev hs (Y1 (by simp [Op.operands])))
  have h2 := moV (hy.ev hs (Y1 (by simp [Op.operands])))
  obtain ⟨hu, he, ⟨i, hi, hsz⟩, hcl, hg⟩ := arB4_spec ht
  refine ⟨.bool (decide (m = n)), w, ?_, Below.refl _ _, rfl⟩
  have hd : decide (m = n) = ((m.a == n.a) && ((m.b == n.b) && ((m.c == n.c) && (m.d == n.d)))) := by
   rw [Bool.eq_iff_iff]; simp only [decide_eq_true_eq, Bool.and_eq_true, beq_iff_eq]; exact moEq.symm
  have hr4 : List.range 4 = [0, 1, 2, 3] := rfl
  simp only [execOp, h1, h2, Sem.run_bind, run_eqGuard_agg w _ _ _ _ _ _ hg, Result.andThen_ok, run_eql_struct, show (10000 : Nat) = 9999 + 1 from rfl, run_equalIn_array w 9999 _ _ hu hi, hcl, hr4]
  simp [Op.eqItems, part, run_isAgg_int he, run_equalIn_int w 9998 e .i64 .i64 _ _ he, hd]
  cases h : m.a == n.a <;> cases h' : m.b == n.b <;> cases h'' : m.c == n.c <;> cases h3 : m.d == n.d <;> simp_all
def encN : Enc Int := { sz := 1, ag := false, C := fun n cs _ => cs = [.int .i64 n], up := fun _ h => h, len := fun h => by rw [h]; rfl, one := fun h => by rw [h]; simp [Value.oneCell'] }
theorem encN_ld {n : Int} : ∀ cs s, (cEnc encN n).p cs s → ∃ v, cs[0]? = some v ∧ (tIs (.int .i64 n)).p v s := fun cs s h => by
 have h' : cs = [.int .i64 n] := h
 exact ⟨_, by rw [h']; rfl, rfl⟩
def Mo.list (m : Mo) : List Int := [m.a, m.b, m.c, m.d]
theorem ot_sliceA {t e : TypeId} {x : Operand} {R : CTy} {m : Mo} (hx : OpT Γ x (tPtr R)) (ht : arB4 X.P t = some e) (hR : ∀ cs s, R.p cs s → ∀ i, i < 4 → cs[i]? = some (.int .i64 (m.at i))) :
  R2 X Γ H ⟨dst, .slice t x none none none, ty, pos, af, gd⟩ (tSl encN m.list) :=
 V4 fun a w hs => by
  obtain ⟨b, o, cs, h1, hr, hc⟩ := hx.ev hs (Y1 (by simp [Op.operands]))
  obtain ⟨hu, he, ⟨i, hi, hsz⟩, _, _⟩ := arB4_spec ht
  refine ⟨.slice (some ⟨b, o, none⟩) 4 4, w, ?_, Below.refl _ _, some ⟨b, o, none⟩, 4, 4, rfl, rfl, Nat.le_refl _, fun _ => ⟨b, o, rfl, fun j x hx => ⟨[.int .i64 x], rfl, fun l u hu' => ?_⟩⟩⟩
  ·simp [execOp, Instr.sliceAt, run_underlying hu, h1, Instr.sureAddr, Instr.sliceBounds, sizeOf, typeInfo, hi, hsz, add_at]
  ·have hj : j < 4 := by have := (List.getElem?_eq_some_iff.1 hx).1; simpa [Mo.list] using this
   have hl : l = 0 := by have := (List.getElem?_eq_some_iff.1 hu').1; simpa using this
   subst hl
   simp only [List.getElem?_cons_zero, Option.some.injEq] at hu'
   subst hu'
   have h2 := hR _ _ hr j hj
   have h3 : x = m.at j := by
    match j, hj with
    | 0, _ => simpa [Mo.list, Mo.at] using hx.symm
    | 1, _ => simpa [Mo.list, Mo.at] using hx.symm
    | 2, _ => simpa [Mo.list, Mo.at] using hx.symm
    | 3, _ => simpa [Mo.list, Mo.at] using hx.symm
   subst h3
   have := hc _ _ h2
   show (⟨w, mask X.M0 H⟩ : St).cell b (o + j * 1 + 0) _
   rwa [Nat.mul_one, Nat.add_zero]
theorem tm_exp {t : Tm} : ∀ cs s, (cDrop (cEnc X5 t) 2).p cs s → ∀ i, i < 4 → cs[i]? = some (.int .i64 (t.exp.at i)) := fun cs s ⟨ds, hd, e⟩ i hi => by
 subst e
 have h0 : cellsP (tmT t) ds s := hd.2
 rw [List.getElem?_drop]
 match i, hi with
 | 0, _ => obtain ⟨v, h1, h2⟩ := cellsP.get (i := 2) h0 rfl; rw [h1]; exact congrArg some h2
 | 1, _ => obtain ⟨v, h1, h2⟩ := cellsP.get (i := 3) h0 rfl; rw [h1]; exact congrArg some h2
 | 2, _ => obtain ⟨v, h1, h2⟩ := cellsP.get (i := 4) h0 rfl; rw [h1]; exact congrArg some h2
 | 3, _ => obtain ⟨v, h1, h2⟩ := cellsP.get (i := 5) h0 rfl; rw [h1]; exact congrArg some h2
theorem vsP_app {Us : List Ty} {cap : List Value} : ∀ {Ts : List Ty} {vs : List Value} {s : St}, vsP Ts vs s → vsP Us cap s → vsP (Ts ++ Us) (vs ++ cap) s
 | [], [], _, _, h => h
 | [], _ :: _, _, h, _ => h.elim
 | _ :: _, [], _, h, _ => h.elim
 | _ :: _, _ :: _, _, h, h' => ⟨h.1, vsP_app h.2 h'⟩
theorem ot_callv {f : FuncId} {fo : Operand} {cap : List Value} {xs : List Operand} {Ts Us : List Ty} {T : Ty} {ats : Array TypeId} (hf : fnB X.P f = true) (hfo : OpT Γ fo (tFn f cap)) (hc : Ctr X.P f (Ts ++ Us) T) (hx : OpTs Γ xs Ts) (hcap : ∀ s, vsP Us cap s) :
  R2 X Γ H ⟨dst, .call { callee := .value fo, args := xs.toArray, argTypes := ats }, ty, pos, af, gd⟩ T := by
 intro a w hs
 have h1 : a.eval fo = .func (.func f) #[] cap.toArray := hfo.ev hs (fun i hi => Y1 (by simp [Op.operands, Call.operands]) i hi)
 have hv := hx.ev hs (fun x hx => Y1 (by simp [Op.operands, Call.operands, hx]))
 have h := hc w _ (mask_lt hs) _ (vsP_app hv (hcap _))
 unfold Oper.wp
 have hr := run_callL (ty := ty) (pos := pos) (af := af) (gd := gd) (xs := xs) (ats := ats) hf h1 (w := w) (d := dst)
 rw [hr]
 refine Calls.mono h ?_
 rintro e w' ⟨v, rfl, hb, hT⟩
 exact ⟨v, rfl, hb, hT⟩
theorem cTs_F {α : Type} {n : Nat} {f : α → List Ty} {x : α} {Ts : List Ty} (h : f x = Ts) (hn : Ts.length = n) : ∀ cs s, (cTs Ts).p cs s → (cEnc (encF n f) x).p cs s := fun cs s hc => ⟨by rw [h]; exact hn, by rw [h]; exact hc⟩
end Go.Rt
namespace Go.Rt
open Go Go.RowKit
variable {X : Cx} {Q : Exit → Act → World → Prop} {rest : List Oper} {Γ : Gam} {H : Hp}
variable {dst : Option Tmp} {ty : TypeId} {pos : String} {af : Array Edge} {gd : Option (Nat × Bool)} {o : Oper} {T T' : Ty}
def OpV (X : Cx) (Γ : Gam) (o : Oper) (v : Value) : Prop :=
 ∀ a : Act, (∀ i u, look Γ i = some (tIs u) → a.tmps.getD i undef = u) → ∀ w, (execOp a.eval o).run X.P w = .ok (.value v) w
theorem opv_move {t : Nat} {u : Value} (h : look Γ t = some (tIs u)) : OpV X Γ ⟨dst, .move (.tmp t), ty, pos, af, gd⟩ u := fun a ha w => by
 have : a.eval (.tmp t) = u := ha t u h
 simp [execOp, this]
theorem opv_sub {t : Nat} {tt yt : TypeId} {k : IntKind} {x y r : Int} (h : look Γ t = some (tIs (.int k x))) (hw : k.wrap (x - y) = r) : OpV X Γ ⟨dst, .binOp .sub tt (.tmp t) (.const (.int k y)) yt, ty, pos, af, gd⟩ (.int k r) := fun a ha w => by
 have h1 : a.eval (.tmp t) = .int k x := ha t _ h
 have h2 : a.eval (.const (.int k y)) = .int k y := rfl
 subst hw
 simp [execOp, h1, h2, eqGuard, binOp, Op.intArith]
inductive FL (X : Cx) (l : List Oper) : Array Bool → Gam → Array Bool → Gam → Prop
 | nil {L : Array Bool} {Γ : Gam} : FL X l L Γ L Γ
 | cons {L L' : Array Bool} {Γ Γ' : Gam} {i d : Nat} {o : Oper} {v : Value} (ho : l[i]? = some o) (hd : o.dst = some d) (hN : d < X.N) (hg : o.guard = none) (hv : OpV X Γ o v)
   (hf : Region.free .any l.toArray L i = true) (hr : (Region.ready .any l.toArray L).contains i = true) (next : FL X l (L.setIfInBounds i true) ((d, tIs v) :: Γ) L' Γ') : FL X l L Γ L' Γ'
theorem FL.run {l : List Oper} (hs : Region.noSelect l.toArray = true) (hQ : ∀ c a w d v, Q (.panic c) (Act.put a (some d) v) w → Q (.panic c) a w) {L L' : Array Bool} {Γ Γ' : Gam} (h : FL X l L Γ L' Γ') :
  L.size = l.length → ∃ m, unl L' l.length + m ≤ unl L l.length ∧ ∀ fuel, (∀ a w, Sat X Γ' H a w → wpAny X.P .any l.toArray Q fuel L' a w) → ∀ a w, Sat X Γ H a w → wpAny X.P .any l.toArray Q (fuel + m) L a w := by
 induction h with
 | nil => exact fun _ => ⟨0, Nat.le_refl _, fun fuel h => h⟩
 | cons ho hd hN hg hv hf hr next ih =>
  rename_i L L' Γ Γ' i d o v
  intro hL
  obtain ⟨m, hm, hrun⟩ := ih (by simpa using hL)
  have hil : i < l.length := (List.getElem?_eq_some_iff.1 ho).1
  have hun : L.getD i true = false := (mem_ready.1 (by simpa using hr)).1
  refine ⟨m + 1, ?_, fun fuel hK a w hsat => ?_⟩
  ·have := unl_set (l := L) (i := i) (N := l.length) hil hL hun
   omega
  ·refine wpAny_take (fuel := fuel + m) (by simpa using ho) hs hf hr (fun c a w h => hQ c a w d _ (by rw [hd] at h; exact h)) (.inl ⟨V6 hg _, fun w => hv a (fun j u hj => hsat.slots j _ hj) w⟩) ?_
   rw [hd]
   exact hrun fuel hK _ _ (hsat.put hN rfl)
theorem FL.size {l : List Oper} {L L' : Array Bool} {Γ Γ' : Gam} (h : FL X l L Γ L' Γ') : L'.size = L.size := by
 induction h with
 | nil => rfl
 | cons _ _ _ _ _ _ _ _ ih => simpa using ih
theorem FL.mono {l : List Oper} {L L' : Array Bool} {Γ Γ' : Gam} (h : FL X l L Γ L' Γ') : ∀ j, L.getD j false = true → L'.getD j false = true := by
 induction h with
 | nil => exact fun _ h => h
 | cons ho hd hN hg hv hf hr next ih =>
  rename_i L L' Γ Γ' i d o v
  intro j hj
  refine ih j ?_
  have hjl : j < L.size := by
   rcases Nat.lt_or_ge j L.size with q | q
   ·exact q
   ·rw [Array.getD_eq_getD_getElem?, Array.getElem?_eq_none q] at hj; cases hj
  by_cases hi : i < L.size
  ·rw [R6 hi]
   by_cases hij : i = j
   ·rw [if_pos hij]
   ·rw [if_neg hij]; exact hj
  ·rw [Array.setIfInBounds_eq_of_size_le (by omega)]; exact hj
theorem FL.old {l : List Oper} {L L' : Array Bool} {Γ Γ' : Gam} (h : FL X l L Γ L' Γ') (hL : L.size = l.length) : ∀ x, (∀ i, L'.getD i false = true → L.getD i false = false → W6 l i ≠ some x) → look Γ' x = look Γ x := by
 induction h with
 | nil => exact fun _ _ => rfl
 | cons ho hd hN hg hv hf hr next ih =>
  rename_i L L' Γ Γ' i d o v
  intro x hx
  have hil : i < L.size := by rw [hL]; exact (List.getElem?_eq_some_iff.1 ho).1
  have hun : L.getD i false = false := by rw [R7 hil false true]; exact (mem_ready.1 (by simpa using hr)).1
  have hi : L'.getD i false = true := next.mono i (by rw [R6 hil, if_pos rfl])
  have hne : d ≠ x := fun e => hx i hi hun (by simp [W6, ho, hd, e])
  rw [ih (by simpa using hL) x fun j h1 h2 => hx j h1 (by
   rw [R6 hil] at h2
   split at h2
   ·cases h2
   ·exact h2)]
  rw [T6]
  have : Nat.beq d x = false := by
   cases hb : Nat.beq d x with
   | false => rfl
   | true => exact absurd (R0.1 hb) hne
  rw [this]; rfl
theorem G_at {n : Nat} {G : Nat → Gam} {T : Nat → Ty} {all : List Oper} (hG : ∀ i, i < n → ∃ d, W6 all i = some d ∧ G (i + 1) = (d, T i) :: G i) (hok : ∀ i j, i < n → j < n → okPair all i j = true) {i x : Nat} (hi : i < n) (hx : W6 all i = some x) : look (G n) x = some (T i) := by
 have key : ∀ k, i + 1 + k ≤ n → look (G (i + 1 + k)) x = some (T i) := by
  intro k
  induction k with
  | zero =>
   intro _
   obtain ⟨d, h1, h2⟩ := hG i hi
   rw [hx] at h1; cases h1
   rw [Nat.add_zero, h2, T6, Nat.beq_refl]; rfl
  | succ k ih =>
   intro hk
   obtain ⟨d, h1, h2⟩ := hG (i + 1 + k) (by omega)
   rw [← Nat.add_assoc, h2, T6]
   have hne : d ≠ x := fun e => by
    subst e
    exact okPair_dst (hok i (i + 1 + k) hi (by omega)) (by omega) hx h1
   have : Nat.beq d x = false := by
    cases hb : Nat.beq d x with
    | false => rfl
    | true => exact absurd (R0.1 hb) hne
   rw [this]; exact ih (by omega)
 have := key (n - (i + 1)) (by omega)
 rwa [show i + 1 + (n - (i + 1)) = n by omega] at this
def okRF (all : List Oper) (n : Nat) (fl : List Nat) : Bool :=
 okEdges all && ((List.range n).all fun i => (List.range n).all fun j => okPair all i j) && Nat.ble n all.length &&
 (Nat.beq all.length n || (List.range n).all fun i => fl.contains i || (List.range (n + 1)).any fun j => Nat.blt i j && opAtB all j (backTo · i)) &&
 (List.range all.length).all fun q => !Nat.blt n q || opAtB all q (backTo · (q - 1))
def takenB (all : List Oper) (n : Nat) (fl : List Nat) (L : Array Bool) : Bool :=
 (List.range all.length).all fun i => (L.getD i false == fl.contains i) && (!fl.contains i || (Nat.blt i n && opAtB all i fun o => o.after.toList.all fun e => !Region.binds .any e || fl.contains e.on))
def agreeAll (l : List Oper) (Γ' Γf : Gam) : List Nat → Prop
 | [] => True
 | i :: r => (∃ d, W6 l i = some d ∧ look Γ' d = look Γf d) ∧ agreeAll l Γ' Γf r
theorem agreeAll.spec {l : List Oper} {Γ' Γf : Gam} : ∀ {fl : List Nat}, agreeAll l Γ' Γf fl → ∀ i ∈ fl, ∃ d, W6 l i = some d ∧ look Γ' d = look Γf d
 | _ :: _, h, _, .head _ => h.1
 | _ :: _, h, i, .tail _ hi => agreeAll.spec h.2 i hi
theorem JC.drawF {id : Nat} {l : List Oper} {Γ' Γf : Gam} {L' : Array Bool} (n : Nat) (fl : List Nat) (hm : X.P.follows .mixedOrders = true) (hok : okRF l n fl = true) (hs : Region.noSelect l.toArray = true)
  (hQ : ∀ c a w d v, Q (.panic c) (Act.put a (some d) v) w → Q (.panic c) a w) (hF : FL X l (Array.replicate l.length false) Γ L' Γf) (htk : takenB l n fl L' = true) (ht : TW X H l Γ (l.take n) Γ') (hag : agreeAll l Γ' Γf fl)
  (h : J X l.toArray Q (l.drop n) Γ' H) : JC X (.region id l.toArray true) Q Γ H := by
 intro a w hsat
 simp only [okRF, Bool.and_eq_true] at hok
 obtain ⟨⟨⟨⟨h1, h2⟩, h3⟩, h4⟩, h5⟩ := hok
 have hpair : ∀ i j, i < n → j < n → okPair l i j = true := fun i j hi hj => K9 (K9 h2 hi) hj
 have hnl := Nat.le_of_ble_eq_true h3
 obtain ⟨G, T, hG0, hGn, hG⟩ := ht.seq
 have hlen : (l.take n).length = n := by simp; omega
 rw [hlen] at hGn
 have hGd : ∀ i, i < n → ∃ d, W6 l i = some d ∧ G (i + 1) = (d, T i) :: G i := fun i hi => by
  have hlt : i < l.length := by omega
  obtain ⟨d, q1, _, q2, _⟩ := hG i l[i] (by rw [List.getElem?_take, if_pos hi]; exact List.getElem?_eq_getElem hlt)
  exact ⟨d, by simp [W6, List.getElem?_eq_getElem hlt, q1], q2⟩
 have hsz : L'.size = l.length := by rw [hF.size]; simp
 have hin : ∀ i, L'.getD i false = true → i ∈ fl ∧ i < n := fun i hi => by
  have hil : i < l.length := by
   rcases Nat.lt_or_ge i L'.size with q | q
   ·omega
   ·rw [Array.getD_eq_getD_getElem?, Array.getElem?_eq_none q] at hi; cases hi
  have := K9 htk hil
  simp only [Bool.and_eq_true, beq_iff_eq, hi] at this
  have hc : fl.contains i = true := this.1.symm
  rw [hc] at this
  simp only [Bool.not_true, Bool.false_or, Bool.and_eq_true] at this
  exact ⟨by simpa using hc, nat_blt.1 this.2.1⟩
 refine wp_region_any hm ?_
 have hb : Below w.heap.size w { w with drawn := w.drawn + 1 } := (Below.refl _ w).drew
 obtain ⟨m, hm1, hrun⟩ := hF.run (H := H) hs hQ (by simp)
 have hu0 : unl (Array.replicate l.length false) l.length ≤ l.length := by
  have := List.length_filter_le (fun i => !(Array.replicate l.length false).getD i true) (List.range l.length)
  simpa [unl] using this
 have key := hrun (l.length - m) (fun a w hsat => ?_) a _ (hsat.ext hb)
 ·rw [show l.length - m + m = l.length by omega] at key
  simpa using key
 ·refine region_run (Q := Q) (n := n) (fun i => fl.contains i) h1 hpair hnl (fun hne i hi => ?_) (fun q o hq ho => ?_) hG0 (fun i o hi ho => hG i o (by rw [List.getElem?_take, if_pos hi]; exact ho))
   (fun a w hs => (h a w (hGn ▸ hs)).list) (l.length - m) L' a w (by omega) ?_ (fun i hi hf => ?_) (fun q hq hql => ?_)
  ·simp only [Bool.or_eq_true, R0] at h4
   rcases h4 with h4 | h4
   ·exact absurd h4 hne
   ·have h6 := K9 h4 hi
    simp only [Bool.or_eq_true] at h6
    rcases h6 with h6 | h6
    ·exact .inl h6
    ·obtain ⟨j, hj, hjj⟩ := List.any_eq_true.1 h6
     simp only [Bool.and_eq_true] at hjj
     have hjl : j < l.length := by have := List.mem_range.1 hj; have := R0 (a := l.length) (b := n); omega
     refine .inr ⟨j, l[j], nat_blt.1 hjj.1, by have := List.mem_range.1 hj; omega, List.getElem?_eq_getElem hjl, ?_⟩
     simpa [opAtB, List.getElem?_eq_getElem hjl] using hjj.2
  ·have hql := (List.getElem?_eq_some_iff.1 ho).1
   have := K9 h5 hql
   rw [nat_blt.2 hq] at this
   simpa [opAtB, ho] using this
  ·refine ⟨hsat.size, hsat.defers, hsat.m0, hsat.below, hsat.hp, hsz, fun i o ho hi e he hbd => ?_, fun i x hi hl hx => ?_, fun x U hU hno => ?_⟩
   ·obtain ⟨hif, hin'⟩ := hin i hi
    have hil : i < l.length := by omega
    have h6 := K9 htk hil
    have hc : fl.contains i = true := by simpa using hif
    simp only [Bool.and_eq_true, hc, Bool.not_true, Bool.false_or] at h6
    have h7 := h6.2.2
    simp only [opAtB, ho] at h7
    have h8 := List.all_eq_true.1 h7 e (by simpa using he)
    rw [hbd] at h8
    simp only [Bool.not_true, Bool.false_or] at h8
    have hel : e.on < l.length := by have := okEdges_spec h1 ho e he hbd; omega
    have h9 := K9 htk hel
    simp only [Bool.and_eq_true, beq_iff_eq] at h9
    rw [h9.1]; exact h8
   ·obtain ⟨hif, _⟩ := hin i hl
    obtain ⟨d, q1, q2⟩ := hag.spec i hif
    rw [hx] at q1; cases q1
    have q3 := G_at hGd hpair hi hx
    rw [hGn, q2] at q3
    exact hsat.slots x _ q3
   ·have q := hF.old (by simp) x fun i q1 q2 => hno i (hin i q1).2 q1
    exact hsat.slots x U (q.trans hU)
  ·have hil : i < l.length := by omega
   have h9 := K9 htk hil
   simp only [Bool.and_eq_true, beq_iff_eq] at h9
   rw [h9.1]; exact hf
  ·cases hb : L'.getD q false with
   | false => rfl
   | true => have := (hin q hb).2; omega
section
variable {α β γ δ ε : Type} {c : Code}
theorem JC.loop5 (G : α → β → γ → δ → ε → Gam) (HH : α → β → γ → δ → ε → Hp) (inv : α → β → γ → δ → ε → Prop) (μ : α → β → γ → δ → ε → Nat) (a0 : α) (b0 : β) (c0 : γ) (d0 : δ) (e0 : ε) (h0 : inv a0 b0 c0 d0 e0) (hs0 : ∀ a w, Sat X Γ H a w → Sat X (G a0 b0 c0 d0 e0) (HH a0 b0 c0 d0 e0) a w)
  (round : ∀ i j k l m, inv i j k l m → JC X c (Exit.then (fun a w => ∃ n p q r s, inv n p q r s ∧ μ n p q r s < μ i j k l m ∧ Sat X (G n p q r s) (HH n p q r s) a w) Q) (G i j k l m) (HH i j k l m)) : JC X (.loop c) Q Γ H :=
 JC.loop (ι := α × β × γ × δ × ε) (fun i => G i.1 i.2.1 i.2.2.1 i.2.2.2.1 i.2.2.2.2) (fun i => HH i.1 i.2.1 i.2.2.1 i.2.2.2.1 i.2.2.2.2) (fun i => inv i.1 i.2.1 i.2.2.1 i.2.2.2.1 i.2.2.2.2) (fun i => μ i.1 i.2.1 i.2.2.1 i.2.2.2.1 i.2.2.2.2) (a0, b0, c0, d0, e0) h0 hs0
  fun i hi a w hs => then_mono (fun _ _ ⟨n, p, q, r, s, h⟩ => ⟨(n, p, q, r, s), h⟩) (round i.1 i.2.1 i.2.2.1 i.2.2.2.1 i.2.2.2.2 hi a w hs)
theorem JQ.round5 {G : α → β → γ → δ → ε → Gam} {HH : α → β → γ → δ → ε → Hp} {inv : α → β → γ → δ → ε → Prop} {μ : α → β → γ → δ → ε → Nat} {i : α} {i2 : β} {i3 : γ} {i4 : δ} {i5 : ε} (j : α) (j2 : β) (j3 : γ) (j4 : δ) (j5 : ε) (hj : inv j j2 j3 j4 j5) (hμ : μ j j2 j3 j4 j5 < μ i i2 i3 i4 i5) (hs : ∀ a w, Sat X Γ H a w → Sat X (G j j2 j3 j4 j5) (HH j j2 j3 j4 j5) a w) :
  JQ X (Exit.then (fun a w => ∃ n p q r s, inv n p q r s ∧ μ n p q r s < μ i i2 i3 i4 i5 ∧ Sat X (G n p q r s) (HH n p q r s) a w) Q) .normal Γ H := fun a w h => ⟨j, j2, j3, j4, j5, hj, hμ, hs a w h⟩
end
theorem ot_buildA0 {t e : TypeId} (ht : arB4 X.P t = some e) (hz : zeroB X.P t = some (.agg #[.int .i64 0, .int .i64 0, .int .i64 0, .int .i64 0])) : R2 X Γ H ⟨dst, .build t #[], ty, pos, af, gd⟩ (tV encMo ⟨0, 0, 0, 0⟩) :=
 V4 fun a w hs => by
  obtain ⟨hu, he, ⟨i, hi, hsz⟩, _, _⟩ := arB4_spec ht
  refine ⟨.agg #[.int .i64 0, .int .i64 0, .int .i64 0, .int .i64 0], w, ?_, Below.refl _ _, rfl, rfl, rfl, rfl, rfl, rfl, rfl, rfl, rfl, rfl, trivial⟩
  have hb : X.P.built t [] = some #[.int .i64 0, .int .i64 0, .int .i64 0, .int .i64 0] := by
   unfold zeroB at hz
   unfold Program.built
   cases hit : X.P.info? t with
   | none => rw [hit] at hz; cases hz
   | some it =>
    rw [hit] at hz
    have hz' : it.zero = some (.agg #[.int .i64 0, .int .i64 0, .int .i64 0, .int .i64 0]) := hz
    simp [hu, hz', hi, Instr.fill, Value.cells]
  have hr := run_build w t #[] _ (by simpa using hb)
  simp only [execOp, Sem.run_bind, Sem.run_map, Array.map_empty, hr]
  rfl
theorem JC.scope {c : Code} (h : JC X c (Exit.noGoto Q) Γ H) : JC X (.scope c) Q Γ H := fun a w hs => wp_scope_straight (h a w hs)
theorem JQ.scope_ret (h : JQ X Q .ret Γ H) : JQ X (Exit.noGoto Q) .ret Γ H := h
theorem JQ.ret0 {fn : Func} (hf : fn.results = #[]) (hD : X.Df = [] := by rfl) : JQ X (bodyPost X.P fn (Post X K5)) .ret Γ H ∧ JQ X (bodyPost X.P fn (Post X K5)) .normal Γ H :=
 ⟨fun a w hs => (ret_done (v := .tuple #[]) hs (results_none hf _ _ _) trivial hD).1, fun a w hs => (ret_done (v := .tuple #[]) hs (results_none hf _ _ _) trivial hD).2⟩
end Go.Rt
namespace Go.Rt
open Go Go.RowKit
def cmpTo : Nat → Mo → Mo → Int
 | 0, _, _ => 0
 | k + 1, m, n => if m.at k < n.at k then -1 else if n.at k < m.at k then 1 else cmpTo k m n
def cmpMo (m n : Mo) : Int := cmpTo 4 m n
theorem cmpTo_lt {k : Nat} {m n : Mo} (h0 : 0 < k) (h : m.at (k - 1) < n.at (k - 1)) : (-1 : Int) = cmpTo k m n := by
 obtain ⟨j, rfl⟩ : ∃ j, k = j + 1 := ⟨k - 1, by omega⟩
 have h' : m.at j < n.at j := h
 rw [cmpTo, if_pos h']
theorem cmpTo_gt {k : Nat} {m n : Mo} (h0 : 0 < k) (h : n.at (k - 1) < m.at (k - 1)) : (1 : Int) = cmpTo k m n := by
 obtain ⟨j, rfl⟩ : ∃ j, k = j + 1 := ⟨k - 1, by omega⟩
 have h' : n.at j < m.at j := h
 rw [cmpTo, if_neg (by omega), if_pos h']
theorem cmpTo_eq {k : Nat} {m n : Mo} (h0 : 0 < k) (h : ¬ m.at (k - 1) < n.at (k - 1)) (h1 : ¬ n.at (k - 1) < m.at (k - 1)) : cmpTo (k - 1) m n = cmpTo k m n := by
 obtain ⟨j, rfl⟩ : ∃ j, k = j + 1 := ⟨k - 1, by omega⟩
 have h2 : ¬ m.at j < n.at j := h
 have h3 : ¬ n.at j < m.at j := h1
 rw [cmpTo.eq_2, if_neg h2, if_neg h3]; rfl
def minL : Int → List Int → Int
 | a, [] => a
 | a, b :: l => minL (min a b) l
def t0 : Tm := ⟨z0, ⟨0, 0, 0, 0⟩⟩
def atT (ts : List Tm) (i : Nat) : Tm := ts.getD i t0
theorem atT_some {ts : List Tm} {i : Nat} (h : i < ts.length) : ts[i]? = some (atT ts i) := by
 unfold atT; simp [List.getD_eq_getElem?_getD, List.getElem?_eq_getElem h]
theorem atT_at {ts : List Tm} {i : Int} {j : Nat} (h1 : i.toNat = j) (h2 : j < ts.length) : ts[i.toNat]? = some (atT ts j) := by subst h1; exact atT_some h2
theorem atT_mem {ts : List Tm} {i : Nat} (h : i < ts.length) : atT ts i ∈ ts := List.mem_of_getElem? (atT_some h)
def atN (l : List Int) (i : Nat) : Int := l.getD i 0
theorem atN_at {l : List Int} {i : Int} {j : Nat} (h1 : i.toNat = j) (h2 : j < l.length) : l[i.toNat]? = some (atN l j) := by
 subst h1; unfold atN; simp [List.getD_eq_getElem?_getD, List.getElem?_eq_getElem h2]
theorem drop_atN {l : List Int} {k : Nat} (h : k < l.length) : l.drop k = atN l k :: l.drop (k + 1) := by
 rw [List.drop_eq_getElem_cons h]; unfold atN; simp [List.getD_eq_getElem?_getD, List.getElem?_eq_getElem h]
theorem minL_step {l : List Int} {k : Nat} {a : Int} (h : k < l.length) : minL (min a (atN l k)) (l.drop (k + 1)) = minL a (l.drop k) := by rw [drop_atN h]; rfl
theorem minL_end {l : List Int} {k : Nat} {a : Int} (h : l.length ≤ k) : minL a (l.drop k) = a := by rw [List.drop_of_length_le h]; rfl
def cmpT (x y : Tm) : Int := cmpMo y.exp x.exp
def siftT (a : Nat) : Nat → List Tm → List Tm
 | 0, xs => xs
 | j + 1, xs => if a < j + 1 ∧ cmpT (atT xs (j + 1)) (atT xs j) < 0 then siftT a j ((xs.set (j + 1) (atT xs j)).set j (atT xs (j + 1))) else xs
theorem siftT_go {a j : Nat} {xs : List Tm} (h : a < j) (h1 : cmpT (atT xs j) (atT xs (j - 1)) < 0) : siftT a (j - 1) ((xs.set j (atT xs (j - 1))).set (j - 1) (atT xs j)) = siftT a j xs := by
 obtain ⟨k, rfl⟩ : ∃ k, j = k + 1 := ⟨j - 1, by omega⟩
 have h1' : cmpT (atT xs (k + 1)) (atT xs k) < 0 := h1
 rw [siftT.eq_2, if_pos ⟨h, h1'⟩]; rfl
theorem siftT_stop {a j : Nat} {xs : List Tm} (h : ¬ a < j ∨ ¬ cmpT (atT xs j) (atT xs (j - 1)) < 0) : siftT a j xs = xs := by
 cases j with
 | zero => rfl
 | succ k =>
  have h' : ¬ (a < k + 1 ∧ cmpT (atT xs (k + 1)) (atT xs k) < 0) := fun q => h.elim (fun h => h q.1) (fun h => h q.2)
  rw [siftT, if_neg h']
theorem siftT_len (a : Nat) : ∀ (j : Nat) (xs : List Tm), (siftT a j xs).length = xs.length
 | 0, xs => rfl
 | j + 1, xs => by
  rw [siftT]; split
  ·rw [siftT_len a j]; simp
  ·rfl
def insT (a : Nat) : Nat → Nat → List Tm → List Tm
 | 0, _, xs => xs
 | n + 1, i, xs => insT a n (i + 1) (siftT a i xs)
theorem insT_len (a : Nat) : ∀ (n i : Nat) (xs : List Tm), (insT a n i xs).length = xs.length
 | 0, _, xs => rfl
 | n + 1, i, xs => by rw [insT, insT_len a n, siftT_len]
theorem insT_step {a b i : Nat} {xs : List Tm} (h : i < b) : insT a (b - (i + 1)) (i + 1) (siftT a i xs) = insT a (b - i) i xs := by
 rw [show b - i = (b - (i + 1)) + 1 by omega, insT]
theorem insT_end {a b i : Nat} {xs : List Tm} (h : b ≤ i) : insT a (b - i) i xs = xs := by rw [Nat.sub_eq_zero_of_le h]; rfl
def sortT (xs : List Tm) : List Tm := insT 0 (xs.length - 1) 1 xs
theorem sortT_len (xs : List Tm) : (sortT xs).length = xs.length := insT_len ..
def okT (t : Tm) : Bool := decide (0 ≤ minL t.exp.a [t.exp.b, t.exp.c, t.exp.d])
def Q7 (ts : List Tm) : List Tm := ts.filter okT
theorem keepT_take {ts : List Tm} {k : Nat} (h : k < ts.length) : Q7 (ts.take (k + 1)) = Q7 (ts.take k) ++ (if okT (atT ts k) then [atT ts k] else []) := by
 have : ts.take (k + 1) = ts.take k ++ [atT ts k] := by
  rw [List.take_succ_eq_append_getElem h, atT, List.getD_eq_getElem?_getD, List.getElem?_eq_getElem h]; rfl
 rw [this, Q7, Q7, List.filter_append]
 congr 1
 by_cases q : okT (atT ts k) = true <;> simp [q]
theorem keepT_yes {ts : List Tm} {k : Nat} (h : k < ts.length) (h1 : okT (atT ts k) = true) : Q7 (ts.take k) ++ [atT ts k] = Q7 (ts.take (k + 1)) := by rw [keepT_take h, if_pos h1]
theorem keepT_no {ts : List Tm} {k : Nat} (h : k < ts.length) (h1 : ¬ okT (atT ts k) = true) : Q7 (ts.take k) = Q7 (ts.take (k + 1)) := by rw [keepT_take h, if_neg h1, List.append_nil]
theorem keepT_len (ts : List Tm) : (Q7 ts).length ≤ ts.length := List.length_filter_le _ _
theorem okT_iff {t : Tm} : okT t = true ↔ 0 ≤ minL (atN t.exp.list 0) (t.exp.list.drop 1) := by unfold okT; rw [decide_eq_true_eq]; rfl
def U8 (m : Mo) : Int → List Tm → Int × List Tm
 | c, [] => (c, [])
 | c, t :: ts => if t.exp = m then U8 m (c + X4 t.coef) ts else (c, t :: ts)
theorem sumRun_len (m : Mo) : ∀ (c : Int) (ts : List Tm), (U8 m c ts).2.length ≤ ts.length
 | c, [] => Nat.le_refl _
 | c, t :: ts => by
  rw [U8]; split
  ·exact Nat.le_succ_of_le (sumRun_len m _ ts)
  ·exact Nat.le_refl _
def W0 : List Tm → List Tm
 | [] => []
 | t :: ts => (if (U8 t.exp (X4 t.coef) ts).1 = 0 then [] else [⟨ofI (U8 t.exp (X4 t.coef) ts).1, t.exp⟩]) ++ W0 (U8 t.exp (X4 t.coef) ts).2
termination_by ts => ts.length
decreasing_by simp; exact Nat.lt_succ_of_le (sumRun_len ..)
def Q4 (ts : List Tm) : List Tm := W0 (sortT (Q7 ts))
theorem drop_atT {ts : List Tm} {k : Nat} (h : k < ts.length) : ts.drop k = atT ts k :: ts.drop (k + 1) := by
 rw [List.drop_eq_getElem_cons h]; unfold atT; simp [List.getD_eq_getElem?_getD, List.getElem?_eq_getElem h]
theorem mergeT_drop {ts : List Tm} {k : Nat} (h : k < ts.length) : W0 (ts.drop k) = (if (U8 (atT ts k).exp 0 (ts.drop k)).1 = 0 then [] else [⟨ofI (U8 (atT ts k).exp 0 (ts.drop k)).1, (atT ts k).exp⟩]) ++ W0 (U8 (atT ts k).exp 0 (ts.drop k)).2 := by
 rw [drop_atT h, W0]
 have : U8 (atT ts k).exp 0 (atT ts k :: ts.drop (k + 1)) = U8 (atT ts k).exp (X4 (atT ts k).coef) (ts.drop (k + 1)) := by rw [U8, if_pos rfl, Int.zero_add]
 rw [this]
theorem sumRun_step {ts : List Tm} {k : Nat} {m : Mo} {c : Int} (h : k < ts.length) (h1 : (atT ts k).exp = m) : U8 m (c + X4 (atT ts k).coef) (ts.drop (k + 1)) = U8 m c (ts.drop k) := by rw [drop_atT h, U8, if_pos h1]
theorem sumRun_stop {ts : List Tm} {k : Nat} {m : Mo} {c : Int} (h : ¬ k < ts.length ∨ ¬ (atT ts k).exp = m) : U8 m c (ts.drop k) = (c, ts.drop k) := by
 by_cases hk : k < ts.length
 ·rw [drop_atT hk, U8, if_neg (h.resolve_left (fun q => q hk))]
 ·rw [List.drop_of_length_le (by omega)]; rfl
theorem merge_yes {A O : List Tm} {i j : Nat} {q : Int} (hi : i < A.length) (hO : O ++ W0 (A.drop i) = W0 A) (hr : U8 (atT A i).exp 0 (A.drop i) = (q, A.drop j)) (hq : ¬ q = 0) : (O ++ [⟨ofI q, (atT A i).exp⟩]) ++ W0 (A.drop j) = W0 A := by
 rw [← hO, mergeT_drop hi, hr, if_neg hq, List.append_assoc]
theorem merge_no {A O : List Tm} {i j : Nat} {q : Int} (hi : i < A.length) (hO : O ++ W0 (A.drop i) = W0 A) (hr : U8 (atT A i).exp 0 (A.drop i) = (q, A.drop j)) (hq : q = 0) : O ++ W0 (A.drop j) = W0 A := by
 rw [← hO, mergeT_drop hi, hr, if_pos hq, List.nil_append]
theorem merge_end {A O : List Tm} {i : Nat} (hi : A.length ≤ i) (hO : O ++ W0 (A.drop i) = W0 A) (hn : W0 [] = []) : O = W0 A := by
 rw [← hO, List.drop_of_length_le hi, hn, List.append_nil]
theorem sum_fit {B j : Nat} {q : Int} (h : q.natAbs ≤ j * B32 ^ B) (hj : j ≤ 4294967295) : (dig q.natAbs).length ≤ B + 1 := by
 refine R8 (Nat.lt_of_le_of_lt h ?_)
 rw [Nat.pow_succ, Nat.mul_comm]
 exact Nat.mul_lt_mul_of_pos_left (Nat.lt_of_le_of_lt hj (by decide)) (Nat.pow_pos (by decide))
theorem sum_next {B j : Nat} {q : Int} {z : Z} (h : q.natAbs ≤ j * B32 ^ B) (hd : U7 z.abs) (hz : z.abs.length ≤ B) : (q + X4 z).natAbs ≤ (j + 1) * B32 ^ B := by
 have h1 := Nat.lt_of_lt_of_le (val_pow hd) (pow_mono hz)
 have h2 : (q + X4 z).natAbs ≤ q.natAbs + (X4 z).natAbs := Int.natAbs_add_le _ _
 rw [Nat.add_mul, Nat.one_mul]
 omega
theorem mergeT_nil : W0 [] = [] := by rw [W0]
theorem mem_set_or {α : Type} {l : List α} {i : Nat} {x y : α} (h : y ∈ l.set i x) : y ∈ l ∨ y = x := List.mem_or_eq_of_mem_set h
theorem siftT_mem {a : Nat} : ∀ {j : Nat} {xs : List Tm}, j < xs.length → ∀ t ∈ siftT a j xs, t ∈ xs
 | 0, xs, _, t, h => h
 | j + 1, xs, hj, t, h => by
  rw [siftT] at h
  split at h
  ·have := siftT_mem (j := j) (by simp; omega) t h
   rcases mem_set_or this with q | q
   ·rcases mem_set_or q with q | q
    ·exact q
    ·subst q; exact atT_mem (by omega)
   ·subst q; exact atT_mem hj
  ·exact h
theorem insT_mem {a : Nat} : ∀ {n i : Nat} {xs : List Tm}, i + n ≤ xs.length → ∀ t ∈ insT a n i xs, t ∈ xs
 | 0, _, _, _, _, h => h
 | n + 1, i, xs, hi, t, h => by
  rw [insT] at h
  exact siftT_mem (by omega) t (insT_mem (by rw [siftT_len]; omega) t h)
theorem sortT_mem {xs : List Tm} : ∀ t ∈ sortT xs, t ∈ xs := by
 intro t h
 by_cases h0 : xs.length = 0
 ·have : xs = [] := List.eq_nil_of_length_eq_zero h0
  subst this; exact h
 ·exact insT_mem (by omega) t h
end Go.Rt
namespace Go.Rt
open Go Go.RowKit
theorem zval_zero' {z : Z} : (val z.abs = 0) = (X4 z = 0) := by unfold X4; apply propext; split <;> omega
theorem zval_zero {z : Z} : decide (val z.abs = 0) = decide (X4 z = 0) := by rw [decide_eq_decide, zval_zero']
theorem quo_fit {ds : Z} {b : Nat} (h : ZOk ds) : (dig (val ds.abs / b)).length ≤ ds.abs.length ∧ (dig (val ds.abs % b)).length ≤ ds.abs.length :=
 ⟨R8 (Nat.lt_of_le_of_lt (Nat.div_le_self _ _) (val_lt h)), R8 (Nat.lt_of_le_of_lt (Nat.mod_le _ _) (val_lt h))⟩
theorem natAbs_zval (z : Z) : (X4 z).natAbs = val z.abs := by unfold X4; split <;> simp
theorem tmod_fit {x y : Z} (h : ZOk x) : (ofI ((X4 x).tmod (X4 y))).abs.length ≤ x.abs.length := by
 refine R8 ?_
 rw [Int.natAbs_tmod, natAbs_zval]
 exact Nat.lt_of_le_of_lt (Nat.mod_le _ _) (val_lt h)
theorem quo_tdiv {x y : Z} : ofI (X4 (Z.mk (!(x.neg == y.neg)) (dig (val x.abs / val y.abs)))) = ofI ((X4 x).tdiv (X4 y)) := by
 congr 1; unfold X4
 cases hx : x.neg <;> cases hy : y.neg <;> simp [val_dig, Int.neg_tdiv, Int.tdiv_neg, Int.ofNat_tdiv]
theorem quo_tmod {x y : Z} : ofI (X4 (Z.mk (x.neg) (dig (val x.abs % val y.abs)))) = ofI ((X4 x).tmod (X4 y)) := by
 congr 1; unfold X4
 cases hx : x.neg <;> cases hy : y.neg <;> simp [val_dig, Int.neg_tmod, Int.tmod_neg, Int.tmod_eq_emod_of_nonneg (Int.natCast_nonneg _)]
theorem gcd_ret {x y : Z} {m n : Nat} (hg : Nat.gcd m n = Nat.gcd (val x.abs) (val y.abs)) (hn : n = 0) : ofI (X4 (Z.mk false (dig m))) = ofI (Int.gcd (X4 x) (X4 y)) := by
 subst hn
 rw [Nat.gcd_zero_right] at hg
 congr 1
 rw [Int.gcd_eq_natAbs_gcd_natAbs, natAbs_zval, natAbs_zval, ← hg]
 simp [X4, val_dig]
mutual
def W8 : Pol → Mo → List Tm
 | .mk l c cs, m => if l = 0 then [⟨c, m⟩] else termsL l cs 0 m
def termsL : Int → List Pol → Nat → Mo → List Tm
 | _, [], _, _ => []
 | l, p :: ps, i, m => W8 p (m.set (l - 1).toNat i) ++ termsL l ps (i + 1) m
end
def termsK (f : Pol → Nat → List Tm) (cs : List Pol) (k : Nat) : List Tm := (List.range k).flatMap fun i => f (atP cs i) i
theorem termsK_succ (f : Pol → Nat → List Tm) (cs : List Pol) (k : Nat) : termsK f cs (k + 1) = termsK f cs k ++ f (atP cs k) k := by
 unfold termsK; rw [List.range_succ, List.flatMap_append]; simp
theorem termsL_eq (l : Int) (m : Mo) : ∀ (cs : List Pol) (i : Nat), termsL l cs i m = (List.range cs.length).flatMap fun j => W8 (atP cs j) (m.set (l - 1).toNat ((i + j : Nat) : Int))
 | [], i => by simp [termsL]
 | p :: ps, i => by
  rw [termsL, termsL_eq l m ps (i + 1), List.length_cons, List.range_succ_eq_map, List.flatMap_cons, List.flatMap_map]
  congr 1
  congr 1
  funext j
  show W8 (atP ps j) _ = W8 (atP (p :: ps) (j + 1)) _
  rw [show i + 1 + j = i + (j + 1) by omega]
  rfl
theorem termsP_eq (p : Pol) (m : Mo) : W8 p m = if p.lv = 0 then [⟨p.c, m⟩] else termsK (fun q i => W8 q (m.set (p.lv - 1).toNat (i : Int))) p.cs p.cs.length := by
 cases p with
 | mk l c cs =>
  rw [W8]
  show (if l = 0 then _ else _) = if l = 0 then _ else _
  split
  ·rfl
  ·rw [termsL_eq]; unfold termsK; simp [Pol.lv, Pol.cs]
theorem termsK_mono (f : Pol → Nat → List Tm) (cs : List Pol) {k n : Nat} (h : k ≤ n) : (termsK f cs k).length ≤ (termsK f cs n).length := by
 induction h with
 | refl => exact Nat.le_refl _
 | step _ ih => rw [termsK_succ, List.length_append]; omega
theorem termsK_at (f : Pol → Nat → List Tm) (cs : List Pol) {k n : Nat} (h : k < n) : (f (atP cs k) k).length ≤ (termsK f cs n).length := by
 have := termsK_mono f cs (show k + 1 ≤ n by omega)
 rw [termsK_succ, List.length_append] at this
 omega
theorem Lev.sub {k : Nat} {p : Pol} (h : Lev k p) (hl : ¬ p.lv = 0) : 0 < p.cs.length ∧ 0 < p.lv ∧ p.lv ≤ k ∧ ∀ q ∈ p.cs, Lev k q := by
 cases h with
 | zero => exact absurd rfl hl
 | succ h hc hs => exact ⟨hc, by simp only [Pol.lv]; omega, by simp only [Pol.lv]; omega, fun q hq => (hs q hq).mono (by omega)⟩
theorem termsP_ne {k : Nat} {p : Pol} : ∀ {m : Mo}, Lev k p → W8 p m ≠ [] := by
 induction p using Pol.ind
 rename_i p ih
 intro m h
 rw [termsP_eq]
 split
 ·simp
 ·rename_i hl
  obtain ⟨h1, _, _, h2⟩ := h.sub hl
  obtain ⟨n, hn⟩ : ∃ n, p.cs.length = n + 1 := ⟨p.cs.length - 1, by omega⟩
  rw [hn, termsK_succ]
  intro e
  exact ih _ (Y3 (by omega)) (h2 _ (Y3 (by omega))) (List.append_eq_nil_iff.1 e).2
theorem Mo.set_set {m : Mo} {j : Nat} {x y : Int} : (m.set j x).set j y = m.set j y := by
 match j with
 | 0 => rfl
 | 1 => rfl
 | 2 => rfl
 | n + 3 => rfl
theorem termsP_fit {B : Nat} {p : Pol} : ∀ {m : Mo}, Fit B p → ∀ t ∈ W8 p m, U7 t.coef.abs ∧ t.coef.abs.length ≤ B := by
 induction p using Pol.ind
 rename_i p ih
 intro m h t ht
 rw [termsP_eq] at ht
 split at ht
 ·simp at ht; subst ht; exact ⟨h.d, h.c⟩
 ·obtain ⟨i, hi, h2⟩ := List.mem_flatMap.1 ht
  have hi' := List.mem_range.1 hi
  exact ih _ (Y3 hi') (h.at hi') t h2
def mo0 : Mo := ⟨0, 0, 0, 0⟩
end Go.Rt
namespace Go.Rt
open Go Go.RowKit
def gcdT (ts : List Tm) : Int := ts.foldl (fun g t => (Int.gcd g (X4 t.coef) : Int)) 0
def contS (ts : List Tm) : Int := gcdT (Q4 ts)
def divT (c : Int) (t : Tm) : Tm := ⟨ofI (X4 t.coef / c), t.exp⟩
def signO (ts : List Tm) : Int := if X4 (atT (Q4 ts) 0).coef < 0 then - contS (Q4 ts) else contS (Q4 ts)
theorem signO_abs (ts : List Tm) : (signO ts).natAbs = (contS (Q4 ts)).natAbs := by unfold signO; split <;> simp
def fillT (f : Tm → Tm) (ts : List Tm) (k : Nat) : List Tm := (ts.take k).map f ++ ts.drop k
theorem fillT_len {f : Tm → Tm} {ts : List Tm} (k : Nat) : (fillT f ts k).length = ts.length := by
 unfold fillT; simp; omega
theorem fillT_zero {f : Tm → Tm} {ts : List Tm} : ts = fillT f ts 0 := by simp [fillT]
theorem fillT_full {f : Tm → Tm} {ts : List Tm} {k : Nat} (h : ts.length ≤ k) : fillT f ts k = ts.map f := by simp [fillT, List.take_of_length_le h, List.drop_of_length_le h]
theorem fillT_el {f : Tm → Tm} {ts : List Tm} {k : Nat} (h : k < ts.length) : (fillT f ts k)[k]? = some (atT ts k) := by
 unfold fillT
 rw [List.getElem?_append_right (by simp; omega)]
 have e : k - ((ts.take k).map f).length = 0 := by simp; omega
 rw [e, List.getElem?_drop, Nat.add_zero, atT_some h]
theorem fillT_set {f : Tm → Tm} {ts : List Tm} {k : Nat} (h : k < ts.length) : (fillT f ts k).set k (f (atT ts k)) = fillT f ts (k + 1) := by
 unfold fillT
 have hl : ((ts.take k).map f).length = k := by simp; omega
 have e : ts.take (k + 1) = ts.take k ++ [atT ts k] := by
  rw [List.take_succ_eq_append_getElem h, atT, List.getD_eq_getElem?_getD, List.getElem?_eq_getElem h]; rfl
 rw [List.set_append_right _ _ (by omega), hl, Nat.sub_self, e, drop_atT h]
 simp
end Go.Rt
namespace Go.Rt
open Go Go.RowKit
theorem mergeT_ofI : ∀ (n : Nat) (ts : List Tm), ts.length ≤ n → ∀ t ∈ W0 ts, t.coef = ofI (X4 t.coef)
 | _, [], _, t, h => by rw [W0] at h; cases h
 | 0, _ :: _, hn, _, _ => by simp at hn
 | n + 1, u :: ts, hn, t, h => by
  rw [W0] at h
  rcases List.mem_append.1 h with h | h
  ·split at h
   ·cases h
   ·simp only [List.mem_singleton] at h
    subst h
    show ofI _ = ofI (X4 (ofI _))
    rw [Y9]
  ·have hl := sumRun_len u.exp (X4 u.coef) ts
   exact mergeT_ofI n _ (by simp at hn; omega) t h
theorem normS_ofI {ts : List Tm} {t : Tm} (h : t ∈ Q4 ts) : t.coef = ofI (X4 t.coef) := mergeT_ofI _ _ (Nat.le_refl _) t h
theorem mergeT_len : ∀ (n : Nat) (ts : List Tm), ts.length ≤ n → (W0 ts).length ≤ ts.length
 | _, [], _ => by rw [W0]; exact Nat.le_refl _
 | 0, _ :: _, hn => by simp at hn
 | n + 1, u :: ts, hn => by
  rw [W0, List.length_append]
  have hl := sumRun_len u.exp (X4 u.coef) ts
  have h1 := mergeT_len n (U8 u.exp (X4 u.coef) ts).2 (by simp at hn; omega)
  have h2 : (if (U8 u.exp (X4 u.coef) ts).1 = 0 then [] else [(⟨ofI (U8 u.exp (X4 u.coef) ts).1, u.exp⟩ : Tm)]).length ≤ 1 := by split <;> simp
  simp only [List.length_cons]; omega
theorem normS_len (ts : List Tm) : (Q4 ts).length ≤ ts.length := by
 have h1 := mergeT_len _ (sortT (Q7 ts)) (Nat.le_refl _)
 have h2 := sortT_len (Q7 ts)
 have h3 := keepT_len ts
 unfold Q4; omega
theorem gcdT_step {L : List Tm} {k : Nat} (h : k < L.length) : (Int.gcd (gcdT (L.take k)) (X4 (atT L k).coef) : Int) = gcdT (L.take (k + 1)) := by
 have e : L.take (k + 1) = L.take k ++ [atT L k] := by
  rw [List.take_succ_eq_append_getElem h, atT, List.getD_eq_getElem?_getD, List.getElem?_eq_getElem h]; rfl
 rw [e]; unfold gcdT; rw [List.foldl_append]; rfl
theorem gcdT_lt {L : List Tm} {B : Nat} (h0 : 0 < B) (h : ∀ t ∈ L, (X4 t.coef).natAbs < B) : ∀ k, k ≤ L.length → (gcdT (L.take k)).natAbs < B := by
 intro k
 induction k with
 | zero => intro _; simpa [gcdT] using h0
 | succ k ih =>
  intro hk
  have hk' : k < L.length := by omega
  rw [← gcdT_step hk']
  have h1 := ih (by omega)
  have h2 := h _ (atT_mem hk')
  simp only [Int.natAbs_natCast]
  rcases Nat.eq_zero_or_pos (gcdT (L.take k)).natAbs with q | q
  ·have : Int.gcd (gcdT (L.take k)) (X4 (atT L k).coef) = (X4 (atT L k).coef).natAbs := by
    unfold Int.gcd; rw [q, Nat.gcd_zero_left]
   rw [this]; exact h2
  ·exact Nat.lt_of_le_of_lt (Nat.le_of_dvd q (Int.gcd_dvd_natAbs_left _ _)) h1
def monoP (m : Mo) (t : Pol) : Nat → Pol
 | 0 => t
 | i + 1 => if 0 < m.at i then .mk ((i : Int) + 1) z0 ((List.replicate ((m.at i).toNat + 1) p0).set (m.at i).toNat (monoP m t i)) else monoP m t i
theorem monoP_yes {m : Mo} {t : Pol} {i : Nat} (h : 0 < m.at i) : Pol.mk ((i : Int) + 1) z0 ((List.replicate ((m.at i).toNat + 1) p0).set (m.at i).toNat (monoP m t i)) = monoP m t (i + 1) := by rw [monoP.eq_2, if_pos h]
theorem monoP_no {m : Mo} {t : Pol} {i : Nat} (h : ¬ 0 < m.at i) : monoP m t i = monoP m t (i + 1) := by rw [monoP.eq_2, if_neg h]
def termP (t : Tm) : Pol := monoP t.exp (.mk 0 (ofI (X4 t.coef)) []) 4
def ofK (L : List Tm) : Nat → Pol
 | 0 => p0
 | k + 1 => K0 4 (ofK L k) (termP (atT L k))
def ofS (L : List Tm) : Pol := ofK L L.length
theorem mem_set_rep {α : Type} {z x q : α} {n i : Nat} (h : q ∈ (List.replicate n z).set i x) : q = z ∨ q = x := by
 rcases List.mem_or_eq_of_mem_set h with h | h
 ·exact .inl (List.mem_replicate.1 h).2
 ·exact .inr h
theorem monoP_lev {m : Mo} {c : Z} : ∀ i, Lev i (monoP m (.mk 0 c []) i)
 | 0 => .zero
 | i + 1 => by
  unfold monoP
  split
  ·have := @Lev.succ (i + 1) i z0 ((List.replicate ((m.at i).toNat + 1) p0).set (m.at i).toNat (monoP m (.mk 0 c []) i)) (Nat.le_refl _) (by simp) (fun q hq => by
    rcases mem_set_rep hq with rfl | rfl
    ·exact .zero
    ·exact monoP_lev i)
   simpa using this
  ·exact (monoP_lev i).mono (Nat.le_succ _)
theorem monoP_fit {B : Nat} {m : Mo} {t : Pol} (hm : ∀ i, i < 4 → m.at i < 4294967296) (ht : Fit B t) : ∀ i, i ≤ 4 → Fit B (monoP m t i)
 | 0, _ => ht
 | i + 1, h => by
  unfold monoP
  have := hm i (by omega)
  split
  ·exact .mk (fun d h => by cases h) (Nat.zero_le _) (by simp; omega) fun q hq => by
    rcases mem_set_rep hq with rfl | rfl
    ·exact .mk (fun d h => by cases h) (Nat.zero_le _) (Nat.zero_le _) (fun q h => by cases h)
    ·exact monoP_fit hm ht i (by omega)
  ·exact monoP_fit hm ht i (by omega)
theorem Lev.lower {j l : Nat} {p : Pol} (h : Lev j p) (hl : p.lv ≤ l) : Lev l p := by
 cases h with
 | zero => exact .zero
 | succ h hc hs => simp only [Pol.lv] at hl; exact .succ (by omega) hc hs
theorem addF_lev : ∀ (k j : Nat) (p q : Pol), j ≤ k → Lev j p → Lev j q → Lev j (K0 k p q)
 | 0, j, p, q, hj, _, _ => .zero
 | k + 1, j, p, q, hj, lp, lq => by
  unfold K0
  split
  ·exact .zero
  ·rename_i hne
   have h1 := lp.lv; have h2 := lq.lv
   obtain ⟨l, hl⟩ : ∃ l : Nat, max p.lv q.lv = ((l + 1 : Nat) : Int) := ⟨(max p.lv q.lv).toNat - 1, by omega⟩
   rw [hl]
   have c1 := (lp.lower (l := l + 1) (by omega)).coefs (l := ((l + 1 : Nat) : Int)) (by omega) (by omega) (by omega)
   have c2 := (lq.lower (l := l + 1) (by omega)).coefs (l := ((l + 1 : Nat) : Int)) (by omega) (by omega) (by omega)
   have hz : ∀ z ∈ zipP (K0 k) (Z0 p ((l + 1 : Nat) : Int)) (Z0 q ((l + 1 : Nat) : Int)), Lev l z := zipP_all c1.2 c2.2 fun x hx y hy => addF_lev k l x y (by omega) (c1.2 x hx) (c2.2 y hy)
   exact joinP_cases .zero (fun q hq => (hz q hq).mono (by omega)) fun h2 => .succ (by omega) (by omega) fun q hq => hz q (trimB_sub hq)
theorem termP_lev (t : Tm) : Lev 4 (termP t) := monoP_lev 4
theorem termP_fit {B : Nat} {t : Tm} (hm : ∀ i, i < 4 → t.exp.at i < 4294967296) (hc : (ofI (X4 t.coef)).abs.length ≤ B) : Fit B (termP t) :=
 monoP_fit hm (.mk (digs_dig _) hc (Nat.zero_le _) fun q h => by cases h) 4 (Nat.le_refl _)
theorem ofK_lev (L : List Tm) : ∀ k, Lev 4 (ofK L k)
 | 0 => .zero
 | k + 1 => addF_lev 4 4 _ _ (Nat.le_refl _) (ofK_lev L k) (termP_lev _)
theorem ofK_fit {B : Nat} {L : List Tm} (hm : ∀ t ∈ L, ∀ i, i < 4 → t.exp.at i < 4294967296) (hc : ∀ t ∈ L, (ofI (X4 t.coef)).abs.length ≤ B) : ∀ k, k ≤ L.length → Fit (B + k) (ofK L k)
 | 0, _ => fit_p0
 | k + 1, h => addF_fit (ofK_lev L k) (termP_lev _) (ofK_fit hm hc k (by omega)) ((termP_fit (hm _ (atT_mem (by omega))) (hc _ (atT_mem (by omega)))).mono (Nat.le_add_right B k))
theorem coefB {t : Tm} {B : Nat} (h : t.coef = ofI (X4 t.coef)) (hz : t.coef.abs.length ≤ B) : (ofI (X4 t.coef)).abs.length ≤ B := by rw [← h]; exact hz
theorem natAbs_lt {n : Int} {B : Nat} (h : (ofI n).abs.length ≤ B) : n.natAbs < B32 ^ B := by
 have h1 := lt_dig_len n.natAbs
 have h2 : (dig n.natAbs).length ≤ B := h
 exact Nat.lt_of_lt_of_le h1 (Nat.pow_le_pow_right (by decide) h2)
theorem gcdT_lenB {L : List Tm} {B : Nat} (ho : ∀ {t : Tm}, t ∈ L → t.coef = ofI (X4 t.coef)) (hz : ∀ t ∈ L, t.coef.abs.length ≤ B) {k : Nat} (hk : k ≤ L.length) : (ofI (gcdT (L.take k))).abs.length ≤ B :=
 R8 (gcdT_lt (B := B32 ^ B) (Nat.pow_pos (by decide)) (fun t ht => natAbs_lt (coefB (ho ht) (hz t ht))) k hk)
theorem contB {ts : List Tm} {B : Nat} (hz : ∀ t ∈ Q4 ts, t.coef.abs.length ≤ B) : (ofI (contS ts)).abs.length ≤ B := by
 have := gcdT_lenB (L := Q4 ts) (B := B) (fun h => normS_ofI h) hz (k := (Q4 ts).length) (Nat.le_refl _)
 rw [List.take_length] at this; exact this
theorem signO_lenB {ts : List Tm} {g : Int} (h : g = signO ts) (hB : (ofI (contS (Q4 ts))).abs.length ≤ 100000000000) : (ofI g).abs.length ≤ 1000000000000 := by
 have e : (ofI g).abs = (ofI (contS (Q4 ts))).abs := by
  subst h; show dig (signO ts).natAbs = dig (contS (Q4 ts)).natAbs; rw [signO_abs]
 rw [e]; omega
theorem signO_valB {ts : List Tm} {g : Int} (h : g = signO ts) (hc : signO ts ≠ 0) : 0 < val (ofI g).abs := by
 subst h; show 0 < val (dig (signO ts).natAbs); rw [val_dig]; omega
end Go.Rt
namespace Go.Rt
open Go Go.RowKit
def e1 : Mo := ⟨1, 0, 0, 0⟩
def tB : Tm := ⟨ofI 1, e1⟩
theorem zval_z0 : X4 z0 = 0 := by rw [← ofI_zero, Y9]
end Go.Rt
namespace Go.Rt
open Go Go.RowKit
-- the sum of the absolute values of all numbers
mutual
def nrm : Pol → Nat
 | .mk l c cs => (X4 c).natAbs + V3 cs
def V3 : List Pol → Nat
 | [] => 0
 | p :: ps => nrm p + V3 ps
end
theorem nrm_eq (p : Pol) : nrm p = (X4 p.c).natAbs + V3 p.cs := by cases p; rw [nrm]; rfl
theorem nrmL_append (xs ys : List Pol) : V3 (xs ++ ys) = V3 xs + V3 ys := by
 induction xs with
 | nil => simp [V3]
 | cons x xs ih => simp only [List.cons_append, V3, ih]; omega
theorem nrmL_mem {q : Pol} : ∀ {cs : List Pol}, q ∈ cs → nrm q ≤ V3 cs
 | _ :: _, .head _ => by simp [V3]
 | _ :: _, .tail _ h => by have := nrmL_mem h; simp only [V3]; omega
theorem nrmL_sub {q p : Pol} (h : q ∈ p.cs) : nrm q ≤ nrm p := by have := nrmL_mem h; rw [nrm_eq p]; omega
theorem nrm_const (n : Int) : nrm (R1 n) = n.natAbs := by simp [R1, nrm, V3, Y9]
theorem nrm_p0 : nrm p0 = 0 := by rw [← constP_zero, nrm_const]; rfl
theorem nrmL_rep (n : Nat) : V3 (List.replicate n p0) = 0 := by
 induction n with
 | zero => rfl
 | succ n ih => rw [List.replicate_succ, V3, ih, nrm_p0]
inductive Sz (D : Nat) : Pol → Prop
 | mk {l : Int} {c : Z} {cs : List Pol} (h0 : c = ofI (X4 c)) (h1 : cs.length ≤ D) (h2 : ∀ q ∈ cs, Sz D q) : Sz D (.mk l c cs)
variable {D E : Nat}
theorem Sz.c {p : Pol} (h : Sz D p) : p.c = ofI (X4 p.c) := by cases h; assumption
theorem Sz.cs {p : Pol} (h : Sz D p) : p.cs.length ≤ D := by cases h; assumption
theorem Sz.sub {p : Pol} (h : Sz D p) : ∀ q ∈ p.cs, Sz D q := by cases h; assumption
theorem Sz.mono {p : Pol} (h : Sz D p) (hd : D ≤ E) : Sz E p := by
 induction p using Pol.ind
 rename_i p ih
 cases h with
 | mk h0 h1 h2 => exact .mk h0 (Nat.le_trans h1 hd) fun q hq => ih q hq (h2 q hq)
theorem z0_ofI : z0 = ofI (X4 z0) := by have : X4 z0 = 0 := by { rw [← ofI_zero, Y9] }; rw [this, ofI_zero]
theorem Sz.const (n : Int) : Sz D (R1 n) := .mk (by rw [Y9]) (Nat.zero_le _) fun q h => by cases h
theorem Sz.p0 : Sz D p0 := by rw [← constP_zero]; exact Sz.const 0
theorem Sz.fit {p : Pol} {B : Nat} (h : Sz D p) (hD : D ≤ 4294967296) (hn : nrm p < B32 ^ B) : Fit B p := by
 induction p using Pol.ind
 rename_i p ih
 cases h with
 | mk h0 h1 h2 =>
  rename_i l c cs
  refine .mk (by rw [h0]; exact digs_dig _) ?_ (Nat.le_trans h1 hD) fun q hq => ih q hq (h2 q hq) (Nat.lt_of_le_of_lt (nrmL_sub (p := .mk l c cs) hq) hn)
  rw [h0]
  refine R8 (Nat.lt_of_le_of_lt ?_ hn)
  rw [nrm]; omega
theorem trimP_take (cs : List Pol) : ∃ n, trimP cs = cs.take n := by
 have h : ∀ l : List Pol, ∃ n, l.dropWhile Z5 = l.drop n := fun l => by
  induction l with
  | nil => exact ⟨0, rfl⟩
  | cons x l ih =>
   rw [List.dropWhile_cons]
   split
   ·obtain ⟨n, hn⟩ := ih; exact ⟨n + 1, hn⟩
   ·exact ⟨0, rfl⟩
 obtain ⟨n, hn⟩ := h cs.reverse
 refine ⟨cs.length - n, ?_⟩
 unfold trimP trimB
 rw [hn, List.reverse_drop, List.reverse_reverse, List.length_reverse]
theorem nrmL_take (cs : List Pol) (n : Nat) : V3 (cs.take n) ≤ V3 cs := by
 have := nrmL_append (cs.take n) (cs.drop n)
 rw [List.take_append_drop] at this; omega
theorem nrm_join (l : Int) (cs : List Pol) : nrm (U0 l cs) ≤ V3 cs := by
 obtain ⟨n, hn⟩ := trimP_take cs
 have h := nrmL_take cs n
 rw [← hn] at h
 unfold U0
 split
 ·rw [nrm_p0]; omega
 ·rename_i p he; rw [he] at h; simp [V3] at h; exact h
 ·have hz : (X4 z0).natAbs = 0 := by rw [← ofI_zero, Y9]; rfl
  rw [nrm, hz]; omega
theorem Sz.join {l : Int} {cs : List Pol} (h : ∀ q ∈ cs, Sz D q) (hl : cs.length ≤ D) : Sz D (U0 l cs) :=
 joinP_cases .p0 h fun _ => .mk z0_ofI (Nat.le_trans trimB_len hl) fun q hq => h q (trimB_sub hq)
theorem nrmL_map {f : Pol → Pol} {c : Nat} : ∀ {cs : List Pol}, (∀ q ∈ cs, nrm (f q) ≤ nrm q * c) → V3 (cs.map f) ≤ V3 cs * c
 | [], _ => by simp [V3]
 | q :: cs, h => by
  have h1 := h q (.head _)
  have h2 := nrmL_map (cs := cs) fun x hx => h x (.tail _ hx)
  simp only [List.map_cons, V3, Nat.add_mul]; omega
theorem nrm_scale (p : Pol) (n : Int) : nrm (Z2 p n) ≤ nrm p * n.natAbs := by
 induction p using Pol.ind
 rename_i p ih
 rw [scaleP_eq]
 split
 ·rw [nrm_const, Int.natAbs_mul, nrm_eq, Nat.add_mul]; omega
 ·refine Nat.le_trans (nrm_join _ _) (Nat.le_trans (nrmL_map ih) ?_)
  rw [nrm_eq, Nat.add_mul]; omega
theorem Sz.scale {p : Pol} (h : Sz D p) (n : Int) : Sz D (Z2 p n) := by
 induction p using Pol.ind
 rename_i p ih
 rw [scaleP_eq]
 split
 ·exact .const _
 ·refine .join (fun q hq => ?_) (by simpa using h.cs)
  obtain ⟨x, hx, rfl⟩ := List.mem_map.1 hq
  exact ih x hx (h.sub x hx)
theorem Lev.scale {k : Nat} {p : Pol} (h : Lev k p) (n : Int) : Lev k (Z2 p n) := by
 induction p using Pol.ind generalizing k
 rename_i p ih
 rw [scaleP_eq]
 cases h with
 | zero => rw [if_pos (by rfl)]; exact .zero
 | succ h hc hs =>
  rename_i l c cs
  rw [if_neg (by simp only [Pol.lv]; omega)]
  have hz : ∀ q ∈ cs.map (Z2 · n), Lev l q := fun q hq => by
   obtain ⟨x, hx, rfl⟩ := List.mem_map.1 hq
   exact ih x hx (hs x hx)
  exact joinP_cases .zero (fun q hq => (hz q hq).mono (by omega)) fun h2 => .succ h (by omega) fun q hq => hz q (trimB_sub hq)
theorem nrmL_coefs (p : Pol) (l : Int) : V3 (Z0 p l) ≤ nrm p := by
 unfold Z0; split
 ·rw [nrm_eq]; omega
 ·simp [V3]
theorem Sz.coefs {p : Pol} (h : Sz D p) (hD : 1 ≤ D) (l : Int) : (∀ q ∈ Z0 p l, Sz D q) ∧ (Z0 p l).length ≤ D := by
 unfold Z0; split
 ·exact ⟨h.sub, h.cs⟩
 ·exact ⟨fun q hq => by simp at hq; subst hq; exact h, by simpa using hD⟩
theorem nrmL_zip {f : Pol → Pol → Pol} : ∀ {xs ys : List Pol}, (∀ x y, nrm (f x y) ≤ nrm x + nrm y) → V3 (zipP f xs ys) ≤ V3 xs + V3 ys
 | xs, [], _ => by rw [zipP_nil]; simp [V3]
 | [], y :: ys, _ => by rw [zipP_nil']; simp [V3]
 | x :: xs, y :: ys, h => by
  have h1 := h x y
  have h2 := nrmL_zip (xs := xs) (ys := ys) h
  simp only [zipP, V3]; omega
theorem nrm_add : ∀ (k : Nat) (p q : Pol), nrm (K0 k p q) ≤ nrm p + nrm q
 | 0, p, q => by
  show nrm (R1 (X4 p.c + X4 q.c)) ≤ _
  rw [nrm_const, nrm_eq p, nrm_eq q]
  have := Int.natAbs_add_le (X4 p.c) (X4 q.c); omega
 | k + 1, p, q => by
  unfold K0; split
  ·rw [nrm_const, nrm_eq p, nrm_eq q]
   have := Int.natAbs_add_le (X4 p.c) (X4 q.c); omega
  ·have h1 := nrm_join (max p.lv q.lv) (zipP (K0 k) (Z0 p (max p.lv q.lv)) (Z0 q (max p.lv q.lv)))
   have h2 := nrmL_zip (xs := Z0 p (max p.lv q.lv)) (ys := Z0 q (max p.lv q.lv)) (nrm_add k)
   have h3 := nrmL_coefs p (max p.lv q.lv)
   have h4 := nrmL_coefs q (max p.lv q.lv)
   omega
theorem Sz.add (hD : 1 ≤ D) : ∀ (k : Nat) {p q : Pol}, Sz D p → Sz D q → Sz D (K0 k p q)
 | 0, p, q, _, _ => .const _
 | k + 1, p, q, hp, hq => by
  unfold K0; split
  ·exact .const _
  ·have h1 := hp.coefs hD (max p.lv q.lv)
   have h2 := hq.coefs hD (max p.lv q.lv)
   exact .join (zipP_all h1.1 h2.1 fun x hx y hy => Sz.add hD k (h1.1 x hx) (h2.1 y hy)) (by rw [zipP_len]; omega)
def convJ (f g : Pol → Pol → Pol) (x : Pol) (i : Nat) (ys : List Pol) : Nat → List Pol → List Pol
 | 0, zs => zs
 | j + 1, zs => (convJ f g x i ys j zs).set (i + j) (g (atP (convJ f g x i ys j zs) (i + j)) (f x (atP ys j)))
def convI (f g : Pol → Pol → Pol) (xs ys : List Pol) : Nat → List Pol
 | 0 => List.replicate (xs.length + ys.length - 1) p0
 | i + 1 => convJ f g (atP xs i) i ys ys.length (convI f g xs ys i)
def K3 : Nat → Pol → Pol → Pol
 | 0, p, q => if q.lv = 0 then Z2 p (X4 q.c) else if p.lv = 0 then Z2 q (X4 p.c) else p0
 | k + 1, p, q => if q.lv = 0 then Z2 p (X4 q.c) else if p.lv = 0 then Z2 q (X4 p.c) else
   U0 (max p.lv q.lv) (convI (K3 k) (K0 4) (Z0 p (max p.lv q.lv)) (Z0 q (max p.lv q.lv)) (Z0 p (max p.lv q.lv)).length)
theorem mulF_q {k : Nat} {p q : Pol} (h : q.lv = 0) : Z2 p (X4 q.c) = K3 k p q := by
 cases k <;> (unfold K3; rw [if_pos h])
theorem mulF_p {k : Nat} {p q : Pol} (h : ¬ q.lv = 0) (h1 : p.lv = 0) : Z2 q (X4 p.c) = K3 k p q := by
 cases k <;> (unfold K3; rw [if_neg h, if_pos h1])
theorem mulF_join {k : Nat} {p q : Pol} (h : ¬ q.lv = 0) (h1 : ¬ p.lv = 0) :
  U0 (max p.lv q.lv) (convI (K3 k) (K0 4) (Z0 p (max p.lv q.lv)) (Z0 q (max p.lv q.lv)) (Z0 p (max p.lv q.lv)).length) = K3 (k + 1) p q := by
 rw [K3.eq_2, if_neg h, if_neg h1]
section conv
variable {f g : Pol → Pol → Pol} {x : Pol} {i : Nat} {xs ys zs : List Pol}
theorem convJ_len : ∀ j, (convJ f g x i ys j zs).length = zs.length
 | 0 => rfl
 | j + 1 => by rw [convJ, List.length_set, convJ_len j]
theorem convI_len : ∀ i, (convI f g xs ys i).length = xs.length + ys.length - 1
 | 0 => by simp [convI]
 | i + 1 => by rw [convI, convJ_len, convI_len i]
theorem nrmL_set {zs : List Pol} {n : Nat} {z : Pol} (h : n < zs.length) : V3 (zs.set n z) + nrm (atP zs n) = V3 zs + nrm z := by
 induction zs generalizing n with
 | nil => simp at h
 | cons y ys ih =>
  cases n with
  | zero => simp only [List.set_cons_zero, V3, atP, List.getD_cons_zero]; omega
  | succ n =>
   have := ih (n := n) (by simpa using h)
   simp only [List.set_cons_succ, V3]
   have e : atP (y :: ys) (n + 1) = atP ys n := by simp [atP]
   rw [e]; omega
theorem nrm_atP (zs : List Pol) (n : Nat) : nrm (atP zs n) ≤ V3 zs := by
 rcases Nat.lt_or_ge n zs.length with h | h
 ·exact nrmL_mem (Y3 h)
 ·rw [atP, List.getD_eq_getElem?_getD, List.getElem?_eq_none h]; show nrm p0 ≤ _; rw [nrm_p0]; omega
theorem nrmL_take1 {cs : List Pol} {k : Nat} (h : k < cs.length) : V3 (cs.take (k + 1)) = V3 (cs.take k) + nrm (atP cs k) := by
 rw [← takeP_snoc h, nrmL_append]; simp [V3]
theorem nrmL_convJ (hf : ∀ y ∈ ys, nrm (f x y) ≤ nrm x * nrm y) (hg : ∀ a b, nrm (g a b) ≤ nrm a + nrm b) : ∀ j, j ≤ ys.length → i + j ≤ zs.length → V3 (convJ f g x i ys j zs) ≤ V3 zs + nrm x * V3 (ys.take j)
 | 0, _, _ => by simp [convJ]
 | j + 1, h, h' => by
  have h1 := nrmL_convJ hf hg j (by omega) (by omega)
  have h2 := nrmL_set (zs := convJ f g x i ys j zs) (n := i + j) (z := g (atP (convJ f g x i ys j zs) (i + j)) (f x (atP ys j))) (by rw [convJ_len]; omega)
  have h3 := hg (atP (convJ f g x i ys j zs) (i + j)) (f x (atP ys j))
  have h4 := hf _ (Y3 (show j < ys.length by omega))
  rw [convJ, nrmL_take1 (by omega), Nat.mul_add]
  omega
theorem nrmL_convI (hf : ∀ x ∈ xs, ∀ y ∈ ys, nrm (f x y) ≤ nrm x * nrm y) (hg : ∀ a b, nrm (g a b) ≤ nrm a + nrm b) : ∀ i, i ≤ xs.length → V3 (convI f g xs ys i) ≤ V3 (xs.take i) * V3 ys
 | 0, _ => by rw [convI, nrmL_rep]; omega
 | i + 1, h => by
  have h1 := nrmL_convI hf hg i (by omega)
  have h2 := nrmL_convJ (f := f) (g := g) (x := atP xs i) (i := i) (ys := ys) (zs := convI f g xs ys i) (hf _ (Y3 (by omega))) hg ys.length (Nat.le_refl _) (by rw [convI_len]; omega)
  rw [List.take_length] at h2
  rw [convI, nrmL_take1 (by omega), Nat.add_mul]; omega
theorem convJ_all {C : Pol → Prop} (hz : ∀ z ∈ zs, C z) (hf : ∀ y ∈ ys, C (f x y)) (hg : ∀ a b, C a → C b → C (g a b)) : ∀ j, j ≤ ys.length → i + j ≤ zs.length → ∀ z ∈ convJ f g x i ys j zs, C z
 | 0, _, _, z, h => hz z h
 | j + 1, h, h', z, hm => by
  have ih := convJ_all hz hf hg j (by omega) (by omega)
  rw [convJ] at hm
  rcases List.mem_or_eq_of_mem_set hm with hm | rfl
  ·exact ih z hm
  ·exact hg _ _ (ih _ (Y3 (by rw [convJ_len]; omega))) (hf _ (Y3 (by omega)))
theorem convI_all {C : Pol → Prop} (h0 : C p0) (hf : ∀ x ∈ xs, ∀ y ∈ ys, C (f x y)) (hg : ∀ a b, C a → C b → C (g a b)) : ∀ i, i ≤ xs.length → ∀ z ∈ convI f g xs ys i, C z
 | 0, _, z, h => by rw [convI] at h; rw [(List.mem_replicate.1 h).2]; exact h0
 | i + 1, h, z, hm => by
  rw [convI] at hm
  exact convJ_all (convI_all h0 hf hg i (by omega)) (hf _ (Y3 (by omega))) hg ys.length (Nat.le_refl _) (by rw [convI_len]; omega) z hm
end conv
theorem nrm_mul : ∀ (k : Nat) (p q : Pol), nrm (K3 k p q) ≤ nrm p * nrm q := by
 have base : ∀ (p q : Pol), nrm (Z2 p (X4 q.c)) ≤ nrm p * nrm q := fun p q =>
  Nat.le_trans (nrm_scale p _) (Nat.mul_le_mul_left _ (by rw [nrm_eq q]; omega))
 intro k
 induction k with
 | zero =>
  intro p q; unfold K3; split
  ·exact base p q
  ·split
   ·rw [Nat.mul_comm]; exact base q p
   ·rw [nrm_p0]; omega
 | succ k ih =>
  intro p q; unfold K3; split
  ·exact base p q
  ·split
   ·rw [Nat.mul_comm]; exact base q p
   ·refine Nat.le_trans (nrm_join _ _) (Nat.le_trans (nrmL_convI (fun x _ y _ => ih x y) (nrm_add 4) _ (Nat.le_refl _)) ?_)
    rw [List.take_length]
    exact Nat.mul_le_mul (nrmL_coefs _ _) (nrmL_coefs _ _)
theorem Sz.mulT (hD : 1 ≤ D) (hE : 1 ≤ E) : ∀ (k : Nat) {p q : Pol}, Sz D p → Sz E q → Sz (D + (E - 1)) (K3 k p q)
 | 0, p, q, hp, hq => by
  unfold K3; split
  ·exact (hp.scale _).mono (by omega)
  ·split
   ·exact (hq.scale _).mono (by omega)
   ·exact .p0
 | k + 1, p, q, hp, hq => by
  unfold K3; split
  ·exact (hp.scale _).mono (by omega)
  ·split
   ·exact (hq.scale _).mono (by omega)
   ·have h1 := hp.coefs hD (max p.lv q.lv)
    have h2 := hq.coefs hE (max p.lv q.lv)
    exact .join (convI_all .p0 (fun x hx y hy => Sz.mulT hD hE k (h1.1 x hx) (h2.1 y hy)) (fun a b ha hb => Sz.add (by omega) 4 ha hb) _ (Nat.le_refl _)) (by rw [convI_len]; omega)
theorem Sz.mul (hD : 1 ≤ D) (hE : 1 ≤ E) (k : Nat) {p q : Pol} (hp : Sz D p) (hq : Sz E q) : Sz (D + E) (K3 k p q) := (Sz.mulT hD hE k hp hq).mono (by omega)
theorem Lev.mul : ∀ (k j : Nat) {p q : Pol}, j ≤ k → k ≤ 4 → Lev j p → Lev j q → Lev j (K3 k p q)
 | 0, j, p, q, hj, _, lp, lq => by
  unfold K3; split
  ·exact lp.scale _
  ·split
   ·exact lq.scale _
   ·exact .zero
 | k + 1, j, p, q, hj, h4, lp, lq => by
  unfold K3; split
  ·exact lp.scale _
  ·split
   ·exact lq.scale _
   ·rename_i hq0 hp0
    have h1 := lp.lv; have h2 := lq.lv
    obtain ⟨l, hl⟩ : ∃ l : Nat, max p.lv q.lv = ((l + 1 : Nat) : Int) := ⟨(max p.lv q.lv).toNat - 1, by omega⟩
    rw [hl]
    have c1 := (lp.lower (l := l + 1) (by omega)).coefs (l := ((l + 1 : Nat) : Int)) (by omega) (by omega) (by omega)
    have c2 := (lq.lower (l := l + 1) (by omega)).coefs (l := ((l + 1 : Nat) : Int)) (by omega) (by omega) (by omega)
    have hz := convI_all (C := Lev l) (f := K3 k) (g := K0 4) .zero (fun x hx y hy => Lev.mul k l (by omega) (by omega) (c1.2 x hx) (c2.2 y hy)) (fun a b ha hb => addF_lev 4 l a b (by omega) ha hb) (Z0 p ((l + 1 : Nat) : Int)).length (Nat.le_refl _)
    exact joinP_cases .zero (fun q hq => (hz q hq).mono (by omega)) fun h2 => .succ (by omega) (by omega) fun q hq => hz q (trimB_sub hq)
theorem mul_parts {k : Nat} {p q : Pol} (lp : Lev (k + 1) p) (lq : Lev (k + 1) q) (hp : Sz D p) (hq : Sz E q) (hD : 1 ≤ D) (hE : 1 ≤ E) (hq0 : ¬ q.lv = 0) :
  (0 < (Z0 p (max p.lv q.lv)).length ∧ 0 < (Z0 q (max p.lv q.lv)).length ∧ (Z0 p (max p.lv q.lv)).length ≤ D ∧ (Z0 q (max p.lv q.lv)).length ≤ E) ∧
  (∀ x ∈ Z0 p (max p.lv q.lv), Lev k x ∧ Sz D x ∧ nrm x ≤ nrm p) ∧ (∀ y ∈ Z0 q (max p.lv q.lv), Lev k y ∧ Sz E y ∧ nrm y ≤ nrm q) := by
 have h1 := lp.lv; have h2 := lq.lv
 have c1 := lp.coefs (l := max p.lv q.lv) (by omega) (by omega) (by omega)
 have c2 := lq.coefs (l := max p.lv q.lv) (by omega) (by omega) (by omega)
 have s1 := hp.coefs hD (max p.lv q.lv)
 have s2 := hq.coefs hE (max p.lv q.lv)
 exact ⟨⟨c1.1, c2.1, s1.2, s2.2⟩, fun x hx => ⟨c1.2 x hx, s1.1 x hx, Nat.le_trans (nrmL_mem hx) (nrmL_coefs _ _)⟩, fun y hy => ⟨c2.2 y hy, s2.1 y hy, Nat.le_trans (nrmL_mem hy) (nrmL_coefs _ _)⟩⟩
section conv2
variable {k i j : Nat} {xs ys : List Pol} {M N : Nat}
theorem conv_nrm (hx : V3 xs ≤ M) (hy : V3 ys ≤ N) (hi : i < xs.length) (hj : j ≤ ys.length) : V3 (convJ (K3 k) (K0 4) (atP xs i) i ys j (convI (K3 k) (K0 4) xs ys i)) ≤ M * N := by
 have h1 := nrmL_convI (f := K3 k) (g := K0 4) (xs := xs) (ys := ys) (fun x _ y _ => nrm_mul k x y) (nrm_add 4) i (by omega)
 have h2 := nrmL_convJ (f := K3 k) (g := K0 4) (x := atP xs i) (i := i) (ys := ys) (zs := convI (K3 k) (K0 4) xs ys i) (fun y _ => nrm_mul k _ y) (nrm_add 4) j hj (by rw [convI_len]; omega)
 have h3 := nrmL_take1 hi
 have h4 := nrmL_take xs (i + 1)
 have h5 : nrm (atP xs i) * V3 (ys.take j) ≤ nrm (atP xs i) * V3 ys := Nat.mul_le_mul_left _ (nrmL_take ys j)
 have h6 : V3 (xs.take (i + 1)) * V3 ys ≤ M * N := Nat.mul_le_mul (by omega) hy
 rw [h3, Nat.add_mul] at h6
 omega
theorem conv_at (hD : 1 ≤ D + E) (hx : V3 xs ≤ M) (hy : V3 ys ≤ N) (hi : i < xs.length) (hj : j < ys.length) (hk : k ≤ 3) (ax : ∀ x ∈ xs, Lev k x ∧ Sz D x) (ay : ∀ y ∈ ys, Lev k y ∧ Sz E y) (hD1 : 1 ≤ D) (hE1 : 1 ≤ E) :
  Lev 4 (atP (convJ (K3 k) (K0 4) (atP xs i) i ys j (convI (K3 k) (K0 4) xs ys i)) (i + j)) ∧ Sz (D + E) (atP (convJ (K3 k) (K0 4) (atP xs i) i ys j (convI (K3 k) (K0 4) xs ys i)) (i + j)) ∧
  nrm (atP (convJ (K3 k) (K0 4) (atP xs i) i ys j (convI (K3 k) (K0 4) xs ys i)) (i + j)) ≤ M * N := by
 have hl : (convJ (K3 k) (K0 4) (atP xs i) i ys j (convI (K3 k) (K0 4) xs ys i)).length = xs.length + ys.length - 1 := by rw [convJ_len, convI_len]
 have hm := Y3 (cs := convJ (K3 k) (K0 4) (atP xs i) i ys j (convI (K3 k) (K0 4) xs ys i)) (i := i + j) (by omega)
 have hc : ∀ z ∈ convJ (K3 k) (K0 4) (atP xs i) i ys j (convI (K3 k) (K0 4) xs ys i), Lev 4 z ∧ Sz (D + E) z := by
  have hf : ∀ x ∈ xs, ∀ y ∈ ys, Lev 4 (K3 k x y) ∧ Sz (D + E) (K3 k x y) := fun x hx y hy => ⟨(Lev.mul k k (Nat.le_refl _) (by omega) (ax x hx).1 (ay y hy).1).mono (by omega), Sz.mul hD1 hE1 k (ax x hx).2 (ay y hy).2⟩
  have hg : ∀ a b, Lev 4 a ∧ Sz (D + E) a → Lev 4 b ∧ Sz (D + E) b → Lev 4 (K0 4 a b) ∧ Sz (D + E) (K0 4 a b) := fun a b ha hb => ⟨addF_lev 4 4 a b (Nat.le_refl _) ha.1 hb.1, Sz.add hD 4 ha.2 hb.2⟩
  exact convJ_all (convI_all ⟨.zero, .p0⟩ hf hg i (by omega)) (hf _ (Y3 hi)) hg j (by omega) (by rw [convI_len]; omega)
 exact ⟨(hc _ hm).1, (hc _ hm).2, Nat.le_trans (nrm_atP _ _) (conv_nrm hx hy hi (by omega))⟩
theorem conv_end (hD : 1 ≤ D + E) (hx : V3 xs ≤ M) (hy : V3 ys ≤ N) (ax : ∀ x ∈ xs, Lev k x ∧ Sz D x) (ay : ∀ y ∈ ys, Lev k y ∧ Sz E y) (hD1 : 1 ≤ D) (hE1 : 1 ≤ E) : ∀ z ∈ convI (K3 k) (K0 4) xs ys xs.length, Sz (D + E) z ∧ nrm z ≤ M * N := fun z hz => by
 have h1 := nrmL_convI (f := K3 k) (g := K0 4) (xs := xs) (ys := ys) (fun x _ y _ => nrm_mul k x y) (nrm_add 4) xs.length (Nat.le_refl _)
 rw [List.take_length] at h1
 refine ⟨convI_all (C := Sz (D + E)) .p0 (fun x hx y hy => Sz.mul hD1 hE1 k (ax x hx).2 (ay y hy).2) (fun a b ha hb => Sz.add hD 4 ha hb) _ (Nat.le_refl _) z hz, ?_⟩
 exact Nat.le_trans (nrmL_mem hz) (Nat.le_trans h1 (Nat.mul_le_mul hx hy))
theorem mul_fitN {a b B C : Nat} (ha : a < B32 ^ B) (hb : b < B32 ^ C) : a * b < B32 ^ (B + C) := by
 rw [Nat.pow_add]
 exact Nat.mul_lt_mul_of_lt_of_le ha (Nat.le_of_lt hb) (Nat.pow_pos (by decide))
end conv2
mutual
def W3 : Pol → Pol
 | .mk l c cs => if l ≤ 0 then R1 (X4 c) else if 4 < l then p0 else if canonB (.mk l c cs) 5 = true then Z2 (.mk l c cs) 1 else hornN (varP l) cs
def hornN : Pol → List Pol → Pol
 | _, [] => p0
 | x, c :: cs => K0 4 (K3 4 (hornN x cs) x) (W3 c)
end
mutual
def cnt : Pol → Nat
 | .mk _ _ cs => 1 + cntL cs
def cntL : List Pol → Nat
 | [] => 0
 | p :: ps => cnt p + cntL ps
end
theorem cnt_eq (p : Pol) : cnt p = 1 + cntL p.cs := by cases p; rw [cnt]; rfl
theorem cntL_mem {q : Pol} : ∀ {cs : List Pol}, q ∈ cs → cnt q ≤ cntL cs
 | _ :: _, .head _ => by simp [cntL]
 | _ :: _, .tail _ h => by have := cntL_mem h; simp only [cntL]; omega
theorem cntL_len : ∀ cs : List Pol, cs.length ≤ cntL cs
 | [] => by simp [cntL]
 | p :: ps => by have := cntL_len ps; have := cnt_eq p; simp only [cntL, List.length_cons]; omega
theorem normN_eq (p : Pol) : W3 p = if p.lv ≤ 0 then R1 (X4 p.c) else if 4 < p.lv then p0 else if canonB p 5 = true then Z2 p 1 else hornN (varP p.lv) p.cs := by
 cases p; rw [W3]; rfl
theorem hornN_drop {x : Pol} {cs : List Pol} {k : Nat} (h : 0 < k) (hk : k ≤ cs.length) : K0 4 (K3 4 (hornN x (cs.drop k)) x) (W3 (atP cs (k - 1))) = hornN x (cs.drop (k - 1)) := by
 have e : cs.drop (k - 1) = atP cs (k - 1) :: cs.drop k := by
  rw [List.drop_eq_getElem_cons (show k - 1 < cs.length by omega), show k - 1 + 1 = k by omega]
  simp [atP, List.getD_eq_getElem?_getD, List.getElem?_eq_getElem (show k - 1 < cs.length by omega)]
 rw [e, hornN]
theorem scale_sz (p : Pol) (n : Int) {D : Nat} (h : cnt p ≤ D) : Sz D (Z2 p n) := by
 induction p using Pol.ind
 rename_i p ih
 rw [scaleP_eq]
 have hc := cnt_eq p
 split
 ·exact .const _
 ·refine .join (fun q hq => ?_) (by have := cntL_len p.cs; simp; omega)
  obtain ⟨x, hx, rfl⟩ := List.mem_map.1 hq
  exact ih x hx (by have := cntL_mem hx; omega)
theorem nrm_var (l : Int) : nrm (varP l) ≤ 1 := by
 unfold varP; split
 ·rw [nrm_p0]; omega
 ·have hz : (X4 z0).natAbs = 0 := by rw [← ofI_zero, Y9]; rfl
  simp [nrm, V3, hz, nrm_p0, nrm_const]
theorem sz_var (l : Int) : Sz 2 (varP l) := by
 unfold varP; split
 ·exact .p0
 ·exact .mk z0_ofI (show 2 ≤ 2 by decide) fun q hq => by
   simp only [List.mem_cons, List.not_mem_nil, or_false] at hq
   rcases hq with rfl | rfl
   ·exact .p0
   ·exact .const 1
theorem lev_var (l : Int) : Lev 4 (varP l) := by
 unfold varP; split
 ·exact .zero
 ·rename_i h
  obtain ⟨m, rfl⟩ : ∃ m : Nat, l = ((m + 1 : Nat) : Int) := ⟨l.toNat - 1, by omega⟩
  exact .succ (by omega) (by simp) fun q hq => by
   simp only [List.mem_cons, List.not_mem_nil, or_false] at hq
   rcases hq with rfl | rfl <;> exact .zero
theorem canon_lev {k : Nat} {b : Int} {p : Pol} (h : canonB p b = true) (hb : b ≤ (k : Int) + 1) : Lev k p := by
 induction p using Pol.ind generalizing k b
 rename_i p ih
 rw [canonB_eq] at h
 obtain ⟨l, c, cs⟩ := p
 by_cases hl : (Pol.mk l c cs).lv = 0
 ·have hl' : l = 0 := hl
  subst hl'; exact .zero
 ·rw [if_neg hl] at h
  simp only [Pol.lv, Pol.cs, Pol.c] at h ih hl
  simp only [Bool.and_eq_true, Bool.not_eq_true', Bool.or_eq_false_iff, decide_eq_false_iff_not, List.all_eq_true] at h
  obtain ⟨⟨⟨⟨⟨h1, h2⟩, h3⟩, _⟩, h5⟩, _⟩ := h
  replace h1 : ¬ l < 0 := of_decide_eq_false h1
  replace h2 : ¬ b ≤ l := of_decide_eq_false h2
  replace h3 : ¬ cs.length < 2 := of_decide_eq_false h3
  replace hl : ¬ l = 0 := hl
  obtain ⟨m, rfl⟩ : ∃ m : Nat, l = ((m + 1 : Nat) : Int) := ⟨l.toNat - 1, by omega⟩
  exact .succ (by omega) (by omega) fun q hq => ih q hq (h5 q hq) (by omega)
theorem nrm_horn {x : Pol} (hx : nrm x ≤ 1) : ∀ {cs : List Pol}, (∀ q ∈ cs, nrm (W3 q) ≤ nrm q) → nrm (hornN x cs) ≤ V3 cs
 | [], _ => by rw [hornN, nrm_p0]; omega
 | c :: cs, h => by
  have h1 := nrm_horn hx (cs := cs) fun q hq => h q (.tail _ hq)
  have h2 := nrm_add 4 (K3 4 (hornN x cs) x) (W3 c)
  have h3 := nrm_mul 4 (hornN x cs) x
  have h4 := h c (.head _)
  have h5 : nrm (hornN x cs) * nrm x ≤ nrm (hornN x cs) * 1 := Nat.mul_le_mul_left _ hx
  rw [hornN, V3]; omega
theorem nrm_norm (p : Pol) : nrm (W3 p) ≤ nrm p := by
 induction p using Pol.ind
 rename_i p ih
 rw [normN_eq]
 split
 ·rw [nrm_const, nrm_eq]; omega
 ·split
  ·rw [nrm_p0]; omega
  ·split
   ·have := nrm_scale p 1; simpa using this
   ·have := nrm_horn (nrm_var p.lv) ih; rw [nrm_eq p]; omega
theorem sz_horn {x : Pol} (hx : Sz 2 x) : ∀ {cs : List Pol}, (∀ q ∈ cs, Sz (2 * cnt q + 1) (W3 q)) → Sz (2 * cntL cs + 1) (hornN x cs)
 | [], _ => .p0
 | c :: cs, h => by
  have h1 := sz_horn hx (cs := cs) fun q hq => h q (.tail _ hq)
  have h2 := Sz.mul (by omega) (by decide) 4 h1 hx
  have h3 := cnt_eq c
  rw [hornN, cntL]
  exact Sz.add (by omega) 4 (h2.mono (by omega)) ((h c (.head _)).mono (by omega))
theorem sz_norm (p : Pol) : Sz (2 * cnt p + 1) (W3 p) := by
 induction p using Pol.ind
 rename_i p ih
 rw [normN_eq]
 split
 ·exact .const _
 ·split
  ·exact .p0
  ·split
   ·exact scale_sz p 1 (by omega)
   ·exact (sz_horn (sz_var p.lv) ih).mono (by have := cnt_eq p; omega)
theorem lev_horn {x : Pol} (hx : Lev 4 x) : ∀ {cs : List Pol}, (∀ q ∈ cs, Lev 4 (W3 q)) → Lev 4 (hornN x cs)
 | [], _ => .zero
 | c :: cs, h => by
  rw [hornN]
  exact addF_lev 4 4 _ _ (Nat.le_refl _) (Lev.mul 4 4 (Nat.le_refl _) (Nat.le_refl _) (lev_horn hx fun q hq => h q (.tail _ hq)) hx) (h c (.head _))
theorem lev_norm (p : Pol) : Lev 4 (W3 p) := by
 induction p using Pol.ind
 rename_i p ih
 rw [normN_eq]
 split
 ·exact .zero
 ·split
  ·exact .zero
  ·split
   ·rename_i h; exact Lev.scale (canon_lev h (by omega)) 1
   ·exact lev_horn (lev_var p.lv) ih
theorem horn_facts (p : Pol) {k : Nat} (hk : k ≤ p.cs.length) : Lev 4 (hornN (varP p.lv) (p.cs.drop k)) ∧ Sz (2 * cnt p + 1) (hornN (varP p.lv) (p.cs.drop k)) ∧ nrm (hornN (varP p.lv) (p.cs.drop k)) ≤ nrm p := by
 have hn : V3 (p.cs.drop k) ≤ V3 p.cs := by
  have := nrmL_append (p.cs.take k) (p.cs.drop k)
  rw [List.take_append_drop] at this; omega
 have hcn : ∀ cs : List Pol, ∀ k, cntL (cs.drop k) ≤ cntL cs := fun cs => by
  induction cs with
  | nil => intro k; simp
  | cons c cs ih =>
   intro k
   cases k with
   | zero => simp
   | succ k => have := ih k; simp only [List.drop_succ_cons, cntL]; omega
 have hc := hcn p.cs k
 have hpc := cnt_eq p
 refine ⟨lev_horn (lev_var _) fun q _ => lev_norm q, (sz_horn (sz_var _) fun q _ => sz_norm q).mono (by omega), ?_⟩
 have := nrm_horn (nrm_var p.lv) (cs := p.cs.drop k) fun q _ => nrm_norm q
 rw [nrm_eq p]; omega
end Go.Rt
namespace Go.Rt
open Go Go.RowKit
def swp (xs : List Tm) (i j : Nat) : List Tm := (xs.set i (atT xs j)).set j (atT xs i)
theorem swp_len (xs : List Tm) (i j : Nat) : (swp xs i j).length = xs.length := by simp [swp]
def swR (a b : Nat) : Nat → List Tm → List Tm
 | 0, xs => xs
 | n + 1, xs => swp (swR a b n xs) (a + n) (b + n)
theorem swR_len (a b : Nat) : ∀ n xs, (swR a b n xs).length = xs.length
 | 0, _ => rfl
 | n + 1, xs => by rw [swR, swp_len, swR_len a b n]
def bsr (P : Nat → Bool) (i j : Nat) : Nat := if i < j then (if P ((i + j) / 2) = true then bsr P ((i + j) / 2 + 1) j else bsr P i ((i + j) / 2)) else i
termination_by j - i
theorem bsr_T {P : Nat → Bool} {i j : Nat} (h : i < j) (hP : P ((i + j) / 2) = true) : bsr P ((i + j) / 2 + 1) j = bsr P i j := by
 conv => rhs; rw [bsr]
 rw [if_pos h, if_pos hP]
theorem bsr_F {P : Nat → Bool} {i j : Nat} (h : i < j) (hP : ¬ P ((i + j) / 2) = true) : bsr P i ((i + j) / 2) = bsr P i j := by
 conv => rhs; rw [bsr]
 rw [if_pos h, if_neg hP]
theorem bsr_stop {P : Nat → Bool} {i j : Nat} (h : ¬ i < j) : bsr P i j = i := by rw [bsr, if_neg h]
def upS : Nat → Nat → List Tm → List Tm
 | 0, _, xs => xs
 | n + 1, k, xs => upS n (k + 1) (swp xs k (k + 1))
def dnS : Nat → Nat → List Tm → List Tm
 | 0, _, xs => xs
 | n + 1, k, xs => dnS n (k - 1) (swp xs k (k - 1))
theorem upS_len : ∀ n k xs, (upS n k xs).length = xs.length
 | 0, _, _ => rfl
 | n + 1, k, xs => by rw [upS, upS_len n, swp_len]
theorem dnS_len : ∀ n k xs, (dnS n k xs).length = xs.length
 | 0, _, _ => rfl
 | n + 1, k, xs => by rw [dnS, dnS_len n, swp_len]
theorem upS_step {i k : Nat} {xs : List Tm} (h : k + 1 < i) : upS (i - 1 - (k + 1)) (k + 1) (swp xs k (k + 1)) = upS (i - 1 - k) k xs := by
 rw [show i - 1 - k = (i - 1 - (k + 1)) + 1 by omega, upS]
theorem dnS_step {i k : Nat} {xs : List Tm} (h : i < k) : dnS (k - 1 - i) (k - 1) (swp xs k (k - 1)) = dnS (k - i) k xs := by
 rw [show k - i = (k - 1 - i) + 1 by omega, dnS]
def rotF : Nat → Nat → Nat → Nat → List Tm → List Tm
 | 0, _, _, _, xs => xs
 | f + 1, m, i, j, xs => if i = j then swR (m - i) m i xs else if j < i then rotF f m (i - j) j (swR (m - i) m j xs) else rotF f m i (j - i) (swR (m - i) (m + j - i) i xs)
theorem rotF_len : ∀ f m i j xs, (rotF f m i j xs).length = xs.length
 | 0, _, _, _, _ => rfl
 | f + 1, m, i, j, xs => by
  rw [rotF]; split
  ·exact swR_len ..
  ·split
   ·rw [rotF_len f, swR_len]
   ·rw [rotF_len f, swR_len]
theorem rotF_gt {f m i j : Nat} {xs : List Tm} (hf : i + j ≤ f) (hj : 0 < j) (h : j < i) : rotF (f - 1) m (i - j) j (swR (m - i) m j xs) = rotF f m i j xs := by
 obtain ⟨g, rfl⟩ : ∃ g, f = g + 1 := ⟨f - 1, by omega⟩
 rw [rotF.eq_2, if_neg (by omega), if_pos h]; rfl
theorem rotF_lt {f m i j : Nat} {xs : List Tm} (hf : i + j ≤ f) (hi : 0 < i) (h : i < j) : rotF (f - 1) m i (j - i) (swR (m - i) (m + j - i) i xs) = rotF f m i j xs := by
 obtain ⟨g, rfl⟩ : ∃ g, f = g + 1 := ⟨f - 1, by omega⟩
 rw [rotF.eq_2, if_neg (by omega), if_neg (by omega)]; rfl
theorem rotF_eq {f m i j : Nat} {xs : List Tm} (hf : i + j ≤ f) (hi : 0 < i) (h : i = j) : swR (m - i) m i xs = rotF f m i j xs := by
 obtain ⟨g, rfl⟩ : ∃ g, f = g + 1 := ⟨f - 1, by omega⟩
 rw [rotF.eq_2, if_pos h]
abbrev rotT (m a b : Nat) (xs : List Tm) : List Tm := rotF (b - a) m (m - a) (b - m) xs
abbrev insA (lo md hi : Nat) (xs : List Tm) : Nat := bsr (fun h => decide (cmpT (atT xs h) (atT xs lo) < 0)) md hi
abbrev insB (lo md : Nat) (xs : List Tm) : Nat := bsr (fun h => !decide (cmpT (atT xs md) (atT xs h) < 0)) lo md
abbrev cutP (n : Nat) (xs : List Tm) (c : Nat) : Bool := !decide (cmpT (atT xs (n - 1 - c)) (atT xs c) < 0)
abbrev cutS (lo md hi : Nat) (xs : List Tm) : Nat := bsr (cutP ((lo + hi) / 2 + md) xs) (if (lo + hi) / 2 < md then (lo + hi) / 2 + md - hi else lo) (if (lo + hi) / 2 < md then (lo + hi) / 2 else md)
def symF : Nat → Nat → Nat → Nat → List Tm → List Tm
 | 0, _, _, _, xs => xs
 | f + 1, lo, md, hi, xs =>
  if md - lo = 1 then upS (insA lo md hi xs - 1 - lo) lo xs
  else if hi - md = 1 then dnS (md - insB lo md xs) md xs
  else
   let s := cutS lo md hi xs
   let e := (lo + hi) / 2 + md - s
   let y := if s < md ∧ md < e then rotT md s e xs else xs
   let z := if lo < s ∧ s < (lo + hi) / 2 then symF f lo s ((lo + hi) / 2) y else y
   if (lo + hi) / 2 < e ∧ e < hi then symF f ((lo + hi) / 2) e hi z else z
theorem symF_len : ∀ f lo md hi xs, (symF f lo md hi xs).length = xs.length
 | 0, _, _, _, _ => rfl
 | f + 1, lo, md, hi, xs => by
  rw [symF]; split
  ·exact upS_len ..
  ·split
   ·exact dnS_len ..
   ·have hy : (if cutS lo md hi xs < md ∧ md < (lo + hi) / 2 + md - cutS lo md hi xs then rotT md (cutS lo md hi xs) ((lo + hi) / 2 + md - cutS lo md hi xs) xs else xs).length = xs.length := by
     split
     ·exact rotF_len ..
     ·rfl
    have hz : (if lo < cutS lo md hi xs ∧ cutS lo md hi xs < (lo + hi) / 2 then symF f lo (cutS lo md hi xs) ((lo + hi) / 2) (if cutS lo md hi xs < md ∧ md < (lo + hi) / 2 + md - cutS lo md hi xs then rotT md (cutS lo md hi xs) ((lo + hi) / 2 + md - cutS lo md hi xs) xs else xs)
      else (if cutS lo md hi xs < md ∧ md < (lo + hi) / 2 + md - cutS lo md hi xs then rotT md (cutS lo md hi xs) ((lo + hi) / 2 + md - cutS lo md hi xs) xs else xs)).length = xs.length := by
     split
     ·rw [symF_len f]; exact hy
     ·exact hy
    dsimp only
    split
    ·rw [symF_len f]; exact hz
    ·exact hz
theorem symF_A {f lo md hi : Nat} {xs : List Tm} (h : md - lo = 1) {i : Nat} (hi' : i = insA lo md hi xs) : upS (i - 1 - lo) lo xs = symF (f + 1) lo md hi xs := by rw [symF, if_pos h, hi']
theorem symF_B {f lo md hi : Nat} {xs : List Tm} (h0 : ¬ md - lo = 1) (h : hi - md = 1) {i : Nat} (hi' : i = insB lo md xs) : dnS (md - i) md xs = symF (f + 1) lo md hi xs := by rw [symF, if_neg h0, if_pos h, hi']
theorem symF_C {f lo md hi : Nat} {xs y z : List Tm} {s e : Nat} (h0 : ¬ md - lo = 1) (h : ¬ hi - md = 1) (hs : s = cutS lo md hi xs) (he : e = (lo + hi) / 2 + md - s) (hy : y = if s < md ∧ md < e then rotT md s e xs else xs)
  (hz : z = if lo < s ∧ s < (lo + hi) / 2 then symF f lo s ((lo + hi) / 2) y else y) : (if (lo + hi) / 2 < e ∧ e < hi then symF f ((lo + hi) / 2) e hi z else z) = symF (f + 1) lo md hi xs := by
 subst hz; subst hy; subst he; subst hs
 rw [symF.eq_2, if_neg h0, if_neg h]
theorem cmpT_def (x y : Tm) : cmpMo y.exp x.exp = cmpT x y := rfl
theorem w_half {i j : Nat} : ((i : Int) + (j : Int)).fdiv (2 ^ (min (1 : Int).toNat 64)) = (((i + j) / 2 : Nat) : Int) := by
 have e : ((2 : Int) ^ (min (1 : Int).toNat 64)) = 2 := by decide
 rw [e, Int.fdiv_eq_ediv_of_nonneg _ (by decide)]; omega
def blF (n : Nat) : Nat → Nat → List Tm → List Tm
 | 0, _, xs => xs
 | f + 1, a, xs => if a + 20 ≤ n then blF n f (a + 20) (insT a (a + 20 - (a + 1)) (a + 1) xs) else insT a (n - (a + 1)) (a + 1) xs
def psF (n z : Nat) : Nat → Nat → List Tm → List Tm
 | 0, _, xs => xs
 | f + 1, a, xs => if a + 2 * z ≤ n then psF n z f (a + 2 * z) (symF (2 * z) a (a + z) (a + 2 * z) xs) else if a + z < n then symF (n - a) a (a + z) n xs else xs
def mgF (n : Nat) : Nat → Nat → List Tm → List Tm
 | 0, _, xs => xs
 | f + 1, z, xs => if z < n then mgF n f (z * 2) (psF n z (n + 1) 0 xs) else xs
def stT (xs : List Tm) : List Tm := mgF xs.length xs.length 20 (blF xs.length (xs.length + 1) 0 xs)
theorem blF_len (n : Nat) : ∀ f a xs, (blF n f a xs).length = xs.length
 | 0, _, _ => rfl
 | f + 1, a, xs => by
  rw [blF]; split
  ·rw [blF_len n f, insT_len]
  ·exact insT_len ..
theorem psF_len (n z : Nat) : ∀ f a xs, (psF n z f a xs).length = xs.length
 | 0, _, _ => rfl
 | f + 1, a, xs => by
  rw [psF]; split
  ·rw [psF_len n z f, symF_len]
  ·split
   ·exact symF_len ..
   ·rfl
theorem mgF_len (n : Nat) : ∀ f z xs, (mgF n f z xs).length = xs.length
 | 0, _, _ => rfl
 | f + 1, z, xs => by
  rw [mgF]; split
  ·rw [mgF_len n f, psF_len]
  ·rfl
theorem stT_len (xs : List Tm) : (stT xs).length = xs.length := by rw [stT, mgF_len, blF_len]
theorem blF_go {n f a : Nat} {xs : List Tm} (hf : 0 < f) (h : a + 20 ≤ n) : blF n (f - 1) (a + 20) (insT a (a + 20 - (a + 1)) (a + 1) xs) = blF n f a xs := by
 obtain ⟨g, rfl⟩ : ∃ g, f = g + 1 := ⟨f - 1, by omega⟩
 rw [blF.eq_2, if_pos h]; rfl
theorem blF_end {n f a : Nat} {xs : List Tm} (hf : 0 < f) (h : ¬ a + 20 ≤ n) : insT a (n - (a + 1)) (a + 1) xs = blF n f a xs := by
 obtain ⟨g, rfl⟩ : ∃ g, f = g + 1 := ⟨f - 1, by omega⟩
 rw [blF.eq_2, if_neg h]
theorem psF_go {n z f a : Nat} {xs : List Tm} (hf : 0 < f) (h : a + 2 * z ≤ n) : psF n z (f - 1) (a + 2 * z) (symF (2 * z) a (a + z) (a + 2 * z) xs) = psF n z f a xs := by
 obtain ⟨g, rfl⟩ : ∃ g, f = g + 1 := ⟨f - 1, by omega⟩
 rw [psF.eq_2, if_pos h]; rfl
theorem psF_end {n z f a : Nat} {xs : List Tm} (hf : 0 < f) (h : ¬ a + 2 * z ≤ n) : (if a + z < n then symF (n - a) a (a + z) n xs else xs) = psF n z f a xs := by
 obtain ⟨g, rfl⟩ : ∃ g, f = g + 1 := ⟨f - 1, by omega⟩
 rw [psF.eq_2, if_neg h]
theorem mgF_go {n f z : Nat} {xs : List Tm} (hf : 0 < f) (h : z < n) : mgF n (f - 1) (z * 2) (psF n z (n + 1) 0 xs) = mgF n f z xs := by
 obtain ⟨g, rfl⟩ : ∃ g, f = g + 1 := ⟨f - 1, by omega⟩
 rw [mgF.eq_2, if_pos h]; rfl
theorem mgF_end {n f z : Nat} {xs : List Tm} (h : ¬ z < n) : xs = mgF n f z xs := by
 cases f with
 | zero => rfl
 | succ f => rw [mgF, if_neg h]
end Go.Rt
namespace Go.Rt
open Go Go.RowKit
def ltM (m n : Mo) : Prop := m.d < n.d ∨ (m.d = n.d ∧ (m.c < n.c ∨ (m.c = n.c ∧ (m.b < n.b ∨ (m.b = n.b ∧ m.a < n.a)))))
theorem cmpMo_lt (m n : Mo) : cmpMo m n < 0 ↔ ltM m n := by
 simp only [cmpMo, cmpTo, Mo.at, ltM]
 split
 ·omega
 ·split
  ·omega
  ·split
   ·omega
   ·split
    ·omega
    ·split
     ·omega
     ·split
      ·omega
      ·split
       ·omega
       ·split <;> omega
def leT (x y : Tm) : Prop := ¬ cmpT y x < 0
theorem ltT_iff (x y : Tm) : cmpT x y < 0 ↔ ltM y.exp x.exp := cmpMo_lt _ _
theorem leT_of_lt {x y : Tm} (h : cmpT x y < 0) : leT x y := by
 unfold leT; rw [ltT_iff] at h ⊢; unfold ltM at *; omega
theorem leT_trans {x y z : Tm} (h : leT x y) (h1 : leT y z) : leT x z := by
 unfold leT at *; rw [ltT_iff] at h h1 ⊢; unfold ltM at *; omega
abbrev SortT (xs : List Tm) : Prop := xs.Pairwise leT
section lists
variable {A B C D U V W P Q R xs : List Tm} {x y : Tm} {i j n : Nat}
theorem atT_cut (h : xs = A ++ x :: B) (hi : i = A.length) : atT xs i = x := by
 subst h; subst hi; simp [atT, List.getD_eq_getElem?_getD]
theorem set_cut (h : xs = A ++ x :: B) (hi : i = A.length) : xs.set i y = A ++ y :: B := by
 subst h; subst hi; simp
theorem swp_cut (h : xs = P ++ x :: (Q ++ y :: R)) (hi : i = P.length) (hj : j = P.length + 1 + Q.length) : swp xs i j = P ++ y :: (Q ++ x :: R) := by
 unfold swp
 rw [atT_cut h hi, atT_cut (A := P ++ x :: Q) (B := R) (x := y) (by simp [h]) (by simp; omega), set_cut (y := y) h hi,
  set_cut (A := P ++ y :: Q) (B := R) (x := y) (y := x) (by simp) (by simp; omega)]
 simp
theorem swp_cut' (h : xs = P ++ x :: (Q ++ y :: R)) (hi : i = P.length) (hj : j = P.length + 1 + Q.length) : swp xs j i = P ++ y :: (Q ++ x :: R) := by
 unfold swp
 rw [atT_cut h hi, atT_cut (A := P ++ x :: Q) (B := R) (x := y) (by simp [h]) (by simp; omega),
  set_cut (A := P ++ x :: Q) (B := R) (x := y) (y := x) (by simp [h]) (by simp; omega), set_cut (A := P) (B := Q ++ x :: R) (x := x) (y := y) (by simp) hi]
theorem snocT : ∀ {n : Nat} {l : List Tm}, l.length = n + 1 → ∃ l' z, l = l' ++ [z] ∧ l'.length = n := fun {n l} h => by
 have hl : l ≠ [] := by intro q; subst q; simp at h
 exact ⟨l.dropLast, l.getLast hl, (List.dropLast_concat_getLast hl).symm, by simp [h]⟩
theorem swR_cut : ∀ (n : Nat) {P B M C D : List Tm} {a b : Nat}, P.length = a → B.length = n → C.length = n → b = a + n + M.length → swR a b n (P ++ (B ++ (M ++ (C ++ D)))) = P ++ (C ++ (M ++ (B ++ D)))
 | 0, P, B, M, C, D, a, b, h1, h2, h3, h4 => by
  rw [List.eq_nil_of_length_eq_zero h2, List.eq_nil_of_length_eq_zero h3]; rfl
 | n + 1, P, B, M, C, D, a, b, h1, h2, h3, h4 => by
  obtain ⟨B', x, rfl, hB⟩ := snocT h2
  obtain ⟨C', y, rfl, hC⟩ := snocT h3
  rw [swR]
  have ih := swR_cut n (P := P) (B := B') (M := x :: M) (C := C') (D := y :: D) (a := a) (b := b) h1 hB hC (by simp; omega)
  have e : P ++ (B' ++ [x] ++ (M ++ (C' ++ [y] ++ D))) = P ++ (B' ++ (x :: M ++ (C' ++ y :: D))) := by simp
  rw [e, ih, swp_cut (P := P ++ C') (x := x) (Q := M ++ B') (y := y) (R := D) (by simp) (by simp; omega) (by simp; omega)]
  simp
theorem rotF_cut : ∀ (f : Nat) {m i j : Nat} {A B C D : List Tm}, i + j ≤ f → 0 < i → 0 < j → A.length + B.length = m → B.length = i → C.length = j → rotF f m i j (A ++ (B ++ (C ++ D))) = A ++ (C ++ (B ++ D))
 | 0, m, i, j, A, B, C, D, hf, hi, hj, h1, h2, h3 => by omega
 | f + 1, m, i, j, A, B, C, D, hf, hi, hj, h1, h2, h3 => by
  rw [rotF]
  split
  ·have := swR_cut i (P := A) (B := B) (M := []) (C := C) (D := D) (a := m - i) (b := m) (by omega) (by omega) (by omega) (by simp; omega)
   simpa using this
  ·split
   ·have h := swR_cut j (P := A) (B := B.take j) (M := B.drop j) (C := C) (D := D) (a := m - i) (b := m) (by omega) (by simp; omega) h3 (by simp; omega)
    have e : A ++ (B.take j ++ (B.drop j ++ (C ++ D))) = A ++ (B ++ (C ++ D)) := by rw [← List.append_assoc (B.take j), List.take_append_drop]
    rw [e] at h
    rw [h]
    have ih := rotF_cut f (m := m) (i := i - j) (j := j) (A := A ++ C) (B := B.drop j) (C := B.take j) (D := D) (by omega) (by omega) hj (by simp; omega) (by simp; omega) (by simp; omega)
    have e2 : A ++ (C ++ (B.drop j ++ (B.take j ++ D))) = (A ++ C) ++ (B.drop j ++ (B.take j ++ D)) := by simp
    have e3 : A ++ C ++ (B.take j ++ (B.drop j ++ D)) = A ++ (C ++ (B ++ D)) := by rw [← List.append_assoc (B.take j), List.take_append_drop]; simp
    rw [e2, ih, e3]
   ·have h := swR_cut i (P := A) (B := B) (M := C.take (j - i)) (C := C.drop (j - i)) (D := D) (a := m - i) (b := m + j - i) (by omega) (by omega) (by simp; omega) (by simp; omega)
    have e : A ++ (B ++ (C.take (j - i) ++ (C.drop (j - i) ++ D))) = A ++ (B ++ (C ++ D)) := by rw [← List.append_assoc (C.take (j - i)), List.take_append_drop]
    rw [e] at h
    rw [h]
    have ih := rotF_cut f (m := m) (i := i) (j := j - i) (A := A) (B := C.drop (j - i)) (C := C.take (j - i)) (D := B ++ D) (by omega) hi (by omega) (by simp; omega) (by simp; omega) (by simp; omega)
    have e3 : A ++ (C.take (j - i) ++ (C.drop (j - i) ++ (B ++ D))) = A ++ (C ++ (B ++ D)) := by rw [← List.append_assoc (C.take (j - i)), List.take_append_drop]
    rw [ih, e3]
theorem upS_cut : ∀ (n : Nat) {k : Nat} {A V R : List Tm} {x : Tm}, A.length = k → V.length = n → upS n k (A ++ x :: (V ++ R)) = A ++ (V ++ x :: R)
 | 0, k, A, V, R, x, h, h1 => by rw [List.eq_nil_of_length_eq_zero h1]; rfl
 | n + 1, k, A, V, R, x, h, h1 => by
  obtain ⟨v, V', rfl⟩ := List.exists_cons_of_length_eq_add_one h1
  rw [upS, swp_cut (P := A) (x := x) (Q := []) (y := v) (R := V' ++ R) (by simp) h.symm (by simp; omega)]
  have ih := upS_cut n (k := k + 1) (A := A ++ [v]) (V := V') (R := R) (x := x) (by simp; omega) (by simpa using h1)
  simpa using ih
theorem dnS_cut : ∀ (n : Nat) {k : Nat} {A U R : List Tm} {y : Tm}, A.length + n = k → U.length = n → dnS n k (A ++ (U ++ y :: R)) = A ++ y :: (U ++ R)
 | 0, k, A, U, R, y, h, h1 => by rw [List.eq_nil_of_length_eq_zero h1]; rfl
 | n + 1, k, A, U, R, y, h, h1 => by
  obtain ⟨U', u, rfl, hU⟩ := snocT h1
  rw [dnS, swp_cut' (P := A ++ U') (x := u) (Q := []) (y := y) (R := R) (by simp) (by simp; omega) (by simp; omega)]
  have ih := dnS_cut n (k := k - 1) (A := A) (U := U') (R := u :: R) (y := y) (by omega) hU
  simpa using ih
theorem le_last (h : SortT (U ++ [x])) (hz : leT x y) : ∀ v ∈ U ++ [x], leT v y := fun v hv => by
 rcases List.mem_append.1 hv with q | q
 ·exact leT_trans ((List.pairwise_append.1 h).2.2 v q x (by simp)) hz
 ·simp at q; subst q; exact hz
theorem le_first (h : SortT (y :: V)) (hz : leT x y) : ∀ v ∈ y :: V, leT x v := fun v hv => by
 rcases List.mem_cons.1 hv with q | q
 ·subst q; exact hz
 ·exact leT_trans hz (List.rel_of_pairwise_cons h q)
theorem le_cross (hU : SortT U) (hV : SortT V) (h : ∀ U' x y V', U = U' ++ [x] → V = y :: V' → leT x y) : ∀ u ∈ U, ∀ v ∈ V, leT u v := fun u hu v hv => by
 have hU' : U.length ≠ 0 := by intro q; rw [List.eq_nil_of_length_eq_zero q] at hu; cases hu
 obtain ⟨U', x, e, _⟩ := snocT (n := U.length - 1) (l := U) (by omega)
 cases V with
 | nil => cases hv
 | cons y V' =>
  have h1 := h U' x y V' e rfl
  rw [e] at hU hu
  exact leT_trans (le_last hU h1 u hu) (le_first hV (by unfold leT; rw [ltT_iff]; unfold ltM; omega) v hv)
theorem sort_app : SortT (U ++ V) ↔ SortT U ∧ SortT V ∧ ∀ u ∈ U, ∀ v ∈ V, leT u v := List.pairwise_append
theorem bsr_spec (P : Nat → Bool) : ∀ (n : Nat) {i j : Nat}, j - i ≤ n → i ≤ j → i ≤ bsr P i j ∧ bsr P i j ≤ j ∧ (bsr P i j = i ∨ P (bsr P i j - 1) = true) ∧ (bsr P i j = j ∨ P (bsr P i j) = false)
 | 0, i, j, hn, h => by rw [bsr_stop (by omega)]; omega
 | n + 1, i, j, hn, h => by
  by_cases hij : i < j
  ·by_cases hP : P ((i + j) / 2) = true
   ·have ih := bsr_spec P n (i := (i + j) / 2 + 1) (j := j) (by omega) (by omega)
    rw [bsr_T hij hP] at ih
    refine ⟨by omega, ih.2.1, ?_, ih.2.2.2⟩
    rcases ih.2.2.1 with q | q
    ·right; rw [q]; simpa using hP
    ·right; exact q
   ·have ih := bsr_spec P n (i := i) (j := (i + j) / 2) (by omega) (by omega)
    rw [bsr_F hij hP] at ih
    refine ⟨ih.1, by omega, ih.2.2.1, ?_⟩
    rcases ih.2.2.2 with q | q
    ·right; rw [q]; simpa using hP
    ·right; exact q
  ·rw [bsr_stop hij]; omega
theorem siftT_cut : ∀ (n : Nat) {A U R : List Tm} {y : Tm} {a j : Nat}, U.length = n → A.length = a → j = a + n → ∃ U1 U2, U = U1 ++ U2 ∧ siftT a j (A ++ (U ++ y :: R)) = A ++ (U1 ++ y :: (U2 ++ R)) ∧ (∀ u ∈ U2, cmpT y u < 0) ∧ (∀ U' u, U1 = U' ++ [u] → ¬ cmpT y u < 0)
 | 0, A, U, R, y, a, j, h, h1, h2 => by
  rw [siftT_stop (.inl (by omega))]
  exact ⟨U, [], by simp, by simp, by simp, fun U' u e => by rw [List.eq_nil_of_length_eq_zero h] at e; simp at e⟩
 | n + 1, A, U, R, y, a, j, h, h1, h2 => by
  obtain ⟨U', u, rfl, hU⟩ := snocT h
  have ey : atT (A ++ (U' ++ [u] ++ y :: R)) j = y := atT_cut (A := A ++ (U' ++ [u])) (B := R) (by simp) (by simp; omega)
  have eu : atT (A ++ (U' ++ [u] ++ y :: R)) (j - 1) = u := atT_cut (A := A ++ U') (B := y :: R) (by simp) (by simp; omega)
  by_cases hc : cmpT y u < 0
  ·rw [← siftT_go (by omega) (by rw [ey, eu]; exact hc), ey, eu, set_cut (A := A ++ (U' ++ [u])) (B := R) (x := y) (y := u) (by simp) (by simp; omega),
    set_cut (A := A ++ U') (B := u :: R) (x := u) (y := y) (by simp) (by simp; omega)]
   obtain ⟨U1, U2, e1, e2, e3, e4⟩ := siftT_cut n (A := A) (U := U') (R := u :: R) (y := y) (a := a) (j := j - 1) hU h1 (by omega)
   refine ⟨U1, U2 ++ [u], by rw [e1]; simp, ?_, fun v hv => ?_, e4⟩
   ·rw [List.append_assoc, e2]; simp
   ·rcases List.mem_append.1 hv with q | q
    ·exact e3 v q
    ·simp at q; subst q; exact hc
  ·rw [siftT_stop (.inr (by rw [ey, eu]; exact hc))]
   refine ⟨U' ++ [u], [], by simp, by simp, by simp, fun V v e => ?_⟩
   have := List.append_inj' e rfl
   simp at this; rw [← this.2]; exact hc
theorem sift_sort {U1 U2 : List Tm} (h : SortT (U1 ++ U2)) (h1 : ∀ u ∈ U2, cmpT y u < 0) (h2 : ∀ U' u, U1 = U' ++ [u] → ¬ cmpT y u < 0) : SortT (U1 ++ y :: U2) := by
 obtain ⟨a, b, c⟩ := sort_app.1 h
 refine sort_app.2 ⟨a, List.pairwise_cons.2 ⟨fun v hv => leT_of_lt (h1 v hv), b⟩, fun u hu v hv => ?_⟩
 rcases List.mem_cons.1 hv with q | q
 ·subst q
  have hl : U1.length ≠ 0 := by intro q; rw [List.eq_nil_of_length_eq_zero q] at hu; cases hu
  obtain ⟨U', x, e, _⟩ := snocT (n := U1.length - 1) (l := U1) (by omega)
  rw [e] at a hu
  exact le_last a (h2 U' x e) u hu
 ·exact c u hu v q
theorem insT_cut : ∀ (n : Nat) {A W V R : List Tm} {a i : Nat}, A.length = a → a + W.length = i → V.length = n → SortT W → ∃ W', insT a n i (A ++ (W ++ (V ++ R))) = A ++ (W' ++ R) ∧ W'.Perm (W ++ V) ∧ SortT W'
 | 0, A, W, V, R, a, i, h, h1, h2, h3 => ⟨W, by rw [List.eq_nil_of_length_eq_zero h2]; rfl, by rw [List.eq_nil_of_length_eq_zero h2]; simp, h3⟩
 | n + 1, A, W, V, R, a, i, h, h1, h2, h3 => by
  obtain ⟨v, V', rfl⟩ := List.exists_cons_of_length_eq_add_one h2
  rw [insT]
  obtain ⟨U1, U2, e1, e2, e3, e4⟩ := siftT_cut W.length (A := A) (U := W) (R := V' ++ R) (y := v) (a := a) (j := i) rfl h h1.symm
  have e : A ++ (W ++ (v :: V' ++ R)) = A ++ (W ++ v :: (V' ++ R)) := by simp
  rw [e, e2]
  obtain ⟨W', w1, w2, w3⟩ := insT_cut n (A := A) (W := U1 ++ v :: U2) (V := V') (R := R) (a := a) (i := i + 1) h (by rw [e1] at h1; simp at h1 ⊢; omega) (by simpa using h2) (sift_sort (by rw [← e1]; exact h3) e3 e4)
  refine ⟨W', ?_, ?_, w3⟩
  ·have : A ++ (U1 ++ v :: (U2 ++ (V' ++ R))) = A ++ (U1 ++ v :: U2 ++ (V' ++ R)) := by simp
   rw [this, w1]
  ·refine w2.trans ?_
   rw [e1]
   have : U1 ++ v :: U2 ++ V' = U1 ++ v :: (U2 ++ V') := by simp
   rw [this]
   have h5 : (U1 ++ U2 ++ v :: V') = U1 ++ (U2 ++ v :: V') := by simp
   rw [h5]
   exact List.Perm.append_left _ List.perm_middle.symm
theorem sortT_perm (xs : List Tm) : (sortT xs).Perm xs ∧ SortT (sortT xs) := by
 cases xs with
 | nil => exact ⟨.refl _, .nil⟩
 | cons x xs =>
  obtain ⟨W', h1, h2, h3⟩ := insT_cut xs.length (A := []) (W := [x]) (V := xs) (R := []) (a := 0) (i := 1) rfl rfl rfl (by simp)
  simp at h1
  show (insT 0 ((x :: xs).length - 1) 1 (x :: xs)).Perm _ ∧ SortT (insT 0 ((x :: xs).length - 1) 1 (x :: xs))
  rw [show (x :: xs).length - 1 = xs.length by simp, h1]
  exact ⟨h2, h3⟩
theorem cut_two (V : List Tm) (k : Nat) : V = V.take k ++ V.drop k := (List.take_append_drop k V).symm
theorem symF_cut : ∀ (f : Nat) {lo md hi : Nat} {A U V D : List Tm}, hi - lo ≤ f → A.length = lo → lo + U.length = md → md + V.length = hi → 0 < U.length → 0 < V.length → SortT U → SortT V →
  ∃ W, symF f lo md hi (A ++ (U ++ (V ++ D))) = A ++ (W ++ D) ∧ W.Perm (U ++ V) ∧ SortT W
 | 0, lo, md, hi, A, U, V, D, hf, hA, hU, hV, hu, hv, sU, sV => by omega
 | f + 1, lo, md, hi, A, U, V, D, hf, hA, hU, hV, hu, hv, sU, sV => by
  generalize hxs : A ++ (U ++ (V ++ D)) = xs
  by_cases c1 : md - lo = 1
  ·rw [← symF_A (f := f) c1 rfl]
   obtain ⟨x, e⟩ := List.length_eq_one_iff.1 (show U.length = 1 by omega)
   subst e
   have ex : atT xs lo = x := atT_cut (A := A) (B := V ++ D) (by rw [← hxs]; simp) hA.symm
   obtain ⟨b1, b2, b3, b4⟩ := bsr_spec (fun h => decide (cmpT (atT xs h) (atT xs lo) < 0)) (hi - md) (i := md) (j := hi) (Nat.le_refl _) (by omega)
   have hi' : bsr (fun h => decide (cmpT (atT xs h) (atT xs lo) < 0)) md hi = insA lo md hi xs := rfl
   rw [hi'] at b1 b2 b3 b4
   generalize insA lo md hi xs = i at b1 b2 b3 b4 ⊢
   have eV := cut_two V (i - md)
   generalize hV1 : V.take (i - md) = V1 at eV
   generalize hV2 : V.drop (i - md) = V2 at eV
   have l1 : V1.length = i - md := by rw [← hV1]; simp; omega
   have l2 : V2.length = hi - i := by rw [← hV2]; simp; omega
   subst eV
   obtain ⟨s1, s2, s3⟩ := sort_app.1 sV
   have key1 : ∀ v ∈ V1, leT v x := by
    refine fun v hv => le_cross s1 (List.pairwise_singleton leT x) (fun U' z y V' e e' => ?_) v hv x (by simp)
    simp at e'; obtain ⟨rfl, rfl⟩ := e'
    subst e
    have ez : atT xs (i - 1) = z := atT_cut (A := A ++ [x] ++ U') (B := V2 ++ D) (by rw [← hxs]; simp) (by simp at l1 ⊢; omega)
    rcases b3 with q | q
    ·simp at l1; omega
    ·simp only [ez, ex, decide_eq_true_eq] at q; exact leT_of_lt q
   have key2 : ∀ v ∈ V2, leT x v := by
    refine fun v hv => le_cross (List.pairwise_singleton leT x) s2 (fun U' z y V' e e' => ?_) x (by simp) v hv
    have hz : x = z := by have := List.append_inj' (show [] ++ [x] = U' ++ [z] by simpa using e) rfl; simpa using this.2
    subst hz
    subst e'
    have ez : atT xs i = y := atT_cut (A := A ++ [x] ++ V1) (B := V' ++ D) (by rw [← hxs]; simp) (by simp at l1 ⊢; omega)
    rcases b4 with q | q
    ·simp at l2; omega
    ·simp only [ez, ex, decide_eq_false_iff_not] at q; exact q
   refine ⟨V1 ++ x :: V2, ?_, ?_, ?_⟩
   ·have e : xs = A ++ x :: (V1 ++ (V2 ++ D)) := by rw [← hxs]; simp
    rw [e, upS_cut (i - 1 - lo) hA (by omega)]; simp
   ·exact List.perm_middle
   ·exact sort_app.2 ⟨s1, List.pairwise_cons.2 ⟨key2, s2⟩, fun u hu' v hv' => by
     rcases List.mem_cons.1 hv' with q | q
     ·rw [q]; exact key1 u hu'
     ·exact s3 u hu' v q⟩
  ·by_cases c2 : hi - md = 1
   ·rw [← symF_B (f := f) c1 c2 rfl]
    obtain ⟨x, e⟩ := List.length_eq_one_iff.1 (show V.length = 1 by omega)
    subst e
    have ex : atT xs md = x := atT_cut (A := A ++ U) (B := D) (by rw [← hxs]; simp) (by simp; omega)
    obtain ⟨b1, b2, b3, b4⟩ := bsr_spec (fun h => !decide (cmpT (atT xs md) (atT xs h) < 0)) (md - lo) (i := lo) (j := md) (Nat.le_refl _) (by omega)
    have hi' : bsr (fun h => !decide (cmpT (atT xs md) (atT xs h) < 0)) lo md = insB lo md xs := rfl
    rw [hi'] at b1 b2 b3 b4
    generalize insB lo md xs = i at b1 b2 b3 b4 ⊢
    have eU := cut_two U (i - lo)
    generalize hU1 : U.take (i - lo) = U1 at eU
    generalize hU2 : U.drop (i - lo) = U2 at eU
    have l1 : U1.length = i - lo := by rw [← hU1]; simp; omega
    have l2 : U2.length = md - i := by rw [← hU2]; simp; omega
    subst eU
    obtain ⟨s1, s2, s3⟩ := sort_app.1 sU
    have key1 : ∀ v ∈ U1, leT v x := by
     refine fun v hv => le_cross s1 (List.pairwise_singleton leT x) (fun U' z y V' e e' => ?_) v hv x (by simp)
     simp at e'; obtain ⟨rfl, rfl⟩ := e'
     subst e
     have ez : atT xs (i - 1) = z := atT_cut (A := A ++ U') (B := U2 ++ ([x] ++ D)) (by rw [← hxs]; simp) (by simp at l1 ⊢; omega)
     rcases b3 with q | q
     ·simp at l1; omega
     ·simp only [ez, ex, Bool.not_eq_true', decide_eq_false_iff_not] at q; exact q
    have key2 : ∀ v ∈ U2, leT x v := by
     refine fun v hv => le_cross (List.pairwise_singleton leT x) s2 (fun U' z y V' e e' => ?_) x (by simp) v hv
     have hz : x = z := by have := List.append_inj' (show [] ++ [x] = U' ++ [z] by simpa using e) rfl; simpa using this.2
     subst hz
     subst e'
     have ez : atT xs i = y := atT_cut (A := A ++ U1) (B := V' ++ ([x] ++ D)) (by rw [← hxs]; simp) (by simp at l1 ⊢; omega)
     rcases b4 with q | q
     ·simp at l2; omega
     ·simp only [ez, ex, Bool.not_eq_false', decide_eq_true_eq] at q; exact leT_of_lt q
    refine ⟨U1 ++ x :: U2, ?_, ?_, ?_⟩
    ·have e : xs = (A ++ U1) ++ (U2 ++ x :: D) := by rw [← hxs]; simp
     rw [e, dnS_cut (md - i) (by simp; omega) (by omega)]; simp
    ·have : U1 ++ U2 ++ [x] = U1 ++ (U2 ++ [x]) := by simp
     rw [this]; exact List.Perm.append_left _ (List.perm_append_comm (l₁ := [x]) (l₂ := U2))
    ·exact sort_app.2 ⟨s1, List.pairwise_cons.2 ⟨key2, s2⟩, fun u hu' v hv' => by
      rcases List.mem_cons.1 hv' with q | q
      ·rw [q]; exact key1 u hu'
      ·exact s3 u hu' v q⟩
   ·-- both parts have at least two elements
    have hmid : ∃ mid, mid = (lo + hi) / 2 := ⟨_, rfl⟩
    obtain ⟨mid, hmid⟩ := hmid
    have hcs : ∃ s0 r0, s0 = (if mid < md then mid + md - hi else lo) ∧ r0 = (if mid < md then mid else md) := ⟨_, _, rfl, rfl⟩
    obtain ⟨s0, r0, hs0, hr0⟩ := hcs
    have hbnd : lo ≤ s0 ∧ s0 ≤ r0 ∧ r0 ≤ md ∧ r0 ≤ mid ∧ mid + md ≤ hi + s0 ∧ (s0 = lo ∨ mid + md = hi + s0) ∧ (r0 = md ∨ r0 = mid) := by
     by_cases q : mid < md
     ·rw [if_pos q] at hs0 hr0; omega
     ·rw [if_neg q] at hs0 hr0; omega
    obtain ⟨b1, b2, b3, b4⟩ := bsr_spec (cutP (mid + md) xs) (r0 - s0) (i := s0) (j := r0) (Nat.le_refl _) (by omega)
    have hc : cutS lo md hi xs = bsr (cutP (mid + md) xs) s0 r0 := by rw [cutS, hs0, hr0, hmid]
    generalize hs : bsr (cutP (mid + md) xs) s0 r0 = s at b1 b2 b3 b4 hc
    have he : ∃ e, e = mid + md - s := ⟨_, rfl⟩
    obtain ⟨e, he⟩ := he
    have eU := cut_two U (s - lo)
    generalize hU1 : U.take (s - lo) = U1 at eU
    generalize hU2 : U.drop (s - lo) = U2 at eU
    have lu1 : U1.length = s - lo := by rw [← hU1]; simp; omega
    have lu2 : U2.length = md - s := by rw [← hU2]; simp; omega
    have eV := cut_two V (e - md)
    generalize hV1 : V.take (e - md) = V1 at eV
    generalize hV2 : V.drop (e - md) = V2 at eV
    have lv1 : V1.length = e - md := by rw [← hV1]; simp; omega
    have lv2 : V2.length = hi - e := by rw [← hV2]; simp; omega
    subst eU; subst eV
    obtain ⟨u1, u2, u3⟩ := sort_app.1 sU
    obtain ⟨v1, v2, v3⟩ := sort_app.1 sV
    have x1 : ∀ u ∈ U1, ∀ v ∈ V2, leT u v := le_cross u1 v2 fun U' x y V' q q' => by
     subst q; subst q'
     simp at lu1 lv2
     have ex : atT xs (s - 1) = x := atT_cut (A := A ++ U') (B := U2 ++ ((V1 ++ y :: V') ++ D)) (by rw [← hxs]; simp) (by simp; omega)
     have ey : atT xs (mid + md - 1 - (s - 1)) = y := atT_cut (A := A ++ (U' ++ [x] ++ (U2 ++ V1))) (B := V' ++ D) (by rw [← hxs]; simp) (by simp; omega)
     rcases b3 with q | q
     ·omega
     ·simp only [cutP, ex, ey, Bool.not_eq_true', decide_eq_false_iff_not] at q; exact q
    have x2 : ∀ u ∈ V1, ∀ v ∈ U2, leT u v := le_cross v1 u2 fun U' x y V' q q' => by
     subst q; subst q'
     simp at lv1 lu2
     have ex : atT xs (mid + md - 1 - s) = x := atT_cut (A := A ++ (U1 ++ y :: V') ++ U') (B := V2 ++ D) (by rw [← hxs]; simp) (by simp; omega)
     have ey : atT xs s = y := atT_cut (A := A ++ U1) (B := V' ++ ((U' ++ [x] ++ V2) ++ D)) (by rw [← hxs]; simp) (by simp; omega)
     rcases b4 with q | q
     ·omega
     ·simp only [cutP, ex, ey, Bool.not_eq_false', decide_eq_true_eq] at q; exact leT_of_lt q
    have hy : (if s < md ∧ md < e then rotT md s e xs else xs) = A ++ (U1 ++ (V1 ++ (U2 ++ (V2 ++ D)))) := by
     split
     ·have := rotF_cut (e - s) (m := md) (i := md - s) (j := e - md) (A := A ++ U1) (B := U2) (C := V1) (D := V2 ++ D) (by omega) (by omega) (by omega) (by simp; omega) lu2 lv1
      have e1 : xs = A ++ U1 ++ (U2 ++ (V1 ++ (V2 ++ D))) := by rw [← hxs]; simp
      rw [e1, rotT, this]; simp
     ·rename_i hn
      by_cases q : s < md
      ·rw [List.eq_nil_of_length_eq_zero (show V1.length = 0 by omega)] at hxs ⊢
       rw [← hxs]; simp
      ·rw [List.eq_nil_of_length_eq_zero (show U2.length = 0 by omega)] at hxs ⊢
       rw [← hxs]; simp
    have hz : ∃ W1, (if lo < s ∧ s < mid then symF f lo s mid (A ++ (U1 ++ (V1 ++ (U2 ++ (V2 ++ D))))) else A ++ (U1 ++ (V1 ++ (U2 ++ (V2 ++ D))))) = A ++ (W1 ++ (U2 ++ (V2 ++ D))) ∧ W1.Perm (U1 ++ V1) ∧ SortT W1 := by
     split
     ·exact symF_cut f (by omega) hA (by omega) (by omega) (by omega) (by omega) u1 v1
     ·rename_i hn
      refine ⟨U1 ++ V1, by simp, .refl _, ?_⟩
      by_cases q : lo < s
      ·rw [List.eq_nil_of_length_eq_zero (show V1.length = 0 by omega)]; simpa using u1
      ·rw [List.eq_nil_of_length_eq_zero (show U1.length = 0 by omega)]; simpa using v1
    obtain ⟨W1, z1, z2, z3⟩ := hz
    have hw : ∃ W2, (if mid < e ∧ e < hi then symF f mid e hi (A ++ (W1 ++ (U2 ++ (V2 ++ D)))) else A ++ (W1 ++ (U2 ++ (V2 ++ D)))) = A ++ (W1 ++ (W2 ++ D)) ∧ W2.Perm (U2 ++ V2) ∧ SortT W2 := by
     have lw : W1.length = U1.length + V1.length := by rw [z2.length_eq, List.length_append]
     split
     ·obtain ⟨W2, w1, w2, w3⟩ := symF_cut f (lo := mid) (md := e) (hi := hi) (A := A ++ W1) (U := U2) (V := V2) (D := D) (by omega) (by simp; omega) (by omega) (by omega) (by omega) (by omega) u2 v2
      refine ⟨W2, ?_, w2, w3⟩
      have e1 : A ++ (W1 ++ (U2 ++ (V2 ++ D))) = A ++ W1 ++ (U2 ++ (V2 ++ D)) := by simp
      rw [e1, w1]; simp
     ·rename_i hn
      refine ⟨U2 ++ V2, by simp, .refl _, ?_⟩
      by_cases q : mid < e
      ·rw [List.eq_nil_of_length_eq_zero (show V2.length = 0 by omega)]; simpa using u2
      ·rw [List.eq_nil_of_length_eq_zero (show U2.length = 0 by omega)]; simpa using v2
    obtain ⟨W2, w1, w2, w3⟩ := hw
    have hfin := symF_C (f := f) (xs := xs) (s := s) (e := e) c1 c2 hc.symm (by rw [he, hmid]) hy.symm (by rw [← hmid])
    rw [← hfin, ← hmid, z1, w1]
    refine ⟨W1 ++ W2, by simp, ?_, sort_app.2 ⟨z3, w3, fun u hu v hv => ?_⟩⟩
    ·refine (z2.append w2).trans ?_
     have q1 : U1 ++ V1 ++ (U2 ++ V2) = U1 ++ (V1 ++ (U2 ++ V2)) := by simp
     have q2 : U1 ++ U2 ++ (V1 ++ V2) = U1 ++ (U2 ++ (V1 ++ V2)) := by simp
     rw [q1, q2]
     refine List.Perm.append_left _ ?_
     have q3 : V1 ++ (U2 ++ V2) = (V1 ++ U2) ++ V2 := by simp
     have q4 : U2 ++ (V1 ++ V2) = (U2 ++ V1) ++ V2 := by simp
     rw [q3, q4]
     exact List.Perm.append_right _ List.perm_append_comm
    ·have hu' := z2.mem_iff.1 hu
     have hv' := w2.mem_iff.1 hv
     rcases List.mem_append.1 hu' with a | a <;> rcases List.mem_append.1 hv' with b | b
     ·exact u3 u a v b
     ·exact x1 u a v b
     ·exact x2 u a v b
     ·exact v3 u a v b
inductive Runs (z : Nat) : List Tm → Prop
 | last {W : List Tm} (h : SortT W) (hl : W.length ≤ z) : Runs z W
 | cons {W V : List Tm} (h : SortT W) (hl : W.length = z) (hv : Runs z V) : Runs z (W ++ V)
theorem Runs.cut {z : Nat} {V : List Tm} (h : Runs z V) (hz : z < V.length) : ∃ W V', V = W ++ V' ∧ SortT W ∧ W.length = z ∧ Runs z V' := by
 cases h with
 | last h hl => omega
 | cons h hl hv => exact ⟨_, _, rfl, h, hl, hv⟩
theorem Runs.sort {z : Nat} {V : List Tm} (hz : 0 < z) (h : Runs z V) (hl : V.length ≤ z) : SortT V := by
 cases h with
 | last h _ => exact h
 | cons h hw hv =>
  rename_i W V'
  have : V' = [] := List.eq_nil_of_length_eq_zero (by simp at hl; omega)
  subst this; simpa using h
theorem blF_cut (n : Nat) : ∀ (f : Nat) {A V : List Tm} {a : Nat}, A.length = a → a + V.length = n → V.length < f → ∃ V', blF n f a (A ++ V) = A ++ V' ∧ V'.Perm V ∧ Runs 20 V'
 | 0, A, V, a, h, h1, h2 => by omega
 | f + 1, A, V, a, h, h1, h2 => by
  rw [blF]
  split
  ·have e := cut_two V 20
   generalize hV1 : V.take 20 = V1 at e
   generalize hV2 : V.drop 20 = V2 at e
   have l1 : V1.length = 20 := by rw [← hV1]; simp; omega
   subst e
   obtain ⟨v, V1', rfl⟩ := List.exists_cons_of_length_eq_add_one l1
   obtain ⟨W', w1, w2, w3⟩ := insT_cut 19 (A := A) (W := [v]) (V := V1') (R := V2) (a := a) (i := a + 1) h rfl (by simpa using l1) (by simp)
   have e1 : A ++ (v :: V1' ++ V2) = A ++ ([v] ++ (V1' ++ V2)) := by simp
   have hl' := w2.length_eq
   have hl20 : W'.length = 20 := by rw [hl']; simpa using l1
   rw [show a + 20 - (a + 1) = 19 by omega, e1, w1]
   obtain ⟨V', q1, q2, q3⟩ := blF_cut n f (A := A ++ W') (V := V2) (a := a + 20) (by simp; omega) (by simp at h1 l1 ⊢; omega) (by simp at h2 l1; omega)
   have e2 : A ++ (W' ++ V2) = A ++ W' ++ V2 := by simp
   rw [e2, q1]
   refine ⟨W' ++ V', by simp, ?_, .cons w3 hl20 q3⟩
   exact (w2.append q2)
  ·cases V with
   | nil =>
    simp at h1
    refine ⟨[], ?_, .refl _, .last .nil (by simp)⟩
    rw [show n - (a + 1) = 0 by omega]; rfl
   | cons v V1' =>
    obtain ⟨W', w1, w2, w3⟩ := insT_cut (n - (a + 1)) (A := A) (W := [v]) (V := V1') (R := []) (a := a) (i := a + 1) h rfl (by simp at h1; omega) (by simp)
    have hl' := w2.length_eq
    have e1 : A ++ v :: V1' = A ++ ([v] ++ (V1' ++ [])) := by simp
    rw [e1, w1]
    exact ⟨W', by simp, w2, .last w3 (by simp at h1 hl'; omega)⟩
theorem psF_cut (n z : Nat) (hz : 0 < z) : ∀ (f : Nat) {A V : List Tm} {a : Nat}, A.length = a → a + V.length = n → V.length < f → Runs z V → ∃ V', psF n z f a (A ++ V) = A ++ V' ∧ V'.Perm V ∧ Runs (2 * z) V'
 | 0, A, V, a, h, h1, h2, hr => by omega
 | f + 1, A, V, a, h, h1, h2, hr => by
  rw [psF]
  split
  ·obtain ⟨W1, V1, rfl, s1, l1, r1⟩ := hr.cut (by omega)
   simp at h1 h2
   have hc2 : ∃ W2 V2, V1 = W2 ++ V2 ∧ SortT W2 ∧ W2.length = z ∧ Runs z V2 := by
    by_cases q : z < V1.length
    ·exact r1.cut q
    ·exact ⟨V1, [], by simp, r1.sort hz (by omega), by omega, .last .nil (by simp)⟩
   obtain ⟨W2, V2, rfl, s2, l2, r2⟩ := hc2
   simp at h1 h2
   obtain ⟨W, w1, w2, w3⟩ := symF_cut (2 * z) (lo := a) (md := a + z) (hi := a + 2 * z) (A := A) (U := W1) (V := W2) (D := V2) (by omega) h (by omega) (by omega) (by omega) (by omega) s1 s2
   have lw : W.length = 2 * z := by rw [w2.length_eq]; simp; omega
   obtain ⟨V', q1, q2, q3⟩ := psF_cut n z hz f (A := A ++ W) (V := V2) (a := a + 2 * z) (by simp; omega) (by omega) (by omega) r2
   have e2 : A ++ (W ++ V2) = A ++ W ++ V2 := by simp
   rw [w1, e2, q1]
   refine ⟨W ++ V', by simp, ?_, .cons w3 lw q3⟩
   rw [← List.append_assoc]; exact w2.append q2
  ·split
   ·obtain ⟨W1, V1, rfl, s1, l1, r1⟩ := hr.cut (by omega)
    simp at h1 h2
    obtain ⟨W, w1, w2, w3⟩ := symF_cut (n - a) (lo := a) (md := a + z) (hi := n) (A := A) (U := W1) (V := V1) (D := []) (by omega) h (by omega) (by omega) (by omega) (by omega) s1 (r1.sort hz (by omega))
    have lw : W.length = W1.length + V1.length := by rw [w2.length_eq]; simp
    have e1 : A ++ (W1 ++ V1) = A ++ (W1 ++ (V1 ++ [])) := by simp
    rw [e1, w1]
    exact ⟨W, by simp, w2, .last w3 (by omega)⟩
   ·exact ⟨V, rfl, .refl _, .last (hr.sort hz (by omega)) (by omega)⟩
theorem mgF_cut : ∀ (f : Nat) {z : Nat} {V : List Tm}, 0 < z → (V.length ≤ z ∨ V.length < z + f) → Runs z V → (mgF V.length f z V).Perm V ∧ SortT (mgF V.length f z V)
 | 0, z, V, hz, h, hr => ⟨.refl _, hr.sort hz (by rcases h with h | h; exact h; exact Nat.le_of_lt h)⟩
 | f + 1, z, V, hz, h, hr => by
  rw [mgF]
  split
  ·obtain ⟨V', q1, q2, q3⟩ := psF_cut V.length z hz (V.length + 1) (A := []) (V := V) (a := 0) rfl (by omega) (by omega) hr
   simp at q1
   rw [q1, ← q2.length_eq]
   have l := q2.length_eq
   have ih := mgF_cut f (z := z * 2) (V := V') (by omega) (by omega) (by rw [Nat.mul_comm]; exact q3)
   exact ⟨ih.1.trans q2, ih.2⟩
  ·exact ⟨.refl _, hr.sort hz (by omega)⟩
theorem stT_perm (xs : List Tm) : (stT xs).Perm xs ∧ SortT (stT xs) := by
 obtain ⟨V', q1, q2, q3⟩ := blF_cut xs.length (xs.length + 1) (A := []) (V := xs) (a := 0) rfl (by omega) (by omega)
 simp at q1
 have l := q2.length_eq
 have := mgF_cut xs.length (z := 20) (V := V') (by decide) (by omega) q3
 rw [stT, q1, ← l]
 rw [← l] at this
 exact ⟨this.1.trans q2, this.2⟩
end lists
end Go.Rt
namespace Go.Rt
open Go Go.RowKit
def S (f : Mo → Int) : List Tm → Int
 | [] => 0
 | t :: ts => X4 t.coef * f t.exp + S f ts
section sums
variable {f g : Mo → Int} {xs ys ts : List Tm} {m : Mo}
theorem S_append : S f (xs ++ ys) = S f xs + S f ys := by
 induction xs with
 | nil => simp [S]
 | cons x xs ih => simp only [List.cons_append, S, ih]; omega
theorem S_perm (h : xs.Perm ys) : S f xs = S f ys := by
 induction h with
 | nil => rfl
 | cons x _ ih => simp only [S, ih]
 | swap x y l => simp only [S]; omega
 | trans _ _ h1 h2 => rw [h1, h2]
theorem S_zero (h : ∀ t ∈ xs, f t.exp = 0) : S f xs = 0 := by
 induction xs with
 | nil => rfl
 | cons x xs ih => rw [S, h x (by simp), ih fun t ht => h t (by simp [ht])]; simp
theorem S_congr (h : ∀ t ∈ xs, f t.exp = g t.exp) : S f xs = S g xs := by
 induction xs with
 | nil => rfl
 | cons x xs ih => rw [S, S, h x (by simp), ih fun t ht => h t (by simp [ht])]
theorem S_mul (c : Int) : S (fun m => c * f m) xs = c * S f xs := by
 induction xs with
 | nil => simp [S]
 | cons x xs ih => rw [S, S, ih, Int.mul_add, Int.mul_left_comm]
theorem sumRun_S (m : Mo) : ∀ (c : Int) (ts : List Tm), (U8 m c ts).1 * f m + S f (U8 m c ts).2 = c * f m + S f ts
 | c, [] => rfl
 | c, t :: ts => by
  rw [U8]; split
  ·rename_i h; rw [sumRun_S m _ ts, S, h, Int.add_mul]; omega
  ·rfl
theorem mergeT_S : ∀ (n : Nat) (ts : List Tm), ts.length ≤ n → S f (W0 ts) = S f ts
 | 0, ts, h => by rw [List.eq_nil_of_length_eq_zero (Nat.le_zero.1 h), W0]
 | n + 1, [], h => by rw [W0]
 | n + 1, t :: ts, h => by
  have h1 := sumRun_S (f := f) t.exp (X4 t.coef) ts
  have h2 := mergeT_S n (U8 t.exp (X4 t.coef) ts).2 (Nat.le_trans (sumRun_len ..) (by simpa using h))
  rw [W0, S_append, h2, S]
  split
  ·rename_i q; rw [q] at h1; simp [S] at h1 ⊢; omega
  ·simp only [S, Y9]; omega
end sums
structure CanT (ts : List Tm) : Prop where
 srt : ts.Pairwise fun x y => ltM y.exp x.exp
 ofI : ∀ t ∈ ts, t.coef = ofI (X4 t.coef)
 ne : ∀ t ∈ ts, X4 t.coef ≠ 0
 ok : ∀ t ∈ ts, okT t = true
theorem sumRun_sub (m : Mo) : ∀ (c : Int) (ts : List Tm), ∃ k, (U8 m c ts).2 = ts.drop k
 | c, [] => ⟨0, rfl⟩
 | c, t :: ts => by
  rw [U8]; split
  ·obtain ⟨k, h⟩ := sumRun_sub m (c + X4 t.coef) ts; exact ⟨k + 1, h⟩
  ·exact ⟨0, rfl⟩
theorem sumRun_ne {m : Mo} : ∀ {c : Int} {ts : List Tm} {t : Tm} {r : List Tm}, (U8 m c ts).2 = t :: r → t.exp ≠ m
 | c, [], t, r, h => by simp [U8] at h
 | c, u :: ts, t, r, h => by
  rw [U8] at h; split at h
  ·exact sumRun_ne h
  ·rename_i q; injection h with h1 h2; rw [← h1]; exact q
theorem mergeT_exp : ∀ (n : Nat) (ts : List Tm), ts.length ≤ n → ∀ t ∈ W0 ts, ∃ u ∈ ts, u.exp = t.exp
 | 0, ts, h, t, ht => by rw [List.eq_nil_of_length_eq_zero (Nat.le_zero.1 h), W0] at ht; cases ht
 | n + 1, [], h, t, ht => by rw [W0] at ht; cases ht
 | n + 1, u :: ts, h, t, ht => by
  rw [W0] at ht
  rcases List.mem_append.1 ht with q | q
  ·refine ⟨u, by simp, ?_⟩
   split at q
   ·cases q
   ·simp at q; rw [q]
  ·obtain ⟨v, hv, e⟩ := mergeT_exp n (U8 u.exp (X4 u.coef) ts).2 (Nat.le_trans (sumRun_len ..) (by simpa using h)) t q
   obtain ⟨k, hk⟩ := sumRun_sub u.exp (X4 u.coef) ts
   rw [hk] at hv
   exact ⟨v, List.mem_cons_of_mem _ (List.mem_of_mem_drop hv), e⟩
theorem leT_exp {x y : Tm} : leT x y ↔ ¬ ltM x.exp y.exp := by unfold leT; rw [ltT_iff]
theorem ltM_of_le_ne {m n : Mo} (h : ¬ ltM m n) (hn : m ≠ n) : ltM n m := by
 obtain ⟨a, b, c, d⟩ := m; obtain ⟨a', b', c', d'⟩ := n
 simp only [ltM, ne_eq, Mo.mk.injEq] at *; omega
theorem mergeT_sort : ∀ (n : Nat) (ts : List Tm), ts.length ≤ n → SortT ts → (W0 ts).Pairwise fun x y => ltM y.exp x.exp
 | 0, ts, h, hs => by rw [List.eq_nil_of_length_eq_zero (Nat.le_zero.1 h), W0]; exact .nil
 | n + 1, [], h, hs => by rw [W0]; exact .nil
 | n + 1, t :: ts, h, hs => by
  have hs' : SortT ts := (List.pairwise_cons.1 hs).2
  obtain ⟨k, hk⟩ := sumRun_sub t.exp (X4 t.coef) ts
  have hd : SortT (U8 t.exp (X4 t.coef) ts).2 := by rw [hk]; exact hs'.drop
  have hl : (U8 t.exp (X4 t.coef) ts).2.length ≤ n := Nat.le_trans (sumRun_len ..) (by simpa using h)
  have ih := mergeT_sort n _ hl hd
  rw [W0]
  split
  ·simpa using ih
  ·rw [List.singleton_append, List.pairwise_cons]
   refine ⟨fun y hy => ?_, ih⟩
   obtain ⟨u, hu, e⟩ := mergeT_exp n _ hl y hy
   show ltM y.exp t.exp
   rw [← e]
   cases hr : (U8 t.exp (X4 t.coef) ts).2 with
   | nil => rw [hr] at hu; cases hu
   | cons v r =>
    have hv := sumRun_ne hr
    have hvt : v ∈ ts := by
     have : v ∈ ts.drop k := by rw [← hk, hr]; simp
     exact List.mem_of_mem_drop this
    have h1 : ltM v.exp t.exp := ltM_of_le_ne (leT_exp.1 (List.rel_of_pairwise_cons hs hvt)) (fun q => hv q.symm)
    rw [hr] at hu hd
    rcases List.mem_cons.1 hu with q | q
    ·rw [q]; exact h1
    ·have h2 := leT_exp.1 (List.rel_of_pairwise_cons hd q)
     unfold ltM at *; omega
theorem mergeT_ne : ∀ (n : Nat) (ts : List Tm), ts.length ≤ n → ∀ t ∈ W0 ts, X4 t.coef ≠ 0
 | 0, ts, h, t, ht => by rw [List.eq_nil_of_length_eq_zero (Nat.le_zero.1 h), W0] at ht; cases ht
 | n + 1, [], h, t, ht => by rw [W0] at ht; cases ht
 | n + 1, u :: ts, h, t, ht => by
  rw [W0] at ht
  rcases List.mem_append.1 ht with q | q
  ·split at q
   ·cases q
   ·rename_i hne; simp at q; rw [q]; simpa [Y9] using hne
  ·exact mergeT_ne n _ (Nat.le_trans (sumRun_len ..) (by simpa using h)) t q
theorem okT_exp {t u : Tm} (h : t.exp = u.exp) : okT t = okT u := by unfold okT; rw [h]
theorem mergeT_can {ts : List Tm} (hs : SortT ts) (ho : ∀ t ∈ ts, okT t = true) : CanT (W0 ts) :=
 ⟨mergeT_sort _ ts (Nat.le_refl _) hs, mergeT_ofI _ ts (Nat.le_refl _), mergeT_ne _ ts (Nat.le_refl _), fun t ht => by
  obtain ⟨u, hu, e⟩ := mergeT_exp _ ts (Nat.le_refl _) t ht
  rw [← okT_exp e]; exact ho u hu⟩
def ind (m : Mo) (n : Mo) : Int := if n = m then 1 else 0
theorem ind_self (m : Mo) : ind m m = 1 := if_pos rfl
theorem ind_ne {m n : Mo} (h : n ≠ m) : ind m n = 0 := if_neg h
theorem ltM_ne {m n : Mo} (h : ltM m n) : m ≠ n := by rintro rfl; unfold ltM at h; omega
theorem ltM_trans {l m n : Mo} (h : ltM l m) (h1 : ltM m n) : ltM l n := by unfold ltM at *; omega
theorem can_tail {x : Tm} {xs : List Tm} (h : CanT (x :: xs)) : CanT xs :=
 ⟨(List.pairwise_cons.1 h.srt).2, fun t q => h.ofI t (by simp [q]), fun t q => h.ne t (by simp [q]), fun t q => h.ok t (by simp [q])⟩
theorem can_head {x : Tm} {xs : List Tm} (h : CanT (x :: xs)) {m : Mo} (hm : m = x.exp ∨ ltM x.exp m) : S (ind m) xs = 0 :=
 S_zero fun t ht => ind_ne (ltM_ne (by
  have := List.rel_of_pairwise_cons h.srt ht
  rcases hm with rfl | q
  ·exact this
  ·exact ltM_trans this q))
theorem can_uniq : ∀ {xs ys : List Tm}, CanT xs → CanT ys → (∀ m, S (ind m) xs = S (ind m) ys) → xs = ys
 | [], [], _, _, _ => rfl
 | [], y :: ys, _, hy, h => by
  have := h y.exp
  rw [S, S, ind_self, can_head hy (.inl rfl)] at this
  exact absurd this.symm (by have := hy.ne y (by simp); omega)
 | x :: xs, [], hx, _, h => by
  have := h x.exp
  rw [S, S, ind_self, can_head hx (.inl rfl)] at this
  exact absurd this (by have := hx.ne x (by simp); omega)
 | x :: xs, y :: ys, hx, hy, h => by
  by_cases e : x.exp = y.exp
  ·have h1 := h x.exp
   rw [S, S, ← e, ind_self, can_head hx (.inl rfl), can_head hy (.inl e)] at h1
   have h2 : x = y := by
    obtain ⟨c, m⟩ := x; obtain ⟨c', m'⟩ := y
    have q1 := hx.ofI ⟨c, m⟩ (by simp)
    have q2 := hy.ofI ⟨c', m'⟩ (by simp)
    have q3 : X4 c = X4 c' := by simpa using h1
    have q1' : c = ofI (X4 c) := q1
    have q2' : c' = ofI (X4 c') := q2
    have e' : m = m' := e
    rw [q1', q2', q3, e']
   subst h2
   congr 1
   refine can_uniq (can_tail hx) (can_tail hy) fun m => ?_
   have := h m
   rw [S, S] at this; omega
  ·by_cases hl : ltM x.exp y.exp
   ·have h1 := h y.exp
    rw [S, S, ind_self, ind_ne e, can_head hx (.inr hl), can_head hy (.inl rfl)] at h1
    exact absurd h1 (by have := hy.ne y (by simp); omega)
   ·have hl' : ltM y.exp x.exp := ltM_of_le_ne hl e
    have h1 := h x.exp
    rw [S, S, ind_self, ind_ne (fun q => e q.symm), can_head hx (.inl rfl), can_head hy (.inr hl')] at h1
    exact absurd h1 (by have := hx.ne x (by simp); omega)
theorem keepT_ok {ts : List Tm} : ∀ t ∈ Q7 ts, okT t = true := fun t h => (List.mem_filter.1 h).2
theorem normS_can (ts : List Tm) : CanT (Q4 ts) :=
 mergeT_can (sortT_perm _).2 fun t h => keepT_ok t ((sortT_perm (Q7 ts)).1.mem_iff.1 h)
theorem normS_S (f : Mo → Int) (ts : List Tm) : S f (Q4 ts) = S f (Q7 ts) := by
 rw [Q4, mergeT_S _ _ (Nat.le_refl _), S_perm (sortT_perm _).1]
theorem normS_st (ts : List Tm) : W0 (stT (Q7 ts)) = Q4 ts :=
 can_uniq (mergeT_can (stT_perm _).2 fun t h => keepT_ok t ((stT_perm (Q7 ts)).1.mem_iff.1 h)) (normS_can ts) fun m => by
  rw [normS_S, mergeT_S _ _ (Nat.le_refl _), S_perm (stT_perm _).1]
theorem stT_mem {xs : List Tm} : ∀ t ∈ stT xs, t ∈ xs := fun t h => (stT_perm xs).1.mem_iff.1 h
theorem keepT_id {ts : List Tm} (h : ∀ t ∈ ts, okT t = true) : Q7 ts = ts := List.filter_eq_self.2 h
theorem normS_uniq {ts xs : List Tm} (hx : CanT xs) (h : ∀ m, S (ind m) xs = S (ind m) (Q7 ts)) : Q4 ts = xs :=
 can_uniq (normS_can ts) hx fun m => by rw [normS_S, h]
theorem normS_id {ts : List Tm} (h : CanT ts) : Q4 ts = ts := normS_uniq h fun m => by rw [keepT_id h.ok]
end Go.Rt
namespace Go.Rt
open Go Go.RowKit
def Low (k : Nat) (m : Mo) : Prop := ∀ i, i < k → m.at i = 0
theorem Low.mono {k j : Nat} {m : Mo} (h : Low k m) (hj : j ≤ k) : Low j m := fun i hi => h i (by omega)
theorem low_mo0 (k : Nat) : Low k mo0 := fun i _ => by
 match i with
 | 0 => rfl
 | 1 => rfl
 | 2 => rfl
 | n + 3 => rfl
theorem Mo.at_set_self {m : Mo} {j : Nat} {x : Int} : (m.set j x).at j = x := by
 match j with
 | 0 => rfl
 | 1 => rfl
 | 2 => rfl
 | n + 3 => rfl
theorem Mo.at_set_ne {m : Mo} {i j : Nat} {x : Int} (h : i < j) (hj : j < 4) : (m.set j x).at i = m.at i := by
 match j, hj with
 | 0, _ => omega
 | 1, _ => match i, h with | 0, _ => rfl
 | 2, _ => match i, h with | 0, _ => rfl | 1, _ => rfl
 | 3, _ => match i, h with | 0, _ => rfl | 1, _ => rfl | 2, _ => rfl
theorem Mo.at_set_ne' {m : Mo} {i j : Nat} {x : Int} (h : i ≠ j) (hi : i < 4) (hj : j < 4) : (m.set j x).at i = m.at i := by
 match j, hj, i, hi with
 | 0, _, 0, _ => exact absurd rfl h
 | 1, _, 1, _ => exact absurd rfl h
 | 2, _, 2, _ => exact absurd rfl h
 | 3, _, 3, _ => exact absurd rfl h
 | 0, _, 1, _ => rfl
 | 0, _, 2, _ => rfl
 | 0, _, 3, _ => rfl
 | 1, _, 0, _ => rfl
 | 1, _, 2, _ => rfl
 | 1, _, 3, _ => rfl
 | 2, _, 0, _ => rfl
 | 2, _, 1, _ => rfl
 | 2, _, 3, _ => rfl
 | 3, _, 0, _ => rfl
 | 3, _, 1, _ => rfl
 | 3, _, 2, _ => rfl
theorem Low.set {k j : Nat} {m : Mo} {x : Int} (h : Low k m) (hk : k ≤ j) (hj : j < 4) : Low k (m.set j x) := fun i hi => by
 rw [Mo.at_set_ne (by omega) hj]; exact h i hi
theorem Mo.set_at {m : Mo} {j : Nat} {x : Int} (h : m.at j = x) : m.set j x = m := by
 subst h
 match j with
 | 0 => rfl
 | 1 => rfl
 | 2 => rfl
 | n + 3 => rfl
theorem Mo.ext4 {m n : Mo} (h : ∀ i, i < 4 → m.at i = n.at i) : m = n := by
 obtain ⟨a, b, c, d⟩ := m; obtain ⟨a', b', c', d'⟩ := n
 have h0 : a = a' := h 0 (by decide)
 have h1 : b = b' := h 1 (by decide)
 have h2 : c = c' := h 2 (by decide)
 have h3 : d = d' := h 3 (by decide)
 rw [h0, h1, h2, h3]
def V (f : Mo → Int) (p : Pol) (m : Mo) : Int := S f (W8 p m)
def VL (f : Mo → Int) (l : Int) : List Pol → Nat → Mo → Int
 | [], _, _ => 0
 | p :: ps, i, m => V f p (m.set (l - 1).toNat i) + VL f l ps (i + 1) m
section weights
variable {f g : Mo → Int} {l : Int} {xs ys cs : List Pol} {p q : Pol} {m : Mo} {i j k : Nat}
theorem V_L : S f (termsL l cs i m) = VL f l cs i m := by
 induction cs generalizing i with
 | nil => rw [termsL]; rfl
 | cons c cs ih => rw [termsL, S_append, ih, VL, V]
theorem V_eq (f : Mo → Int) (p : Pol) (m : Mo) : V f p m = if p.lv = 0 then X4 p.c * f m else VL f p.lv p.cs 0 m := by
 obtain ⟨l, c, cs⟩ := p
 rw [V, W8]
 show S f (if l = 0 then _ else _) = if l = 0 then _ else _
 split
 ·simp [S, Pol.c]
 ·rw [V_L]; rfl
theorem V_const (n : Int) : V f (R1 n) m = n * f m := by
 rw [V_eq, if_pos (show (R1 n).lv = 0 from rfl)]; show X4 (ofI n) * _ = _; rw [Y9]
theorem V_zero (h : Z5 p = true) : V f p m = 0 := by
 unfold Z5 at h
 simp only [Bool.and_eq_true, decide_eq_true_eq] at h
 rw [V_eq, if_pos h.1, h.2, Int.zero_mul]
theorem V_p0 : V f p0 m = 0 := V_zero (by rw [← constP_zero]; simp [Z5, R1, Pol.lv, Pol.c, Y9])
theorem VL_append : ∀ {xs : List Pol} {i : Nat}, VL f l (xs ++ ys) i m = VL f l xs i m + VL f l ys (i + xs.length) m
 | [], i => by simp [VL]
 | x :: xs, i => by
  simp only [List.cons_append, VL, List.length_cons]
  rw [VL_append, show i + 1 + xs.length = i + (xs.length + 1) by omega]; omega
theorem VL_zero : ∀ {xs : List Pol} {i : Nat}, (∀ x ∈ xs, Z5 x = true) → VL f l xs i m = 0
 | [], i, _ => rfl
 | x :: xs, i, h => by rw [VL, V_zero (h x (by simp)), VL_zero fun y hy => h y (by simp [hy])]; rfl
theorem trimP_split (cs : List Pol) : ∃ zs, cs = trimP cs ++ zs ∧ ∀ z ∈ zs, Z5 z = true := by
 refine ⟨(cs.reverse.takeWhile Z5).reverse, ?_, fun z hz => ?_⟩
 ·unfold trimP trimB
  rw [← List.reverse_append, List.takeWhile_append_dropWhile, List.reverse_reverse]
 ·have h1 := List.mem_reverse.1 hz
  have := List.all_takeWhile (l := cs.reverse) (p := Z5)
  exact List.all_eq_true.1 this z h1
theorem VL_trim : VL f l (trimP cs) i m = VL f l cs i m := by
 obtain ⟨zs, h, hz⟩ := trimP_split cs
 conv => rhs; rw [h]
 rw [VL_append, VL_zero hz]; omega
theorem V_join (hl : 0 < l) (hm : m.at (l - 1).toNat = 0) : V f (U0 l cs) m = VL f l cs 0 m := by
 rw [← VL_trim]
 unfold U0
 split
 ·rename_i h; rw [h, V_p0]; rfl
 ·rename_i p h; rw [h, VL, VL, show ((0 : Nat) : Int) = 0 from rfl, Mo.set_at hm]; omega
 ·rw [V_eq, if_neg (show ¬ (Pol.mk l z0 (trimP cs)).lv = 0 from by simp only [Pol.lv]; omega)]; rfl
theorem V_coefs (hl : 0 < l) (hm : m.at (l - 1).toNat = 0) : VL f l (Z0 p l) 0 m = V f p m := by
 unfold Z0
 split
 ·rename_i h
  rw [V_eq f p, if_neg (by omega), h.1]
 ·rw [VL, VL, show ((0 : Nat) : Int) = 0 from rfl, Mo.set_at hm]; omega
theorem VL_zip {h : Pol → Pol → Pol} : ∀ {xs ys : List Pol} {i : Nat}, (∀ x ∈ xs, ∀ y ∈ ys, ∀ j : Nat, V f (h x y) (m.set (l - 1).toNat j) = V f x (m.set (l - 1).toNat j) + V f y (m.set (l - 1).toNat j)) →
  VL f l (zipP h xs ys) i m = VL f l xs i m + VL f l ys i m
 | xs, [], i, _ => by rw [zipP_nil]; simp [VL]
 | [], y :: ys, i, _ => by rw [zipP_nil']; simp [VL]
 | x :: xs, y :: ys, i, hh => by
  simp only [zipP, VL]
  rw [hh x (by simp) y (by simp), VL_zip fun a ha b hb => hh a (by simp [ha]) b (by simp [hb])]; omega
theorem V_add : ∀ (k j : Nat) {p q : Pol} {m : Mo}, j ≤ k → j ≤ 4 → Lev j p → Lev j q → Low j m → V f (K0 k p q) m = V f p m + V f q m
 | 0, j, p, q, m, hj, _, lp, lq, hm => by
  have h1 := lp.lv; have h2 := lq.lv
  show V f (R1 (X4 p.c + X4 q.c)) m = _
  rw [V_const, V_eq f p, V_eq f q, if_pos (by omega), if_pos (by omega), Int.add_mul]
 | k + 1, j, p, q, m, hj, h4, lp, lq, hm => by
  have h1 := lp.lv; have h2 := lq.lv
  by_cases h0 : max p.lv q.lv = 0
  ·rw [← addF_const h0, V_const, V_eq f p, V_eq f q, if_pos (by omega), if_pos (by omega), Int.add_mul]
  ·rw [← addF_join h0]
   obtain ⟨l, hl⟩ : ∃ l : Nat, max p.lv q.lv = ((l + 1 : Nat) : Int) := ⟨(max p.lv q.lv).toNat - 1, by omega⟩
   rw [hl]
   have e : (((l + 1 : Nat) : Int) - 1).toNat = l := by omega
   have hlow : m.at (((l + 1 : Nat) : Int) - 1).toNat = 0 := hm _ (by omega)
   have c1 := (lp.lower (l := l + 1) (by omega)).coefs (l := ((l + 1 : Nat) : Int)) (by omega) (by omega) (by omega)
   have c2 := (lq.lower (l := l + 1) (by omega)).coefs (l := ((l + 1 : Nat) : Int)) (by omega) (by omega) (by omega)
   have hz : VL f ((l + 1 : Nat) : Int) (zipP (K0 k) (Z0 p ((l + 1 : Nat) : Int)) (Z0 q ((l + 1 : Nat) : Int))) 0 m = VL f ((l + 1 : Nat) : Int) (Z0 p ((l + 1 : Nat) : Int)) 0 m + VL f ((l + 1 : Nat) : Int) (Z0 q ((l + 1 : Nat) : Int)) 0 m :=
    VL_zip fun x hx y hy i => V_add k l (by omega) (by omega) (c1.2 x hx) (c2.2 y hy) (by rw [e]; exact (hm.mono (by omega)).set (Nat.le_refl l) (by omega))
   rw [V_join (by omega) hlow, hz, V_coefs (by omega) hlow, V_coefs (by omega) hlow]
theorem VL_map {h : Pol → Pol} {n : Int} : ∀ {xs : List Pol} {i : Nat}, (∀ x ∈ xs, ∀ j : Nat, V f (h x) (m.set (l - 1).toNat j) = n * V f x (m.set (l - 1).toNat j)) → VL f l (xs.map h) i m = n * VL f l xs i m
 | [], i, _ => by simp [VL]
 | x :: xs, i, hh => by
  simp only [List.map_cons, VL]
  rw [hh x (by simp), VL_map fun a ha => hh a (by simp [ha]), Int.mul_add]
theorem V_scale : ∀ {k : Nat} {p : Pol} {m : Mo} (n : Int), k ≤ 4 → Lev k p → Low k m → V f (Z2 p n) m = n * V f p m := by
 intro k p
 induction p using Pol.ind generalizing k
 rename_i p ih
 intro m n h4 lp hm
 rw [scaleP_eq]
 split
 ·rename_i h; rw [V_const, V_eq f p, if_pos h]; rw [Int.mul_comm (X4 p.c) n, Int.mul_assoc]
 ·rename_i h
  cases lp with
  | zero => exact absurd rfl h
  | @succ _ l c cs hk hc hs =>
   have e : (((l + 1 : Nat) : Int) - 1).toNat = l := by omega
   show V f (U0 ((l + 1 : Nat) : Int) (cs.map (Z2 · n))) m = _
   have hlow : m.at (((l + 1 : Nat) : Int) - 1).toNat = 0 := hm _ (by omega)
   rw [V_join (by omega) hlow, V_eq f (.mk _ _ _), if_neg h]
   exact VL_map fun x hx i => ih x hx n (by omega) (hs x hx) (by rw [e]; exact (hm.mono (by omega)).set (Nat.le_refl l) (by omega))
theorem terms_at : ∀ {k : Nat} {p : Pol} {m : Mo} {i : Nat}, k ≤ 4 → Lev k p → k ≤ i → i < 4 → ∀ t ∈ W8 p m, t.exp.at i = m.at i := by
 intro k p
 induction p using Pol.ind generalizing k
 rename_i p ih
 intro m i h4 lp hi hi4 t ht
 rw [termsP_eq] at ht
 split at ht
 ·simp at ht; rw [ht]
 ·rename_i h
  obtain ⟨j, hj, h2⟩ := List.mem_flatMap.1 ht
  have hj' := List.mem_range.1 hj
  cases lp with
  | zero => exact absurd rfl h
  | succ hk hc hs =>
   rename_i l c cs
   have e : (((l + 1 : Nat) : Int) - 1).toNat = l := by omega
   have := ih _ (Y3 hj') (m := m.set (((l + 1 : Nat) : Int) - 1).toNat (j : Int)) (i := i) (by omega) (hs _ (Y3 hj')) (by omega) hi4 t h2
   rw [this, e, Mo.at_set_ne' (by omega) hi4 (by omega)]
inductive CanP : Nat → Pol → Prop
 | const {k : Nat} (n : Int) : CanP k (R1 n)
 | node {k l : Nat} {cs : List Pol} (h : l + 1 ≤ k) (h2 : 2 ≤ cs.length) (hs : ∀ q ∈ cs, CanP l q) (ht : trimP cs = cs) : CanP k (.mk ((l + 1 : Nat) : Int) z0 cs)
theorem CanP.mono {p : Pol} (h : CanP k p) (hj : k ≤ j) : CanP j p := by
 cases h with
 | const n => exact .const n
 | node h h2 hs ht => exact .node (by omega) h2 hs ht
theorem CanP.lev {p : Pol} (h : CanP k p) : Lev k p := by
 induction h with
 | const n => exact .zero
 | node h h2 hs ht ih => exact .succ h (by omega) ih
theorem can_p0 : CanP k p0 := by rw [← constP_zero]; exact .const 0
theorem zeroP_p0 : Z5 p0 = true := by rw [← constP_zero]; simp [Z5, R1, Pol.lv, Pol.c, Y9]
theorem CanP.zero {p : Pol} (h : CanP k p) (hz : Z5 p = true) : p = p0 := by
 unfold Z5 at hz
 simp only [Bool.and_eq_true, decide_eq_true_eq] at hz
 cases h with
 | const n =>
  have : X4 (ofI n) = 0 := hz.2
  rw [Y9] at this; rw [this, constP_zero]
 | node h h2 hs ht => have := hz.1; simp only [Pol.lv] at this; omega
theorem trimP_idem (cs : List Pol) : trimP (trimP cs) = trimP cs := by
 obtain ⟨zs, h, hz⟩ := trimP_split cs
 rcases Nat.eq_zero_or_pos (trimP cs).length with q | q
 ·rw [List.eq_nil_of_length_eq_zero q]; rfl
 ·-- the last element is not zero
  have hl : (trimP cs) ≠ [] := by intro e; rw [e] at q; simp at q
  have hr : (cs.reverse.dropWhile Z5) ≠ [] := by
   intro e; apply hl; unfold trimP trimB; rw [e]; rfl
  have hh := List.head_dropWhile_not Z5 (l := cs.reverse) hr
  unfold trimP trimB
  rw [List.reverse_reverse]
  congr 1
  cases hd : cs.reverse.dropWhile Z5 with
  | nil => rfl
  | cons a l =>
   have : Z5 a = false := by
    have e : (cs.reverse.dropWhile Z5).head hr = a := by simp [hd]
    rw [← e]; exact hh
   rw [List.dropWhile_cons, if_neg (by rw [this]; decide)]
theorem CanP.join {l : Nat} {cs : List Pol} (h : ∀ q ∈ cs, CanP l q) : CanP (l + 1) (U0 ((l + 1 : Nat) : Int) cs) :=
 joinP_cases can_p0 (fun q hq => (h q hq).mono (by omega)) fun h2 => .node (Nat.le_refl _) h2 (fun q hq => h q (trimB_sub hq)) (trimP_idem cs)
theorem CanP.coefs {p : Pol} {l : Nat} (h : CanP (l + 1) p) : ∀ q ∈ Z0 p ((l + 1 : Nat) : Int), CanP l q := by
 unfold Z0
 cases h with
 | const n => rw [if_neg (by simp only [R1, Pol.lv]; omega)]; intro q hq; simp at hq; subst hq; exact .const n
 | node h h2 hs ht =>
  rename_i m cs
  by_cases e : m = l
  ·subst e; rw [if_pos ⟨rfl, by omega⟩]; exact hs
  ·rw [if_neg (by simp only [Pol.lv]; omega)]
   intro q hq; simp at hq; subst hq; exact .node (by omega) h2 hs ht
theorem CanP.lower {p : Pol} {l : Nat} (h : CanP k p) (hl : p.lv ≤ l) : CanP l p := by
 cases h with
 | const n => exact .const n
 | node h h2 hs ht => simp only [Pol.lv] at hl; exact .node (by omega) h2 hs ht
theorem join_coefs {p : Pol} (h : CanP k p) (hl : 0 < l) (hp : p.lv ≤ l) : U0 l (Z0 p l) = p := by
 unfold Z0
 split
 ·rename_i e
  cases h with
  | const n => exact absurd e.1 (by simp only [R1, Pol.lv]; omega)
  | node h h2 hs ht =>
   rename_i m cs
   have e1 : ((m + 1 : Nat) : Int) = l := e.1
   show U0 l cs = _
   unfold U0; rw [ht]
   match cs, h2 with
   | a :: b :: r, _ => rw [← e1]
 ·by_cases hz : Z5 p = true
  ·have : trimP [p] = [] := trimB_zero [] hz
   unfold U0; rw [this]; exact (h.zero hz).symm
  ·have : trimP [p] = [p] := trimB_pos [] (by simpa using hz)
   unfold U0; rw [this]
theorem CanP.scale {p : Pol} (h : Lev k p) (n : Int) : CanP k (Z2 p n) := by
 induction p using Pol.ind generalizing k
 rename_i p ih
 rw [scaleP_eq]
 cases h with
 | zero => rw [if_pos (by rfl)]; exact .const _
 | succ h hc hs =>
  rename_i l c cs
  rw [if_neg (by simp only [Pol.lv]; omega)]
  exact (CanP.join fun q hq => by
   obtain ⟨x, hx, rfl⟩ := List.mem_map.1 hq
   exact ih x hx (hs x hx)).mono h
theorem CanP.add : ∀ (k j : Nat) {p q : Pol}, j ≤ k → CanP j p → CanP j q → CanP j (K0 k p q)
 | 0, j, p, q, hj, _, _ => .const _
 | k + 1, j, p, q, hj, hp, hq => by
  have h1 := hp.lev.lv; have h2 := hq.lev.lv
  by_cases h0 : max p.lv q.lv = 0
  ·rw [← addF_const h0]; exact .const _
  ·rw [← addF_join h0]
   obtain ⟨l, hl⟩ : ∃ l : Nat, max p.lv q.lv = ((l + 1 : Nat) : Int) := ⟨(max p.lv q.lv).toNat - 1, by omega⟩
   rw [hl]
   have c1 := (hp.lower (l := l + 1) (by omega)).coefs
   have c2 := (hq.lower (l := l + 1) (by omega)).coefs
   exact (CanP.join (zipP_all c1 c2 fun x hx y hy => CanP.add k l (by omega) (c1 x hx) (c2 y hy))).mono (by omega)
theorem CanP.mul : ∀ (k j : Nat) {p q : Pol}, j ≤ k → k ≤ 4 → CanP j p → CanP j q → CanP j (K3 k p q)
 | 0, j, p, q, hj, _, hp, hq => by
  unfold K3; split
  ·exact .scale hp.lev _
  ·split
   ·exact .scale hq.lev _
   ·exact can_p0
 | k + 1, j, p, q, hj, h4, hp, hq => by
  unfold K3; split
  ·exact .scale hp.lev _
  ·split
   ·exact .scale hq.lev _
   ·have h1 := hp.lev.lv; have h2 := hq.lev.lv
    obtain ⟨l, hl⟩ : ∃ l : Nat, max p.lv q.lv = ((l + 1 : Nat) : Int) := ⟨(max p.lv q.lv).toNat - 1, by omega⟩
    rw [hl]
    have c1 := (hp.lower (l := l + 1) (by omega)).coefs
    have c2 := (hq.lower (l := l + 1) (by omega)).coefs
    exact (CanP.join (convI_all can_p0 (fun x hx y hy => CanP.mul k l (by omega) (by omega) (c1 x hx) (c2 y hy)) (fun a b ha hb => CanP.add 4 l (by omega) ha hb) _ (Nat.le_refl _))).mono (by omega)
theorem can_var (n : Int) : CanP 4 (varP n) := by
 unfold varP; split
 ·exact can_p0
 ·rename_i h
  obtain ⟨m, rfl⟩ : ∃ m : Nat, n = ((m + 1 : Nat) : Int) := ⟨n.toNat - 1, by omega⟩
  refine .node (by omega) (by simp) (fun q hq => ?_) (trimB_pos [p0] (by show Z5 (R1 1) = false; simp [Z5, R1, Pol.lv, Pol.c, Y9]))
  simp only [List.mem_cons, List.not_mem_nil, or_false] at hq
  rcases hq with rfl | rfl
  ·exact can_p0
  ·exact .const 1
theorem can_norm (p : Pol) : CanP 4 (W3 p) := by
 induction p using Pol.ind
 rename_i p ih
 rw [normN_eq]
 split
 ·exact .const _
 ·split
  ·exact can_p0
  ·split
   ·rename_i h; exact CanP.scale (canon_lev h (by omega)) 1
   ·have : ∀ {cs : List Pol}, (∀ q ∈ cs, CanP 4 (W3 q)) → CanP 4 (hornN (varP p.lv) cs) := fun {cs} => by
     induction cs with
     | nil => intro _; exact can_p0
     | cons c cs ihc =>
      intro h
      rw [hornN]
      exact CanP.add 4 4 (Nat.le_refl _) (CanP.mul 4 4 (Nat.le_refl _) (Nat.le_refl _) (ihc fun q hq => h q (by simp [hq])) (can_var _)) (h c (by simp))
    exact this ih
theorem joinP_congr {A B : List Pol} (h : ∀ j, atP A j = atP B j) : U0 l A = U0 l B := by
 have key : ∀ {A B : List Pol}, A.length ≤ B.length → (∀ j, atP A j = atP B j) → trimP A = trimP B := fun {A B} hl h => by
  have e : B = A ++ List.replicate (B.length - A.length) p0 := by
   apply List.ext_getElem (by simp; omega)
   intro i h1 h2
   have hb : atP B i = B[i] := by simp [atP, List.getD_eq_getElem?_getD, List.getElem?_eq_getElem h1]
   rw [← hb, ← h i]
   by_cases q : i < A.length
   ·rw [List.getElem_append_left q]; simp [atP, List.getD_eq_getElem?_getD, List.getElem?_eq_getElem q]
   ·rw [List.getElem_append_right (by omega), List.getElem_replicate]
    simp [atP, List.getD_eq_getElem?_getD, List.getElem?_eq_none (show A.length ≤ i by omega)]
  rw [e]
  clear e
  induction B.length - A.length with
  | zero => simp
  | succ n ih => rw [List.replicate_succ', ← List.append_assoc, show trimP (A ++ List.replicate n p0 ++ [p0]) = trimP (A ++ List.replicate n p0) from trimB_zero _ zeroP_p0]; exact ih
 unfold U0
 rcases Nat.le_total A.length B.length with q | q
 ·rw [key q h]
 ·rw [key q fun j => (h j).symm]
theorem VL_pick {l : Nat} (hl : l < 4) (j : Nat) : ∀ {xs : List Pol} {i : Nat}, (∀ x ∈ xs, Lev l x) → VL (fun n => if n.at l = (j : Int) then g n else 0) ((l + 1 : Nat) : Int) xs i m = if i ≤ j then V g (atP xs (j - i)) (m.set l j) else 0
 | [], i, _ => by
  have : atP [] (j - i) = p0 := rfl
  rw [this, V_p0, VL, ite_self]
 | x :: xs, i, h => by
  have e : (((l + 1 : Nat) : Int) - 1).toNat = l := by omega
  have hx := terms_at (m := m.set l (i : Int)) (i := l) (by omega) (h x (by simp)) (Nat.le_refl l) hl
  rw [VL, VL_pick hl j fun y hy => h y (by simp [hy]), e]
  by_cases q : i = j
  ·subst q
   rw [if_neg (by omega), if_pos (by omega), Nat.sub_self, Int.add_zero]
   exact S_congr fun t ht => by rw [hx t ht, Mo.at_set_self, if_pos rfl]
  ·have h0 : V (fun n => if n.at l = (j : Int) then g n else 0) x (m.set l (i : Int)) = 0 := S_zero fun t ht => by rw [hx t ht, Mo.at_set_self, if_neg (by omega)]
   rw [h0, Int.zero_add]
   by_cases q2 : i ≤ j
   ·rw [if_pos (by omega), if_pos q2]
    have : atP (x :: xs) (j - i) = atP xs (j - (i + 1)) := by
     rw [show j - i = (j - (i + 1)) + 1 by omega]; rfl
    rw [this]
   ·rw [if_neg (by omega), if_neg q2]
theorem can_uniqP : ∀ (k : Nat) {p q : Pol} {m : Mo}, k ≤ 4 → CanP k p → CanP k q → Low k m → (∀ f : Mo → Int, V f p m = V f q m) → p = q
 | 0, p, q, m, h4, hp, hq, hm, h => by
  cases hp with
  | const a =>
   cases hq with
   | const b =>
    have := h fun _ => 1
    rw [V_const, V_const] at this
    rw [show a = b by omega]
   | node h _ _ _ => omega
  | node h _ _ _ => omega
 | k + 1, p, q, m, h4, hp, hq, hm, h => by
  have e : (((k + 1 : Nat) : Int) - 1).toNat = k := by omega
  have hlow : m.at (((k + 1 : Nat) : Int) - 1).toNat = 0 := hm _ (by omega)
  have h1 := hp.lev.lv; have h2 := hq.lev.lv
  rw [← join_coefs (l := ((k + 1 : Nat) : Int)) hp (by omega) (by omega), ← join_coefs (l := ((k + 1 : Nat) : Int)) hq (by omega) (by omega)]
  refine joinP_congr fun j => ?_
  have at_can : ∀ {xs : List Pol}, (∀ x ∈ xs, CanP k x) → CanP k (atP xs j) := fun {xs} hx => by
   by_cases q : j < xs.length
   ·exact hx _ (Y3 q)
   ·have : atP xs j = p0 := by simp [atP, List.getD_eq_getElem?_getD, List.getElem?_eq_none (show xs.length ≤ j by omega)]
    rw [this]; exact can_p0
  refine can_uniqP k (m := m.set k j) (by omega) (at_can hp.coefs) (at_can hq.coefs) ((hm.mono (by omega)).set (Nat.le_refl k) (by omega)) fun f => ?_
  have hf := h fun n => if n.at k = (j : Int) then f n else 0
  rw [← V_coefs (l := ((k + 1 : Nat) : Int)) (by omega) hlow, ← V_coefs (p := q) (l := ((k + 1 : Nat) : Int)) (by omega) hlow,
   VL_pick (by omega) j (fun x hx => (hp.coefs x hx).lev), VL_pick (by omega) j (fun x hx => (hq.coefs x hx).lev), if_pos (by omega), if_pos (by omega), Nat.sub_zero] at hf
  exact hf
theorem can_scale1 {p : Pol} (h : CanP 4 p) : Z2 p 1 = p :=
 can_uniqP 4 (m := mo0) (Nat.le_refl _) (.scale h.lev 1) h (low_mo0 4) fun f => by rw [V_scale 1 (Nat.le_refl _) h.lev (low_mo0 4), Int.one_mul]
theorem can_canon : ∀ {k : Nat} {p : Pol} {b : Int}, CanP k p → (k : Int) < b → canonB p b = true := by
 intro k p b h
 induction h generalizing b with
 | const n =>
  intro hb
  rw [canonB_eq, if_pos (show (R1 n).lv = 0 from rfl)]
  show (decide (([] : List Pol).length = 0) && (!(decide (n < 0)) || !decide (X4 (ofI n) = 0))) = true
  rw [Y9]
  by_cases q : n < 0
  ·simp [q]; omega
  ·simp [q]
 | node h h2 hs ht ih =>
  rename_i k l cs
  intro hb
  rw [canonB_eq, if_neg (by simp only [Pol.lv]; omega)]
  simp only [Pol.lv, Pol.cs, Pol.c]
  have hz0 : X4 z0 = 0 := zval_z0
  have hlast : Z5 (atP cs (cs.length - 1)) = false := by
   rcases hq : Z5 (atP cs (cs.length - 1)) with _ | _
   ·rfl
   ·have h3 := trimP_step (cs := cs) (n := cs.length) (by omega) (Nat.le_refl _) hq
    rw [List.take_length, ht] at h3
    have h4 : (trimP (cs.take (cs.length - 1))).length ≤ _ := trimB_len (z := Z5) (xs := cs.take (cs.length - 1))
    rw [h3, List.length_take] at h4; omega
  simp only [Bool.and_eq_true, Bool.not_eq_true', Bool.or_eq_false_iff, decide_eq_false_iff_not, List.all_eq_true]
  refine ⟨⟨⟨⟨⟨decide_eq_false (by omega), decide_eq_false (by omega)⟩, decide_eq_false (by omega)⟩, ?_⟩, fun q hq => ih q hq (by omega)⟩, hlast⟩
  simp [hz0]
theorem norm_can {p : Pol} (h : CanP 4 p) : W3 p = p := by
 rw [normN_eq]
 have hl := h.lev.lv
 split
 ·cases h with
  | const n => show R1 (X4 (ofI n)) = _; rw [Y9]
  | node h h2 hs ht => rename_i q; simp only [Pol.lv] at q; omega
 ·rw [if_neg (by omega), if_pos (can_canon h (by decide)), can_scale1 h]
end weights
end Go.Rt
namespace Go.Rt
open Go Go.RowKit
section mono
variable {f g : Mo → Int} {l : Int} {xs cs : List Pol} {p q : Pol} {m n : Mo} {i j k : Nat}
theorem VL_rep {X : Pol} : ∀ {k i : Nat} {e : Nat}, e < k → VL f l ((List.replicate k p0).set e X) i m = V f X (m.set (l - 1).toNat ((i + e : Nat) : Int))
 | k + 1, i, 0, h => by
  rw [List.replicate_succ, List.set_cons_zero, VL, VL_zero fun x hx => by rw [(List.mem_replicate.1 hx).2]; exact zeroP_p0]; simp
 | k + 1, i, e + 1, h => by
  rw [List.replicate_succ, List.set_cons_succ, VL, V_p0, VL_rep (by omega), show i + 1 + e = i + (e + 1) by omega]; simp
def comb (i : Nat) (m n : Mo) : Mo := ⟨if 0 < i then m.a else n.a, if 1 < i then m.b else n.b, if 2 < i then m.c else n.c, if 3 < i then m.d else n.d⟩
theorem comb_at {j : Nat} (hj : j < 4) : (comb i m n).at j = if j < i then m.at j else n.at j := by
 match j, hj with
 | 0, _ => rfl
 | 1, _ => rfl
 | 2, _ => rfl
 | 3, _ => rfl
theorem V_mono {c : Int} (hm : ∀ i, i < 4 → 0 ≤ m.at i) : ∀ (i : Nat) {n : Mo}, i ≤ 4 → Low i n → V f (monoP m (.mk 0 (ofI c) []) i) n = c * f (comb i m n)
 | 0, n, _, _ => by
  have : comb 0 m n = n := Mo.ext4 fun j hj => by rw [comb_at hj, if_neg (by omega)]
  rw [monoP, this]; exact V_const c
 | i + 1, n, hi, hn => by
  have h0 := hm i (by omega)
  have hni := hn i (by omega)
  by_cases q : 0 < m.at i
  ·have e : (((i : Int) + 1) - 1).toNat = i := by omega
   rw [← monoP_yes q, V_eq, if_neg (by simp only [Pol.lv]; omega)]
   simp only [Pol.lv, Pol.cs]
   rw [VL_rep (e := (m.at i).toNat) (by omega), e, V_mono hm i (by omega) ((hn.mono (by omega)).set (Nat.le_refl i) (by omega))]
   congr 2
   refine Mo.ext4 fun j hj => ?_
   rw [comb_at hj, comb_at hj]
   by_cases q1 : j < i
   ·rw [if_pos q1, if_pos (by omega)]
   ·rw [if_neg q1]
    by_cases q2 : j = i
    ·subst q2; rw [if_pos (by omega), Mo.at_set_self]; omega
    ·rw [if_neg (by omega), Mo.at_set_ne' q2 hj (by omega)]
  ·rw [← monoP_no q, V_mono hm i (by omega) (hn.mono (by omega))]
   congr 2
   refine Mo.ext4 fun j hj => ?_
   rw [comb_at hj, comb_at hj]
   by_cases q1 : j < i
   ·rw [if_pos q1, if_pos (by omega)]
   ·rw [if_neg q1]
    by_cases q2 : j = i
    ·subst q2; rw [if_pos (by omega)]; omega
    ·rw [if_neg (by omega)]
theorem can_set {l : Nat} {X : Pol} {k e : Nat} (hX : CanP l X) : ∀ q ∈ (List.replicate k p0).set e X, CanP l q := fun q hq => by
 rcases List.mem_or_eq_of_mem_set hq with h | h
 ·rw [(List.mem_replicate.1 h).2]; exact can_p0
 ·rw [h]; exact hX
theorem trim_set {X : Pol} (hX : Z5 X = false) (e : Nat) : trimP ((List.replicate (e + 1) p0).set e X) = (List.replicate (e + 1) p0).set e X := by
 have : (List.replicate (e + 1) p0).set e X = List.replicate e p0 ++ [X] := by
  rw [List.replicate_succ', List.set_append, if_neg (by simp), List.length_replicate, Nat.sub_self]; rfl
 rw [this]; exact trimB_pos _ hX
theorem can_mono {c : Int} (hc : c ≠ 0) : ∀ i, CanP i (monoP m (.mk 0 (ofI c) []) i) ∧ Z5 (monoP m (.mk 0 (ofI c) []) i) = false
 | 0 => ⟨by rw [monoP]; exact .const c, by rw [monoP]; simp [Z5, Pol.lv, Pol.c, Y9, hc]⟩
 | i + 1 => by
  obtain ⟨h1, h2⟩ := can_mono hc i
  by_cases q : 0 < m.at i
  ·rw [← monoP_yes q]
   have e : ((i : Int) + 1) = ((i + 1 : Nat) : Int) := by omega
   rw [e]
   refine ⟨.node (Nat.le_refl _) (by rw [List.length_set, List.length_replicate]; omega) (can_set h1) (trim_set h2 _), ?_⟩
   show (decide (((i + 1 : Nat) : Int) = 0) && _) = false
   rw [decide_eq_false (show ¬ ((i + 1 : Nat) : Int) = 0 by omega)]; rfl
  ·rw [← monoP_no q]; exact ⟨h1.mono (by omega), h2⟩
end mono
theorem okT_iff' {t : Tm} : okT t = true ↔ ∀ i, i < 4 → 0 ≤ t.exp.at i := by
 obtain ⟨c, a, b, d, e⟩ := t
 rw [okT, decide_eq_true_iff]
 show 0 ≤ min (min (min a b) d) e ↔ _
 constructor
 ·intro h i hi
  match i, hi with
  | 0, _ => show 0 ≤ a; omega
  | 1, _ => show 0 ≤ b; omega
  | 2, _ => show 0 ≤ d; omega
  | 3, _ => show 0 ≤ e; omega
 ·intro h
  have h0 : 0 ≤ a := h 0 (by decide)
  have h1 : 0 ≤ b := h 1 (by decide)
  have h2 : 0 ≤ d := h 2 (by decide)
  have h3 : 0 ≤ e := h 3 (by decide)
  omega
section back
variable {f : Mo → Int} {L ts : List Tm} {p q : Pol} {k : Nat}
theorem V_term {t : Tm} (h : okT t = true) : V f (termP t) mo0 = X4 t.coef * f t.exp := by
 have h' := okT_iff'.1 h
 rw [termP, V_mono h' 4 (Nat.le_refl _) (low_mo0 4)]
 congr 2
theorem can_term {t : Tm} (h : X4 t.coef ≠ 0) : CanP 4 (termP t) := (can_mono h 4).1
theorem can_ofK (h : ∀ t ∈ L, X4 t.coef ≠ 0) : ∀ k, k ≤ L.length → CanP 4 (ofK L k)
 | 0, _ => can_p0
 | k + 1, hk => by
  rw [ofK.eq_2]
  exact CanP.add 4 4 (Nat.le_refl _) (can_ofK h k (by omega)) (can_term (h _ (atT_mem (by omega))))
theorem V_ofK (h : ∀ t ∈ L, okT t = true) : ∀ k, k ≤ L.length → V f (ofK L k) mo0 = S f (L.take k)
 | 0, _ => V_p0
 | k + 1, hk => by
  have e : L.take (k + 1) = L.take k ++ [atT L k] := by
   rw [List.take_succ_eq_append_getElem (by omega), atT, List.getD_eq_getElem?_getD, List.getElem?_eq_getElem (by omega)]; rfl
  rw [ofK.eq_2, V_add 4 4 (Nat.le_refl _) (Nat.le_refl _) (ofK_lev L k) (termP_lev _) (low_mo0 4), V_ofK h k (by omega), V_term (h _ (atT_mem (by omega))), e, S_append]
  simp [S]
theorem can_of (h : CanT L) : CanP 4 (ofS L) := can_ofK h.ne _ (Nat.le_refl _)
theorem V_of (h : CanT L) : V f (ofS L) mo0 = S f L := by rw [ofS, V_ofK h.ok _ (Nat.le_refl _), List.take_length]
theorem terms_ok : ∀ {k : Nat} {p : Pol} {m : Mo}, k ≤ 4 → Lev k p → (∀ i, i < 4 → 0 ≤ m.at i) → ∀ t ∈ W8 p m, ∀ i, i < 4 → 0 ≤ t.exp.at i := by
 intro k p
 induction p using Pol.ind generalizing k
 rename_i p ih
 intro m h4 lp hm t ht
 rw [termsP_eq] at ht
 split at ht
 ·simp at ht; rw [ht]; exact hm
 ·rename_i h
  obtain ⟨j, hj, h2⟩ := List.mem_flatMap.1 ht
  have hj' := List.mem_range.1 hj
  cases lp with
  | zero => exact absurd rfl h
  | @succ _ l c cs hk hc hs =>
   refine ih _ (Y3 hj') (by omega) (hs _ (Y3 hj')) (fun i hi => ?_) t h2
   have e : (((l + 1 : Nat) : Int) - 1).toNat = l := by omega
   show 0 ≤ (m.set (((l + 1 : Nat) : Int) - 1).toNat _).at i
   rw [e]
   by_cases q : i = l
   ·subst q; rw [Mo.at_set_self]; omega
   ·rw [Mo.at_set_ne' q hi (by omega)]; exact hm i hi
def toS (p : Pol) : List Tm := Q4 (W8 p mo0)
theorem mo0_at (i : Nat) : mo0.at i = 0 := low_mo0 (i + 1) i (by omega)
theorem terms_keep (h : Lev 4 p) : Q7 (W8 p mo0) = W8 p mo0 := keepT_id fun t ht => okT_iff'.2 (terms_ok (Nat.le_refl _) h (fun i _ => by rw [mo0_at]; omega) t ht)
theorem N2 (p : Pol) : CanT (toS p) := normS_can _
theorem toS_S (h : Lev 4 p) : S f (toS p) = V f p mo0 := by rw [toS, normS_S, terms_keep h, V]
theorem toS_of (h : CanT L) : toS (ofS L) = L := can_uniq (N2 _) h fun m => by rw [toS_S (can_of h).lev, V_of h]
theorem of_toS (h : CanP 4 p) : ofS (toS p) = p := can_uniqP 4 (m := mo0) (Nat.le_refl _) (can_of (N2 p)) h (low_mo0 4) fun f => by rw [V_of (N2 p), toS_S h.lev]
theorem toS_nil (h : CanP 4 p) : toS p = [] ↔ p = p0 := by
 constructor
 ·intro e; rw [← of_toS h, e]; rfl
 ·intro e; subst e
  have : CanT [] := ⟨.nil, by simp, by simp, by simp⟩
  have := toS_of this
  exact this
end back
section signs
variable {f : Mo → Int} {L ts : List Tm} {d : Int}
theorem gcdF_dvd : ∀ (L : List Tm) (a : Int), d ∣ L.foldl (fun g t => (Int.gcd g (X4 t.coef) : Int)) a ↔ d ∣ a ∧ ∀ t ∈ L, d ∣ X4 t.coef
 | [], a => by simp
 | t :: L, a => by
  rw [List.foldl_cons, gcdF_dvd L]
  constructor
  ·rintro ⟨h1, h2⟩
   exact ⟨Int.dvd_trans h1 (Int.gcd_dvd_left ..), fun u hu => by
    rcases List.mem_cons.1 hu with q | q
    ·rw [q]; exact Int.dvd_trans h1 (Int.gcd_dvd_right ..)
    ·exact h2 u q⟩
  ·rintro ⟨h1, h2⟩
   exact ⟨Int.dvd_coe_gcd h1 (h2 t (by simp)), fun u hu => h2 u (by simp [hu])⟩
theorem gcdT_dvd : d ∣ gcdT L ↔ ∀ t ∈ L, d ∣ X4 t.coef := by rw [gcdT, gcdF_dvd]; simp
theorem gcdF_nonneg : ∀ (L : List Tm) (a : Int), 0 ≤ a → 0 ≤ L.foldl (fun g t => (Int.gcd g (X4 t.coef) : Int)) a
 | [], a, h => h
 | t :: L, a, h => gcdF_nonneg L _ (Int.natCast_nonneg _)
theorem gcdT_nonneg : 0 ≤ gcdT L := gcdF_nonneg L 0 (by omega)
def lcT (L : List Tm) : Int := if X4 (atT L 0).coef < 0 then - gcdT L else gcdT L
def sgnT (L : List Tm) : List Tm := L.map (divT (lcT L))
theorem lcT_dvd : ∀ t ∈ L, lcT L ∣ X4 t.coef := fun t ht => by
 have h := gcdT_dvd.1 (Int.dvd_refl (gcdT L)) t ht
 unfold lcT; split
 ·exact Int.neg_dvd.2 h
 ·exact h
theorem gcdT_ne (h : CanT L) (hn : L ≠ []) : gcdT L ≠ 0 := fun e => by
 cases L with
 | nil => exact hn rfl
 | cons t L =>
  have := gcdT_dvd.1 (Int.dvd_refl (gcdT (t :: L))) t (by simp)
  rw [e] at this
  exact h.ne t (by simp) (Int.zero_dvd.1 this)
theorem lcT_ne (h : CanT L) (hn : L ≠ []) : lcT L ≠ 0 := by
 have := gcdT_ne h hn
 unfold lcT; split <;> omega
theorem sgn_coef {t : Tm} (ht : t ∈ L) : X4 (divT (lcT L) t).coef * lcT L = X4 t.coef := by
 show X4 (ofI _) * _ = _
 rw [Y9]; exact Int.ediv_mul_cancel (lcT_dvd t ht)
theorem S_map {h : Tm → Tm} {c : Int} : ∀ {L : List Tm}, (∀ t ∈ L, (h t).exp = t.exp ∧ X4 (h t).coef * c = X4 t.coef) → S f (L.map h) * c = S f L
 | [], _ => by simp [S]
 | t :: L, hh => by
  obtain ⟨h1, h2⟩ := hh t (by simp)
  rw [List.map_cons, S, S, h1, Int.add_mul, S_map fun u hu => hh u (by simp [hu]), ← h2, Int.mul_right_comm]
theorem S_sgn : S f (sgnT L) * lcT L = S f L := S_map fun t ht => ⟨rfl, sgn_coef ht⟩
theorem sgnT_can (h : CanT L) : CanT (sgnT L) where
 srt := by
  unfold sgnT; rw [List.pairwise_map]; exact h.srt
 ofI t ht := by
  obtain ⟨u, hu, rfl⟩ := List.mem_map.1 ht
  show ofI _ = ofI (X4 (ofI _)); rw [Y9]
 ne t ht := by
  obtain ⟨u, hu, rfl⟩ := List.mem_map.1 ht
  intro e
  have := sgn_coef hu
  rw [e, Int.zero_mul] at this
  exact h.ne u hu this.symm
 ok t ht := by
  obtain ⟨u, hu, rfl⟩ := List.mem_map.1 ht
  exact h.ok u hu
theorem gcdT_sgn (h : CanT L) (hn : L ≠ []) : gcdT (sgnT L) = 1 := by
 have h0 := lcT_ne h hn
 have h1 : gcdT (sgnT L) * lcT L ∣ gcdT L := gcdT_dvd.2 fun t ht => by
  rw [← sgn_coef ht]
  exact Int.mul_dvd_mul_right _ (gcdT_dvd.1 (Int.dvd_refl _) _ (List.mem_map_of_mem ht))
 have h2 : gcdT (sgnT L) * lcT L ∣ lcT L := by
  unfold lcT at *; split
  ·rename_i q; rw [if_pos q] at h1; exact Int.dvd_neg.2 h1
  ·rename_i q; rw [if_neg q] at h1; exact h1
 obtain ⟨c, hc⟩ := h2
 have h3 : lcT L * 1 = lcT L * (gcdT (sgnT L) * c) := by rw [Int.mul_one, ← Int.mul_assoc, Int.mul_comm (lcT L) (gcdT (sgnT L))]; exact hc
 have h4 : gcdT (sgnT L) ∣ 1 := ⟨c, Int.eq_of_mul_eq_mul_left h0 h3⟩
 have h5 := Int.le_of_dvd (by decide) h4
 have h6 := gcdT_nonneg (L := sgnT L)
 have h7 : gcdT (sgnT L) ≠ 0 := fun e => by rw [e] at h4; exact absurd (Int.zero_dvd.1 h4) (by decide)
 omega
theorem signO_lc (ts : List Tm) : signO ts = lcT (Q4 ts) := by
 rw [signO, contS, normS_id (normS_can ts), lcT]
end signs
def msign (p : Pol) : Pol := ofS (sgnT (toS (W3 p)))
theorem msign_can (p : Pol) : CanP 4 (msign p) := can_of (sgnT_can (N2 _))
theorem V_msign (f : Mo → Int) (p : Pol) : V f (msign p) mo0 * lcT (toS (W3 p)) = V f (W3 p) mo0 := by
 rw [msign, V_of (sgnT_can (N2 _)), S_sgn, toS_S (can_norm p).lev]
def powI (x : Int) (e : Int) : Int := x ^ e.toNat
def ev (x : Mo) (m : Mo) : Int := powI x.a m.a * powI x.b m.b * powI x.c m.c * powI x.d m.d
mutual
def Y7 (x : Mo) : Pol → Int
 | .mk l c cs => if l ≤ 0 then X4 c else if 4 < l then 0 else T5 x (x.at (l - 1).toNat) cs
def T5 (x : Mo) (y : Int) : List Pol → Int
 | [] => 0
 | p :: ps => T5 x y ps * y + Y7 x p
end
theorem valP_eq (x : Mo) (p : Pol) : Y7 x p = if p.lv ≤ 0 then X4 p.c else if 4 < p.lv then 0 else T5 x (x.at (p.lv - 1).toNat) p.cs := by
 cases p; rw [Y7]; rfl
theorem ev_set {x m : Mo} {j : Nat} {e : Nat} (hj : j < 4) (h : m.at j = 0) : ev x (m.set j e) = (x.at j) ^ e * ev x m := by
 have p0' : ∀ y : Int, powI y 0 = 1 := fun y => by simp [powI]
 have pn : ∀ y : Int, powI y (e : Int) = y ^ e := fun y => by simp [powI]
 match j, hj with
 | 0, _ => have h' : m.a = 0 := h; simp only [ev, Mo.set, Mo.at, h', p0', pn]; grind
 | 1, _ => have h' : m.b = 0 := h; simp only [ev, Mo.set, Mo.at, h', p0', pn]; grind
 | 2, _ => have h' : m.c = 0 := h; simp only [ev, Mo.set, Mo.at, h', p0', pn]; grind
 | 3, _ => have h' : m.d = 0 := h; simp only [ev, Mo.set, Mo.at, h', p0', pn]; grind
theorem V_ev {x : Mo} : ∀ {k : Nat} {p : Pol} {m : Mo}, k ≤ 4 → Lev k p → Low k m → V (ev x) p m = Y7 x p * ev x m := by
 intro k p
 induction p using Pol.ind generalizing k
 rename_i p ih
 intro m h4 lp hm
 rw [V_eq, valP_eq]
 split
 ·rename_i h; rw [if_pos (by omega)]
 ·rename_i h
  cases lp with
  | zero => exact absurd rfl h
  | @succ _ l c cs hk hc hs =>
   have h1 : ¬ (Pol.mk ((l + 1 : Nat) : Int) c cs).lv ≤ 0 := by simp only [Pol.lv]; omega
   have h2 : ¬ 4 < (Pol.mk ((l + 1 : Nat) : Int) c cs).lv := by simp only [Pol.lv]; omega
   rw [if_neg h1, if_neg h2]
   simp only [Pol.lv, Pol.cs] at ih ⊢
   have e : (((l + 1 : Nat) : Int) - 1).toNat = l := by omega
   rw [e]
   have key : ∀ {ys : List Pol} {i : Nat}, (∀ y ∈ ys, y ∈ cs) → VL (ev x) ((l + 1 : Nat) : Int) ys i m = T5 x (x.at l) ys * (x.at l) ^ i * ev x m := fun {ys} => by
    induction ys with
    | nil => intro i _; simp [VL, T5]
    | cons y ys ihy =>
     intro i hy
     have hyc := hy y (by simp)
     rw [VL, e, ih y hyc (by omega) (hs y hyc) ((hm.mono (by omega)).set (Nat.le_refl l) (by omega)), ev_set (by omega) (hm l (by omega)), ihy fun z hz => hy z (by simp [hz]), T5, Int.pow_succ]
     grind
   rw [key fun y hy => hy, Int.pow_zero, Int.mul_one]
theorem ev_mo0 (x : Mo) : ev x mo0 = 1 := by
 have p0' : ∀ y : Int, powI y 0 = 1 := fun y => by simp [powI]
 simp [ev, mo0, p0']
theorem val_V {x : Mo} {p : Pol} (h : Lev 4 p) : Y7 x p = V (ev x) p mo0 := by rw [V_ev (Nat.le_refl _) h (low_mo0 4), ev_mo0, Int.mul_one]
theorem val_msign (x : Mo) (p : Pol) : Y7 x (msign p) * lcT (toS (W3 p)) = Y7 x (W3 p) := by
 rw [val_V (msign_can p).lev, val_V (can_norm p).lev, V_msign]
end Go.Rt
namespace Go.Rt
open Go Go.RowKit
def nrmT (ts : List Tm) : Nat := (ts.map fun t => (X4 t.coef).natAbs).sum
section nrmT
variable {xs ys ts L : List Tm} {B D : Nat}
theorem nrmT_cons (t : Tm) : nrmT (t :: ts) = (X4 t.coef).natAbs + nrmT ts := by simp [nrmT]
theorem nrmT_append : nrmT (xs ++ ys) = nrmT xs + nrmT ys := by simp [nrmT]
theorem nrmT_perm (h : xs.Perm ys) : nrmT xs = nrmT ys := (h.map _).sum_nat
theorem nrmT_mem {t : Tm} (h : t ∈ ts) : (X4 t.coef).natAbs ≤ nrmT ts := by
 induction ts with
 | nil => cases h
 | cons u ts ih =>
  rw [nrmT_cons]
  rcases List.mem_cons.1 h with q | q
  ·rw [q]; omega
  ·have := ih q; omega
theorem sumRun_nrm (m : Mo) : ∀ (c : Int) (ts : List Tm), (U8 m c ts).1.natAbs + nrmT (U8 m c ts).2 ≤ c.natAbs + nrmT ts
 | c, [] => Nat.le_refl _
 | c, t :: ts => by
  rw [U8]; split
  ·have h1 := sumRun_nrm m (c + X4 t.coef) ts
   have h2 := Int.natAbs_add_le c (X4 t.coef)
   rw [nrmT_cons]; omega
  ·exact Nat.le_refl _
theorem mergeT_nrm : ∀ (n : Nat) (ts : List Tm), ts.length ≤ n → nrmT (W0 ts) ≤ nrmT ts
 | 0, ts, h => by rw [List.eq_nil_of_length_eq_zero (Nat.le_zero.1 h), W0]; exact Nat.le_refl _
 | n + 1, [], h => by rw [W0]; exact Nat.le_refl _
 | n + 1, t :: ts, h => by
  have h1 := sumRun_nrm t.exp (X4 t.coef) ts
  have h2 := mergeT_nrm n (U8 t.exp (X4 t.coef) ts).2 (Nat.le_trans (sumRun_len ..) (by simpa using h))
  rw [W0, nrmT_append, nrmT_cons]
  split
  ·simp only [nrmT, List.map_nil, List.sum_nil] at *; omega
  ·have : nrmT [(⟨ofI (U8 t.exp (X4 t.coef) ts).1, t.exp⟩ : Tm)] = (U8 t.exp (X4 t.coef) ts).1.natAbs := by simp [nrmT, Y9]
   rw [this]; omega
theorem keepT_nrm (ts : List Tm) : nrmT (Q7 ts) ≤ nrmT ts := by
 induction ts with
 | nil => exact Nat.le_refl _
 | cons t ts ih =>
  unfold Q7 at *
  rw [List.filter_cons, nrmT_cons]; split
  ·rw [nrmT_cons]; omega
  ·omega
theorem normS_nrm (ts : List Tm) : nrmT (Q4 ts) ≤ nrmT ts := by
 have h1 := mergeT_nrm _ (sortT (Q7 ts)) (Nat.le_refl _)
 have h2 := nrmT_perm (sortT_perm (Q7 ts)).1
 have h3 := keepT_nrm ts
 unfold Q4; omega
theorem sgnT_nrm (h : lcT L ≠ 0) : nrmT (sgnT L) ≤ nrmT L := by
 have key : ∀ ts : List Tm, (∀ t ∈ ts, lcT L ∣ X4 t.coef) → nrmT (ts.map (divT (lcT L))) ≤ nrmT ts := fun ts => by
  induction ts with
  | nil => intro _; exact Nat.le_refl _
  | cons t ts ih =>
   intro hd
   have h1 := ih fun u hu => hd u (by simp [hu])
   have h2 : (X4 (divT (lcT L) t).coef).natAbs ≤ (X4 t.coef).natAbs := by
    show (X4 (ofI (X4 t.coef / lcT L))).natAbs ≤ _
    obtain ⟨c, hc⟩ := hd t (by simp)
    rw [Y9, hc, Int.mul_ediv_cancel_left _ h, Int.natAbs_mul]
    exact Nat.le_mul_of_pos_left _ (Int.natAbs_pos.2 h)
   rw [List.map_cons, nrmT_cons, nrmT_cons]; omega
 exact key L lcT_dvd
theorem coefT_len (h : ∀ t ∈ L, t.coef = ofI (X4 t.coef)) (hn : nrmT L < B32 ^ B) : ∀ t ∈ L, t.coef.abs.length ≤ B := fun t ht => by
 rw [h t ht]; exact R8 (Nat.lt_of_le_of_lt (nrmT_mem ht) hn)
theorem coefT_digs (h : ∀ t ∈ L, t.coef = ofI (X4 t.coef)) : ∀ t ∈ L, U7 t.coef.abs := fun t ht => by rw [h t ht]; exact digs_dig _
theorem nrmT_len : ∀ {ts : List Tm}, (∀ t ∈ ts, U7 t.coef.abs) → (∀ t ∈ ts, t.coef.abs.length ≤ B) → nrmT ts ≤ ts.length * B32 ^ B
 | [], _, _ => by simp [nrmT]
 | t :: ts, hd, hz => by
  have h1 := nrmT_len (ts := ts) (fun u hu => hd u (by simp [hu])) (fun u hu => hz u (by simp [hu]))
  have h2 := Nat.lt_of_lt_of_le (val_pow (hd t (by simp))) (pow_mono (hz t (by simp)))
  rw [nrmT_cons, List.length_cons, Nat.add_mul]; omega
theorem nrmT_lt (hl : ts.length ≤ 4294967295) (hd : ∀ t ∈ ts, U7 t.coef.abs) (hz : ∀ t ∈ ts, t.coef.abs.length ≤ B) : nrmT ts < B32 ^ (B + 1) := by
 have h1 := nrmT_len hd hz
 refine Nat.lt_of_le_of_lt h1 ?_
 rw [Nat.pow_succ, Nat.mul_comm]
 exact Nat.mul_lt_mul_of_pos_left (Nat.lt_of_le_of_lt hl (by decide)) (Nat.pow_pos (by decide))
end nrmT
structure SgnF (B : Nat) (ts : List Tm) : Prop where
 l2 : (Q4 ts).length ≤ 4294967295
 d2 : ∀ t ∈ Q4 ts, U7 t.coef.abs
 z1 : ∀ t ∈ ts, t.coef.abs.length ≤ B + 1
 z2 : ∀ t ∈ Q4 ts, t.coef.abs.length ≤ B + 1
 z3 : ∀ t ∈ Q4 (Q4 ts), t.coef.abs.length ≤ B + 1
 c : signO ts ≠ 0
 dv : ∀ t ∈ Q4 ts, signO ts ∣ X4 t.coef
theorem sgnF {B : Nat} {ts : List Tm} (hl : ts.length ≤ 4294967295) (hd : ∀ t ∈ ts, U7 t.coef.abs) (hz : ∀ t ∈ ts, t.coef.abs.length ≤ B) (hne : Q4 ts ≠ []) : SgnF B ts := by
 have h := normS_can ts
 have hn := Nat.lt_of_le_of_lt (normS_nrm ts) (nrmT_lt hl hd hz)
 have hz2 := coefT_len h.ofI hn
 exact ⟨Nat.le_trans (normS_len ts) hl, coefT_digs h.ofI, fun t ht => Nat.le_succ_of_le (hz t ht), hz2, by rw [normS_id h]; exact hz2, by rw [signO_lc]; exact lcT_ne h hne, fun t ht => by rw [signO_lc]; exact lcT_dvd t ht⟩
section rec
variable {D : Nat}
theorem nrmT_terms (p : Pol) (m : Mo) : nrmT (W8 p m) ≤ nrm p := by
 induction p using Pol.ind generalizing m
 rename_i p ih
 obtain ⟨l, c, cs⟩ := p
 rw [W8, nrm]
 split
 ·simp [nrmT]
 ·have key : ∀ (ys : List Pol) (i : Nat), (∀ y ∈ ys, y ∈ cs) → nrmT (termsL l ys i m) ≤ V3 ys := fun ys => by
   induction ys with
   | nil => intro i _; rw [termsL]; exact Nat.le_refl _
   | cons y ys ihy =>
    intro i hy
    have h1 := ih y (hy y (by simp)) (m.set (l - 1).toNat i)
    have h2 := ihy (i + 1) fun z hz => hy z (by simp [hz])
    rw [termsL, nrmT_append, V3]; omega
  have := key cs 0 fun y h => h
  omega
theorem toS_nrm (p : Pol) : nrmT (toS p) ≤ nrm p := Nat.le_trans (normS_nrm _) (nrmT_terms p mo0)
theorem terms_lt : ∀ {k : Nat} {p : Pol} {m : Mo}, k ≤ 4 → Lev k p → Sz D p → 1 ≤ D → (∀ i, i < 4 → m.at i < D) → ∀ t ∈ W8 p m, ∀ i, i < 4 → t.exp.at i < D := by
 intro k p
 induction p using Pol.ind generalizing k
 rename_i p ih
 intro m h4 lp sp hD hm t ht
 rw [termsP_eq] at ht
 split at ht
 ·simp at ht; rw [ht]; exact hm
 ·rename_i h
  obtain ⟨j, hj, h2⟩ := List.mem_flatMap.1 ht
  have hj' := List.mem_range.1 hj
  have hcs := sp.cs
  have hsub := sp.sub
  cases lp with
  | zero => exact absurd rfl h
  | @succ _ l c cs hk hc hs =>
   refine ih _ (Y3 hj') (by omega) (hs _ (Y3 hj')) (hsub _ (Y3 hj')) hD (fun i hi => ?_) t h2
   have e : (((l + 1 : Nat) : Int) - 1).toNat = l := by omega
   show (m.set (((l + 1 : Nat) : Int) - 1).toNat _).at i < _
   rw [e]
   by_cases q : i = l
   ·subst q; rw [Mo.at_set_self]; omega
   ·rw [Mo.at_set_ne' q hi (by omega)]; exact hm i hi
theorem terms_len : ∀ {k : Nat} {p : Pol} {m : Mo}, Lev k p → Sz D p → 1 ≤ D → (W8 p m).length ≤ D ^ k := by
 intro k p
 induction p using Pol.ind generalizing k
 rename_i p ih
 intro m lp sp hD
 have hcs := sp.cs
 have hsub := sp.sub
 cases lp with
 | zero => rw [termsP_eq, if_pos (by rfl)]; exact Nat.pow_pos hD
 | @succ _ l c cs hk hc hs =>
  rw [W8, if_neg (by omega)]
  have key : ∀ (ys : List Pol) (i : Nat), (∀ y ∈ ys, y ∈ cs) → (termsL ((l + 1 : Nat) : Int) ys i m).length ≤ ys.length * D ^ l := fun ys => by
   induction ys with
   | nil => intro i _; rw [termsL]; simp
   | cons y ys ihy =>
    intro i hy
    have h1 := ih y (hy y (by simp)) (m := m.set (((l + 1 : Nat) : Int) - 1).toNat i) (hs y (hy y (by simp))) (hsub y (hy y (by simp))) hD
    have h2 := ihy (i + 1) fun z hz => hy z (by simp [hz])
    rw [termsL, List.length_append, List.length_cons, Nat.add_mul]; omega
  refine Nat.le_trans (key cs 0 fun y h => h) (Nat.le_trans (Nat.mul_le_mul_right _ hcs) ?_)
  rw [Nat.mul_comm, ← Nat.pow_succ]
  exact Nat.pow_le_pow_right hD hk
theorem cnt_can {k : Nat} {p : Pol} (h : CanP k p) (hs : Sz D p) : cnt p ≤ (D + 1) ^ k := by
 induction h with
 | const n => rw [cnt_eq]; exact Nat.pow_pos (by omega)
 | @node k l cs h h2 hsub ht ih =>
  have hcs := hs.cs
  have hss := hs.sub
  rw [cnt_eq]
  have key : ∀ ys : List Pol, (∀ y ∈ ys, y ∈ cs) → cntL ys ≤ ys.length * (D + 1) ^ l := fun ys => by
   induction ys with
   | nil => intro _; simp [cntL]
   | cons y ys ihy =>
    intro hy
    have h1 := ih y (hy y (by simp)) (hss y (hy y (by simp)))
    have h2 := ihy fun z hz => hy z (by simp [hz])
    rw [cntL, List.length_cons, Nat.add_mul]; omega
  have h3 := Nat.le_trans (key cs fun y h => h) (Nat.mul_le_mul_right _ hcs)
  have h4 : 1 ≤ (D + 1) ^ l := Nat.pow_pos (by omega)
  refine Nat.le_trans ?_ (Nat.pow_le_pow_right (by omega) h)
  rw [Nat.pow_succ, Nat.mul_add, Nat.mul_one, Nat.mul_comm _ D]
  show 1 + cntL cs ≤ _
  omega
theorem sz_mono {c : Int} {m : Mo} (hD : 1 ≤ D) (hm : ∀ i, i < 4 → m.at i < D) : ∀ i, i ≤ 4 → Sz D (monoP m (.mk 0 (ofI c) []) i)
 | 0, _ => by rw [monoP]; exact .const c
 | i + 1, hi => by
  have ih := sz_mono (c := c) hD hm i (by omega)
  have h1 := hm i (by omega)
  by_cases q : 0 < m.at i
  ·rw [← monoP_yes q]
   refine .mk z0_ofI (by rw [List.length_set, List.length_replicate]; omega) fun x hx => ?_
   rcases List.mem_or_eq_of_mem_set hx with h | h
   ·rw [(List.mem_replicate.1 h).2]; exact .p0
   ·rw [h]; exact ih
  ·rw [← monoP_no q]; exact ih
theorem nrm_mono {c : Int} {m : Mo} : ∀ i, nrm (monoP m (.mk 0 (ofI c) []) i) ≤ c.natAbs
 | 0 => by rw [monoP]; have := nrm_const c; exact Nat.le_of_eq this
 | i + 1 => by
  have ih := nrm_mono (c := c) (m := m) i
  by_cases q : 0 < m.at i
  ·rw [← monoP_yes q, nrm]
   have h0 : (X4 z0).natAbs = 0 := by rw [zval_z0]; rfl
   have h1 := nrmL_set (zs := List.replicate ((m.at i).toNat + 1) p0) (n := (m.at i).toNat) (z := monoP m (.mk 0 (ofI c) []) i) (by simp)
   rw [nrmL_rep] at h1
   omega
  ·rw [← monoP_no q]; exact ih
theorem sz_of {L : List Tm} (hD : 1 ≤ D) (h : ∀ t ∈ L, ∀ i, i < 4 → t.exp.at i < D) : ∀ k, k ≤ L.length → Sz D (ofK L k)
 | 0, _ => .p0
 | k + 1, hk => by
  rw [ofK.eq_2]
  exact Sz.add hD 4 (sz_of hD h k (by omega)) (sz_mono hD (h _ (atT_mem (by omega))) 4 (by omega))
theorem nrm_ofK {L : List Tm} : ∀ k, k ≤ L.length → nrm (ofK L k) ≤ nrmT (L.take k)
 | 0, _ => by rw [show ofK L 0 = p0 from rfl, nrm_p0]; omega
 | k + 1, hk => by
  have e : L.take (k + 1) = L.take k ++ [atT L k] := by
   rw [List.take_succ_eq_append_getElem (by omega), atT, List.getD_eq_getElem?_getD, List.getElem?_eq_getElem (by omega)]; rfl
  have h1 := nrm_ofK (L := L) k (by omega)
  have h2 : nrm (termP (atT L k)) ≤ _ := nrm_mono 4
  have h3 := nrm_add 4 (ofK L k) (termP (atT L k))
  rw [ofK.eq_2, e, nrmT_append, nrmT_cons]; omega
theorem nrm_of (L : List Tm) : nrm (ofS L) ≤ nrmT L := by
 have := nrm_ofK (L := L) L.length (Nat.le_refl _)
 rwa [List.take_length] at this
theorem toS_exp {p : Pol} (h : Lev 4 p) (hs : Sz D p) (hD : 1 ≤ D) : ∀ t ∈ toS p, ∀ i, i < 4 → t.exp.at i < D := fun t ht => by
 obtain ⟨u, hu, e⟩ := mergeT_exp _ _ (Nat.le_refl _) t ht
 have hu' : u ∈ W8 p mo0 := (List.mem_filter.1 (sortT_mem u hu)).1
 rw [← e]
 exact terms_lt (Nat.le_refl _) h hs hD (fun i _ => by rw [mo0_at]; omega) u hu'
theorem sgnT_exp {L : List Tm} (h : ∀ t ∈ L, ∀ i, i < 4 → t.exp.at i < D) : ∀ t ∈ sgnT L, ∀ i, i < 4 → t.exp.at i < D := fun t ht => by
 obtain ⟨u, hu, rfl⟩ := List.mem_map.1 ht
 exact h u hu
theorem sz_msign {p : Pol} (hs : Sz D (W3 p)) (hD : 1 ≤ D) : Sz D (msign p) :=
 sz_of hD (sgnT_exp (toS_exp (lev_norm p) hs hD)) _ (Nat.le_refl _)
theorem nrm_msign {p : Pol} (h : W3 p ≠ p0) : nrm (msign p) ≤ nrm p := by
 have hn : toS (W3 p) ≠ [] := fun e => h ((toS_nil (can_norm p)).1 e)
 exact Nat.le_trans (nrm_of _) (Nat.le_trans (sgnT_nrm (lcT_ne (N2 _) hn)) (Nat.le_trans (toS_nrm _) (nrm_norm p)))
end rec
end Go.Rt
