/- The logic of the walks, part H: loops with several ghosts, small numbers. Conditions: none; nothing of a program stands here. -/
import Derived.Test.YtkpmcldbcljkfaaRtG
import Derived.Test.YtkpmcldbcljkfaaPlN
set_option linter.unusedVariables false
set_option linter.unusedSimpArgs false
namespace Go.Rt
open Go Go.RowKit

variable {X : Cx} {ops : Array Oper} {Q : Exit → Act → World → Prop} {rest : List Oper} {Γ : Gam} {H : Hp}
variable {dst : Option Tmp} {ty : TypeId} {pos : String} {af : Array Edge} {gd : Option (Nat × Bool)} {o : Oper} {T T' : Ty}

theorem then_mono {P : Program} {c : Code} {K K' : Act → World → Prop} {a : Act} {w : World} (h : ∀ a w, K a w → K' a w) (hc : c.wp P (Exit.then K Q) a w) : c.wp P (Exit.then K' Q) a w :=
  wp_mono hc fun e a w q => by cases e <;> first | exact h _ _ q | exact q

section
variable {α β γ δ : Type} {c : Code}
theorem JC.loop2 (G : α → β → Gam) (HH : α → β → Hp) (inv : α → β → Prop) (μ : α → β → Nat) (a0 : α) (b0 : β) (h0 : inv a0 b0) (hs0 : ∀ a w, Sat X Γ H a w → Sat X (G a0 b0) (HH a0 b0) a w)
    (round : ∀ i j, inv i j → JC X c (Exit.then (fun a w => ∃ k l, inv k l ∧ μ k l < μ i j ∧ Sat X (G k l) (HH k l) a w) Q) (G i j) (HH i j)) : JC X (.loop c) Q Γ H :=
  JC.loop (ι := α × β) (fun i => G i.1 i.2) (fun i => HH i.1 i.2) (fun i => inv i.1 i.2) (fun i => μ i.1 i.2) (a0, b0) h0 hs0 fun i hi a w hs => then_mono (fun _ _ ⟨k, l, h⟩ => ⟨(k, l), h⟩) (round i.1 i.2 hi a w hs)
theorem JQ.round2 {G : α → β → Gam} {HH : α → β → Hp} {inv : α → β → Prop} {μ : α → β → Nat} {i : α} {i2 : β} (j : α) (j2 : β) (hj : inv j j2) (hμ : μ j j2 < μ i i2) (hs : ∀ a w, Sat X Γ H a w → Sat X (G j j2) (HH j j2) a w) :
    JQ X (Exit.then (fun a w => ∃ k l, inv k l ∧ μ k l < μ i i2 ∧ Sat X (G k l) (HH k l) a w) Q) .normal Γ H := fun a w h => ⟨j, j2, hj, hμ, hs a w h⟩
theorem JC.loop3 (G : α → β → γ → Gam) (HH : α → β → γ → Hp) (inv : α → β → γ → Prop) (μ : α → β → γ → Nat) (a0 : α) (b0 : β) (c0 : γ) (h0 : inv a0 b0 c0) (hs0 : ∀ a w, Sat X Γ H a w → Sat X (G a0 b0 c0) (HH a0 b0 c0) a w)
    (round : ∀ i j k, inv i j k → JC X c (Exit.then (fun a w => ∃ l m n, inv l m n ∧ μ l m n < μ i j k ∧ Sat X (G l m n) (HH l m n) a w) Q) (G i j k) (HH i j k)) : JC X (.loop c) Q Γ H :=
  JC.loop (ι := α × β × γ) (fun i => G i.1 i.2.1 i.2.2) (fun i => HH i.1 i.2.1 i.2.2) (fun i => inv i.1 i.2.1 i.2.2) (fun i => μ i.1 i.2.1 i.2.2) (a0, b0, c0) h0 hs0 fun i hi a w hs => then_mono (fun _ _ ⟨k, l, m, h⟩ => ⟨(k, l, m), h⟩) (round i.1 i.2.1 i.2.2 hi a w hs)
theorem JQ.round3 {G : α → β → γ → Gam} {HH : α → β → γ → Hp} {inv : α → β → γ → Prop} {μ : α → β → γ → Nat} {i : α} {i2 : β} {i3 : γ} (j : α) (j2 : β) (j3 : γ) (hj : inv j j2 j3) (hμ : μ j j2 j3 < μ i i2 i3) (hs : ∀ a w, Sat X Γ H a w → Sat X (G j j2 j3) (HH j j2 j3) a w) :
    JQ X (Exit.then (fun a w => ∃ l m n, inv l m n ∧ μ l m n < μ i i2 i3 ∧ Sat X (G l m n) (HH l m n) a w) Q) .normal Γ H := fun a w h => ⟨j, j2, j3, hj, hμ, hs a w h⟩
theorem JC.loop4 (G : α → β → γ → δ → Gam) (HH : α → β → γ → δ → Hp) (inv : α → β → γ → δ → Prop) (μ : α → β → γ → δ → Nat) (a0 : α) (b0 : β) (c0 : γ) (d0 : δ) (h0 : inv a0 b0 c0 d0) (hs0 : ∀ a w, Sat X Γ H a w → Sat X (G a0 b0 c0 d0) (HH a0 b0 c0 d0) a w)
    (round : ∀ i j k l, inv i j k l → JC X c (Exit.then (fun a w => ∃ m n p q, inv m n p q ∧ μ m n p q < μ i j k l ∧ Sat X (G m n p q) (HH m n p q) a w) Q) (G i j k l) (HH i j k l)) : JC X (.loop c) Q Γ H :=
  JC.loop (ι := α × β × γ × δ) (fun i => G i.1 i.2.1 i.2.2.1 i.2.2.2) (fun i => HH i.1 i.2.1 i.2.2.1 i.2.2.2) (fun i => inv i.1 i.2.1 i.2.2.1 i.2.2.2) (fun i => μ i.1 i.2.1 i.2.2.1 i.2.2.2) (a0, b0, c0, d0) h0 hs0 fun i hi a w hs => then_mono (fun _ _ ⟨k, l, m, n, h⟩ => ⟨(k, l, m, n), h⟩) (round i.1 i.2.1 i.2.2.1 i.2.2.2 hi a w hs)
theorem JQ.round4 {G : α → β → γ → δ → Gam} {HH : α → β → γ → δ → Hp} {inv : α → β → γ → δ → Prop} {μ : α → β → γ → δ → Nat} {i : α} {i2 : β} {i3 : γ} {i4 : δ} (j : α) (j2 : β) (j3 : γ) (j4 : δ) (hj : inv j j2 j3 j4) (hμ : μ j j2 j3 j4 < μ i i2 i3 i4) (hs : ∀ a w, Sat X Γ H a w → Sat X (G j j2 j3 j4) (HH j j2 j3 j4) a w) :
    JQ X (Exit.then (fun a w => ∃ m n p q, inv m n p q ∧ μ m n p q < μ i i2 i3 i4 ∧ Sat X (G m n p q) (HH m n p q) a w) Q) .normal Γ H := fun a w h => ⟨j, j2, j3, j4, hj, hμ, hs a w h⟩
end

/-! ### Numbers -/
theorem wu32 {z : Int} (h0 : 0 ≤ z) (h1 : z < 4294967296) : IntKind.u32.wrap z = z := by simp [IntKind.wrap, IntKind.signed, IntKind.bits]; omega
theorem wu64 {z : Int} (h0 : 0 ≤ z) (h1 : z < 18446744073709551616) : IntKind.u64.wrap z = z := by simp [IntKind.wrap, IntKind.signed, IntKind.bits]; omega
theorem wu32_mod {z : Int} (h0 : 0 ≤ z) : IntKind.u32.wrap z = z % 4294967296 := by simp [IntKind.wrap, IntKind.signed, IntKind.bits]
theorem wu64_mod {z : Int} (h0 : 0 ≤ z) : IntKind.u64.wrap z = z % 18446744073709551616 := by simp [IntKind.wrap, IntKind.signed, IntKind.bits]
theorem shr32_u64 {z : Int} (h0 : 0 ≤ z) : z.fdiv (2 ^ (min (32 : Int).toNat IntKind.u64.bits)) = z / 4294967296 := by
  have e : (2 ^ (min (32 : Int).toNat IntKind.u64.bits) : Int) = 4294967296 := by decide
  rw [e, Int.fdiv_eq_ediv_of_nonneg _ (by decide)]

theorem encD_in {z : Int} (h0 : 0 ≤ z) (h1 : z < 4294967296) : ∀ v s, (tIs (.int .u32 z)).p v s → (tV encD z.toNat).p v s := fun v s e => by
  have e' : v = .int .u32 z := e
  subst e'
  have hz : z = (z.toNat : Int) := (Int.toNat_of_nonneg h0).symm
  refine ⟨rfl, ?_, by omega⟩
  rw [← hz]; rfl

theorem ot_com {t : TypeId} {x : Operand} {k : IntKind} {a r : Int} (hx : OpT Γ x (tIs (.int k a))) (hw : bitsOf .xor k (if k.signed then -1 else k.max) a = r) : OpTy X Γ H ⟨dst, .unOp .xor t x, ty, pos, af, gd⟩ (tIs (.int k r)) :=
  opTy_run fun s w hs => by
    have h1 : s.eval x = .int k a := hx.ev hs (mem_slots (by simp [Op.operands]))
    subst hw
    exact ⟨_, w, by simp [execOp, h1, Op.unary, Op.intBits, bitsOf], Below.refl _ _, rfl⟩

theorem bitsOf_and {a b : Nat} (ha : a < 4294967296) (hb : b < 4294967296) : bitsOf .and .u32 a b = ((a &&& b : Nat) : Int) := by
  have h : a &&& b < 4294967296 := Nat.lt_of_le_of_lt Nat.and_le_left ha
  have e : bitsOf .and .u32 a b = IntKind.u32.wrap ((BitVec.ofNat 32 a &&& BitVec.ofNat 32 b).toNat : Int) := by simp only [bitsOf, BitVec.ofInt_natCast]; rfl
  rw [e, BitVec.toNat_and, BitVec.toNat_ofNat, BitVec.toNat_ofNat]
  rw [Nat.mod_eq_of_lt (by simpa using ha), Nat.mod_eq_of_lt (by simpa using hb), wu32 (by omega) (by omega)]
theorem bitsOf_or {a b : Nat} (ha : a < 4294967296) (hb : b < 4294967296) : bitsOf .or .u32 a b = ((a ||| b : Nat) : Int) := by
  have h : a ||| b < 2 ^ 32 := Nat.or_lt_two_pow (by simpa using ha) (by simpa using hb)
  have e : bitsOf .or .u32 a b = IntKind.u32.wrap ((BitVec.ofNat 32 a ||| BitVec.ofNat 32 b).toNat : Int) := by simp only [bitsOf, BitVec.ofInt_natCast]; rfl
  rw [e, BitVec.toNat_or, BitVec.toNat_ofNat, BitVec.toNat_ofNat]
  rw [Nat.mod_eq_of_lt (by simpa using ha), Nat.mod_eq_of_lt (by simpa using hb), wu32 (by omega) (by omega)]
theorem bitsOf_xor {a b : Nat} (ha : a < 4294967296) (hb : b < 4294967296) : bitsOf .xor .u32 a b = ((a ^^^ b : Nat) : Int) := by
  have h : a ^^^ b < 2 ^ 32 := Nat.xor_lt_two_pow (by simpa using ha) (by simpa using hb)
  have e : bitsOf .xor .u32 a b = IntKind.u32.wrap ((BitVec.ofNat 32 a ^^^ BitVec.ofNat 32 b).toNat : Int) := by simp only [bitsOf, BitVec.ofInt_natCast]; rfl
  rw [e, BitVec.toNat_xor, BitVec.toNat_ofNat, BitVec.toNat_ofNat]
  rw [Nat.mod_eq_of_lt (by simpa using ha), Nat.mod_eq_of_lt (by simpa using hb), wu32 (by omega) (by omega)]
theorem bitsOf_or64 {a b : Nat} (ha : a < 18446744073709551616) (hb : b < 18446744073709551616) : bitsOf .or .u64 a b = ((a ||| b : Nat) : Int) := by
  have h : a ||| b < 2 ^ 64 := Nat.or_lt_two_pow (by simpa using ha) (by simpa using hb)
  have e : bitsOf .or .u64 a b = IntKind.u64.wrap ((BitVec.ofNat 64 a ||| BitVec.ofNat 64 b).toNat : Int) := by simp only [bitsOf, BitVec.ofInt_natCast]; rfl
  rw [e, BitVec.toNat_or, BitVec.toNat_ofNat, BitVec.toNat_ofNat]
  rw [Nat.mod_eq_of_lt (by simpa using ha), Nat.mod_eq_of_lt (by simpa using hb), wu64 (by omega) (by omega)]

/-- The high and the low half of 64 bits. -/
theorem or_halves {h l : Nat} (hl : l < 4294967296) : (h * 4294967296) ||| l = h * 4294967296 + l := by
  have := Nat.two_pow_add_eq_or_of_lt (b := l) (i := 32) (by simpa using hl) h
  rw [show (2 ^ 32 : Nat) = 4294967296 by decide, Nat.mul_comm] at this
  exact this.symm
theorem or_halvesI {h l : Int} (h0 : 0 ≤ h) (h1 : h < 4294967296) (l0 : 0 ≤ l) (l1 : l < 4294967296) : bitsOf .or .u64 (h * 4294967296) l = h * 4294967296 + l := by
  obtain ⟨a, rfl⟩ := Int.eq_ofNat_of_zero_le h0
  obtain ⟨b, rfl⟩ := Int.eq_ofNat_of_zero_le l0
  have e := bitsOf_or64 (a := a * 4294967296) (b := b) (by omega) (by omega)
  rw [or_halves (by omega)] at e
  rw [show ((a : Int) * 4294967296) = ((a * 4294967296 : Nat) : Int) by omega, e]
  omega
theorem shl32_u64 {z : Int} (h0 : 0 ≤ z) (h1 : z < 4294967296) : IntKind.u64.wrap (z * 2 ^ (min (32 : Int).toNat IntKind.u64.bits)) = z * 4294967296 := by
  have e : (2 ^ (min (32 : Int).toNat IntKind.u64.bits) : Int) = 4294967296 := by decide
  rw [e, wu64 (by omega) (by omega)]

theorem top_bit {z : Nat} (h : z < 4294967296) : z / 2147483648 = (z.testBit 31).toNat := by
  rw [Nat.testBit_eq_decide_div_mod_eq]
  have : z / 2 ^ 31 < 2 := by omega
  rw [show (2 ^ 31 : Nat) = 2147483648 by decide] at *
  rcases Nat.lt_or_ge (z / 2147483648) 1 with q | q
  · have : z / 2147483648 = 0 := by omega
    simp [this]
  · have : z / 2147483648 = 1 := by omega
    simp [this]
theorem top_ge {z : Nat} (h : z < 4294967296) : z.testBit 31 = decide (2147483648 ≤ z) := by
  have := top_bit h
  cases hb : z.testBit 31
  · rw [hb] at this; simp at this; symm; simp; omega
  · rw [hb] at this; simp at this; symm; simp; omega

theorem borrow_nat {x y b : Nat} (hx : x < 4294967296) (hy : y < 4294967296) (hb : b ≤ 1) (d : Nat) (hd : d < 4294967296) (hdd : (d : Int) = (x : Int) - y - b ∨ (d : Int) = (x : Int) - y - b + 4294967296) :
    (((4294967295 ^^^ x) &&& y) ||| ((4294967295 ^^^ (x ^^^ y)) &&& d)) / 2147483648 = if x < y + b then 1 else 0 := by
  have hxy : x ^^^ y < 2 ^ 32 := Nat.xor_lt_two_pow (by simpa using hx) (by simpa using hy)
  have h1 : (4294967295 ^^^ x) &&& y < 2 ^ 32 := Nat.lt_of_le_of_lt Nat.and_le_right (by simpa using hy)
  have h2 : (4294967295 ^^^ (x ^^^ y)) &&& d < 2 ^ 32 := Nat.lt_of_le_of_lt Nat.and_le_right (by simpa using hd)
  have h3 := Nat.or_lt_two_pow h1 h2
  rw [top_bit (by simpa using h3)]
  have hm : Nat.testBit 4294967295 31 = true := by decide
  rw [Nat.testBit_or, Nat.testBit_and, Nat.testBit_and, Nat.testBit_xor, Nat.testBit_xor, Nat.testBit_xor, hm, top_ge hx, top_ge hy, top_ge hd]
  by_cases p : 2147483648 ≤ x <;> by_cases q : 2147483648 ≤ y <;> by_cases r : 2147483648 ≤ d <;> simp [p, q, r] <;> (first | omega | (split <;> omega) | skip)

theorem sub32_borrow {x y b : Int} (x0 : 0 ≤ x) (x1 : x < 4294967296) (y0 : 0 ≤ y) (y1 : y < 4294967296) (b0 : 0 ≤ b) (b1 : b ≤ 1) :
    (bitsOf .or .u32 (bitsOf .and .u32 (bitsOf .xor .u32 (if IntKind.signed .u32 then -1 else IntKind.max .u32) x) y) (bitsOf .and .u32 (bitsOf .xor .u32 (if IntKind.signed .u32 then -1 else IntKind.max .u32) (bitsOf .xor .u32 x y)) ((x - y - b) % 4294967296))).fdiv (2 ^ (min (31 : Int).toNat IntKind.u32.bits)) = if x < y + b then 1 else 0 := by
  have e : (2 ^ (min (31 : Int).toNat IntKind.u32.bits) : Int) = 2147483648 := by decide
  have em : (if IntKind.signed .u32 then -1 else IntKind.max .u32 : Int) = ((4294967295 : Nat) : Int) := by decide
  obtain ⟨x, rfl⟩ := Int.eq_ofNat_of_zero_le x0
  obtain ⟨y, rfl⟩ := Int.eq_ofNat_of_zero_le y0
  obtain ⟨b, rfl⟩ := Int.eq_ofNat_of_zero_le b0
  have hd0 : 0 ≤ ((x : Int) - y - b) % 4294967296 := by omega
  obtain ⟨d, hd⟩ := Int.eq_ofNat_of_zero_le hd0
  have hxn : x < 4294967296 := by omega
  have hyn : y < 4294967296 := by omega
  have hdn : d < 4294967296 := by omega
  have hxy : x ^^^ y < 2 ^ 32 := Nat.xor_lt_two_pow (by simpa using hxn) (by simpa using hyn)
  have h4 : 4294967295 ^^^ x < 2 ^ 32 := Nat.xor_lt_two_pow (by decide) (by simpa using hxn)
  have h5 : 4294967295 ^^^ (x ^^^ y) < 2 ^ 32 := Nat.xor_lt_two_pow (by decide) hxy
  have h1 : (4294967295 ^^^ x) &&& y < 2 ^ 32 := Nat.lt_of_le_of_lt Nat.and_le_right (by simpa using hyn)
  have h2 : (4294967295 ^^^ (x ^^^ y)) &&& d < 2 ^ 32 := Nat.lt_of_le_of_lt Nat.and_le_right (by simpa using hdn)
  rw [hd, em, e]
  rw [bitsOf_xor (by decide) hxn, bitsOf_and (by simpa using h4) hyn, bitsOf_xor hxn hyn, bitsOf_xor (by decide) (by simpa using hxy), bitsOf_and (by simpa using h5) hdn, bitsOf_or (by simpa using h1) (by simpa using h2)]
  rw [Int.fdiv_eq_ediv_of_nonneg _ (by decide)]
  have := borrow_nat hxn hyn (b := b) (by omega) d hdn (by omega)
  have h3 : (((((4294967295 ^^^ x) &&& y) ||| ((4294967295 ^^^ (x ^^^ y)) &&& d) : Nat) : Int) / 2147483648) = (((((4294967295 ^^^ x) &&& y) ||| ((4294967295 ^^^ (x ^^^ y)) &&& d)) / 2147483648 : Nat) : Int) := by omega
  rw [h3, this]
  split <;> split <;> omega

theorem mulb {x y : Int} (x0 : 0 ≤ x) (x1 : x < 4294967296) (y0 : 0 ≤ y) (y1 : y < 4294967296) : 0 ≤ x * y ∧ x * y ≤ 18446744065119617025 := by
  refine ⟨Int.mul_nonneg x0 y0, ?_⟩
  have := Int.mul_le_mul (show x ≤ 4294967295 by omega) (show y ≤ 4294967295 by omega) y0 (by decide)
  omega

theorem wu32_sub {z : Int} (_ : -4294967296 < z) : IntKind.u32.wrap z = z % 4294967296 := by simp [IntKind.wrap, IntKind.signed, IntKind.bits]
theorem wu32_sub2 {x y c : Int} (_ : 0 ≤ c) : IntKind.u32.wrap ((x - y) % 4294967296 - c) = (x - y - c) % 4294967296 := by simp [IntKind.wrap, IntKind.signed, IntKind.bits]
theorem wquo {z y : Int} (h0 : 0 ≤ z) (hy : 0 < y) (h1 : 0 ≤ z / y ∧ z / y < 4294967296) : IntKind.u64.wrap (z.tdiv y) = z / y := by
  rw [Int.tdiv_eq_ediv_of_nonneg h0, wu64 h1.1 (by omega)]
theorem div_small {h l y : Int} (h0 : 0 ≤ h) (l0 : 0 ≤ l) (l1 : l < 4294967296) (hlt : h < y) : (0 ≤ (h * 4294967296 + l) / y ∧ (h * 4294967296 + l) / y < 4294967296) ∧ 0 ≤ (h * 4294967296 + l) % y ∧ (h * 4294967296 + l) % y < y := by
  have hy : 0 < y := by omega
  refine ⟨⟨Int.ediv_nonneg (by omega) (by omega), ?_⟩, Int.emod_nonneg _ (by omega), Int.emod_lt_of_pos _ hy⟩
  refine Int.ediv_lt_of_lt_mul hy ?_
  have : (h + 1) * 4294967296 ≤ y * 4294967296 := Int.mul_le_mul_of_nonneg_right (by omega) (by decide)
  omega

/-! ### Ways that meet; function values -/
theorem JC.join1 {α : Type} {x y : Code} (G : α → Gam) (HH : α → Hp) (inv : α → Prop) (h1 : JC X x (Exit.then (fun a w => ∃ i, inv i ∧ Sat X (G i) (HH i) a w) Q) Γ H) (h2 : ∀ i, inv i → JC X y Q (G i) (HH i)) : JC X (.seq x y) Q Γ H :=
  JC.seq fun a w hs => then_mono (fun a w ⟨i, hi, hs⟩ => h2 i hi a w hs) (h1 a w hs)
theorem JQ.join1 {α : Type} {G : α → Gam} {HH : α → Hp} {inv : α → Prop} (i : α) (hi : inv i) (hs : ∀ a w, Sat X Γ H a w → Sat X (G i) (HH i) a w) : JQ X (Exit.then (fun a w => ∃ i, inv i ∧ Sat X (G i) (HH i) a w) Q) .normal Γ H := fun a w h => ⟨i, hi, hs a w h⟩
theorem JC.join2 {α β : Type} {x y : Code} (G : α → β → Gam) (HH : α → β → Hp) (inv : α → β → Prop) (h1 : JC X x (Exit.then (fun a w => ∃ i j, inv i j ∧ Sat X (G i j) (HH i j) a w) Q) Γ H) (h2 : ∀ i j, inv i j → JC X y Q (G i j) (HH i j)) : JC X (.seq x y) Q Γ H :=
  JC.seq fun a w hs => then_mono (fun a w ⟨i, j, hi, hs⟩ => h2 i j hi a w hs) (h1 a w hs)
theorem JQ.join2 {α β : Type} {G : α → β → Gam} {HH : α → β → Hp} {inv : α → β → Prop} (i : α) (j : β) (hi : inv i j) (hs : ∀ a w, Sat X Γ H a w → Sat X (G i j) (HH i j) a w) : JQ X (Exit.then (fun a w => ∃ i j, inv i j ∧ Sat X (G i j) (HH i j) a w) Q) .normal Γ H := fun a w h => ⟨i, j, hi, hs a w h⟩
theorem JC.join3 {α β γ : Type} {x y : Code} (G : α → β → γ → Gam) (HH : α → β → γ → Hp) (inv : α → β → γ → Prop) (h1 : JC X x (Exit.then (fun a w => ∃ i j k, inv i j k ∧ Sat X (G i j k) (HH i j k) a w) Q) Γ H) (h2 : ∀ i j k, inv i j k → JC X y Q (G i j k) (HH i j k)) : JC X (.seq x y) Q Γ H :=
  JC.seq fun a w hs => then_mono (fun a w ⟨i, j, k, hi, hs⟩ => h2 i j k hi a w hs) (h1 a w hs)
theorem JQ.join3 {α β γ : Type} {G : α → β → γ → Gam} {HH : α → β → γ → Hp} {inv : α → β → γ → Prop} (i : α) (j : β) (k : γ) (hi : inv i j k) (hs : ∀ a w, Sat X Γ H a w → Sat X (G i j k) (HH i j k) a w) : JQ X (Exit.then (fun a w => ∃ i j k, inv i j k ∧ Sat X (G i j k) (HH i j k) a w) Q) .normal Γ H := fun a w h => ⟨i, j, k, hi, hs a w h⟩

theorem ot_makeFunc1 {f : FuncId} {u : Value} {x : Operand} (hx : OpT Γ x (tIs u)) : OpTy X Γ H ⟨dst, .makeFunc (.func f) #[] #[x], ty, pos, af, gd⟩ (tFn f [u]) :=
  opTy_run fun a w hs => by
    have h1 : a.eval x = u := hx.ev hs (mem_slots (by simp [Op.operands]))
    exact ⟨_, w, by simp [execOp, h1, Instr.makeFunc], Below.refl _ _, rfl⟩

def AllL (Γ : Gam) (T : Ty) : List Nat → Prop
  | [] => True
  | t :: ts => look Γ t = some T ∧ AllL Γ T ts
theorem AllL.spec {Γ : Gam} {T : Ty} : ∀ {ts : List Nat}, AllL Γ T ts → ∀ t ∈ ts, look Γ t = some T
  | [], _, t, h => by cases h
  | t0 :: ts, h, t, ht => by
    cases ht with
    | head => exact h.1
    | tail _ ht => exact AllL.spec h.2 t ht
/-- The slots ts hold the own row b, whole: from here on it is read alone. -/
theorem sub_freeze0 {α : Type} {E : Enc α} {xs : List α} {b e cap c n : Nat} {H' : Hp} (ts : List Nat) (hts : AllL Γ (sIs b 0 n c) ts) (hr : HRem ⟨b, e, cRow E xs cap⟩ H H') (hn : n = xs.length) (hc : n ≤ c ∨ cap ≤ c) :
    ∀ a w, Sat X Γ H a w → Sat X (setTs Γ (tSl E xs) ts) H' a w := by
  have h := sub_freeze (X := X) (E := E) (k := 0) (n := n) (c := c) ts (by rw [Nat.zero_mul]; exact hts.spec) hr (by omega) hc
  rw [List.drop_zero, hn, List.take_length] at h
  exact h
theorem cTs_eq1 {T T' : Ty} (h : T = T') : ∀ cs s, (cTs [T]).p cs s → (cTs [T']).p cs s := fun _ _ q => h ▸ q

theorem cRow_eq {α : Type} {E : Enc α} {xs ys : List α} {cap : Nat} (h : xs = ys) : ∀ cs s, (cRow E xs cap).p cs s → (cRow E ys cap).p cs s := fun _ _ q => h ▸ q
/-- The elements of a row are digits. -/
theorem rowP_encD {xs : List Nat} {cap : Nat} {cs : List Value} {s : St} (h : (cRow encD xs cap).p cs s) : Digs xs := fun d hd => by
  obtain ⟨i, hi⟩ := List.mem_iff_getElem?.1 hd
  exact (h.2.2 i d hi).2

end Go.Rt
