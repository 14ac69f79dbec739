/- Plain mathematics: long division by several digits, as the walk asks it. Conditions: none. -/
import Derived.Test.YtkpmcldbcljkfaaPlL
set_option linter.unusedVariables false
set_option linter.unusedSimpArgs false
namespace Go.Rt
open Go Go.RowKit

/-- What the walk knows of the guess: V the divisor, w the part of the dividend that it is taken from, t its two highest digits, x the next one. -/
structure GK (V w E top nx u2 u3 : Nat) : Prop where
  hV : (top * 4294967296 + nx) * E ≤ V
  hV2 : V < (top * 4294967296 + nx + 1) * E
  hw : (u2 * 4294967296 + u3) * E ≤ w
  hw2 : w < (u2 * 4294967296 + u3 + 1) * E
  hq : w < V * 4294967296
  ht : 0 < top
  hE : 0 < E
  hn : nx < 4294967296
  h3 : u3 < 4294967296
structure GInv (V w top u2 g rest : Nat) : Prop where
  eq : g * top + rest = u2
  hr : rest < 4294967296
  lo : w < (g + 1) * V
section
variable {V w E top nx u2 u3 g rest : Nat}
theorem GInv.start (h : GK V w E top nx u2 u3) (htop : top < 4294967296) : GInv V w top u2 (u2 / top) (u2 % top) := by
  have hm := Nat.mod_lt u2 h.ht
  have e := Nat.div_add_mod u2 top
  refine ⟨by rw [Nat.mul_comm]; exact e, by omega, ?_⟩
  have h1 : u2 + 1 ≤ (u2 / top + 1) * top := by rw [Nat.add_mul, Nat.mul_comm (u2 / top)]; omega
  have h2 : u2 * 4294967296 + u3 + 1 ≤ (u2 + 1) * 4294967296 := by have := h.h3; omega
  have h3 := Nat.mul_le_mul_right E (Nat.le_trans h2 (Nat.mul_le_mul_right 4294967296 h1))
  have h4 : (u2 / top + 1) * top * 4294967296 * E ≤ (u2 / top + 1) * V := by
    have h5 : top * 4294967296 * E ≤ V := Nat.le_trans (Nat.mul_le_mul_right E (Nat.le_add_right _ _)) h.hV
    have := Nat.mul_le_mul_left (u2 / top + 1) h5
    simpa [Nat.mul_assoc] using this
  have := h.hw2
  omega
theorem GInv.pos (h : GK V w E top nx u2 u3) (hi : GInv V w top u2 g rest) (hc : 4294967296 ≤ g ∨ rest * 4294967296 + u3 < g * nx) : 1 ≤ g ∧ w < (g - 1 + 1) * V := by
  have h1 := guess_big hi.eq h.hV h.hw2 h.hq hc
  rcases Nat.eq_zero_or_pos g with q | q
  · subst q; omega
  · exact ⟨q, by rw [Nat.sub_add_cancel q]; exact h1⟩
theorem GInv.next (h : GK V w E top nx u2 u3) (hi : GInv V w top u2 g rest) (hc : 4294967296 ≤ g ∨ rest * 4294967296 + u3 < g * nx) (hr : rest + top < 4294967296) : GInv V w top u2 (g - 1) (rest + top) := by
  obtain ⟨h1, h2⟩ := hi.pos h hc
  refine ⟨?_, hr, h2⟩
  obtain ⟨f, rfl⟩ : ∃ f, g = f + 1 := ⟨g - 1, by omega⟩
  have := hi.eq
  rw [Nat.add_mul] at this
  rw [Nat.add_sub_cancel]; omega
/-- The guess is right or one too great. -/
structure GOk (V w g : Nat) : Prop where
  lt : g < 4294967296
  lo : w < (g + 1) * V
  up : g * V < w + V
theorem GInv.stop (h : GK V w E top nx u2 u3) (hi : GInv V w top u2 g rest) (hg : g < 4294967296) (hc : ¬ rest * 4294967296 + u3 < g * nx) : GOk V w g :=
  ⟨hg, hi.lo, guess_ok hi.eq h.hV h.hV2 h.hw h.ht h.hE hg (by omega)⟩
theorem GInv.brk (h : GK V w E top nx u2 u3) (hi : GInv V w top u2 g rest) (hc : 4294967296 ≤ g ∨ rest * 4294967296 + u3 < g * nx) (hr : 4294967296 ≤ rest + top) : GOk V w (g - 1) := by
  obtain ⟨h1, h2⟩ := hi.pos h hc
  have e : (g - 1) * top + (rest + top) = u2 := by
    obtain ⟨f, rfl⟩ : ∃ f, g = f + 1 := ⟨g - 1, by omega⟩
    have := hi.eq
    rw [Nat.add_mul] at this
    rw [Nat.add_sub_cancel]; omega
  have hlt := guess_lt e (guess_u2 h.hV2 h.hw h.hq h.hn h.hE) hr
  exact ⟨hlt, h2, guess_ok e h.hV h.hV2 h.hw h.ht h.hE hlt (guess_brk h.hn hlt hr)⟩
end

section
variable {a0 : Nat} {v u q : List Nat} {n m k : Nat}
theorem KInv.gk (h : KInv a0 v u q n m (k + 1)) (h2 : 2 ≤ n) (hv : v.length = n) (hd : Digs v) (ht : 0 < v.getD (n - 1) 0) :
    GK (val v) (val (u.drop k)) (B32 ^ (n - 2)) (v.getD (n - 1) 0) (v.getD (n - 2) 0) (u.getD (k + n) 0 * 4294967296 + u.getD (k + n - 1) 0) (u.getD (k + n - 2) 0) := by
  obtain ⟨l, rfl⟩ : ∃ l, n = l + 2 := ⟨n - 2, by omega⟩
  have h3 := val_v hv hd
  have h4 := h.w hv hd
  rw [show k + (l + 2) - 1 = k + l + 1 by omega, show k + (l + 2) - 2 = k + l by omega, show l + 2 - 1 = l + 1 by omega, show l + 2 - 2 = l by omega] at *
  exact ⟨h3.1, h3.2, h4.1, h4.2, h.w_lt, ht, pow_pos' l, digs_at hd l, digs_at h.du (k + l)⟩
theorem KInv.u2_lt (h : KInv a0 v u q n m (k + 1)) : u.getD (k + n) 0 * 4294967296 + u.getD (k + n - 1) 0 < 18446744073709551616 := by
  have h1 := digs_at h.du (k + n)
  have h2 := digs_at h.du (k + n - 1)
  omega

/-- The two ways in which a digit ends. -/
theorem KInv.yes (h : KInv a0 v u q n m (k + 1)) (hv : v.length = n) (hp : 0 < val v) {g c b : Nat} {U : List Nat} (hg : GOk (val v) (val (u.drop k)) g) (hM : MInv u v g k v.length U c b)
    (hz : tN (U.getD (k + n) 0) (b + c) / 9223372036854775808 = 0) : KInv a0 v (U.set (k + n) (tN (U.getD (k + n) 0) (b + c) % 4294967296)) (q.set k g) n m k := by
  have hlu := h.lu
  have hk := h.hk
  subst hv
  have e := hM.top (by omega)
  rw [hz, Nat.mul_zero, Nat.add_zero] at e
  have hQ := K_yes h e hg.lo hp
  exact h.step (by simp [hM.lU]) (digs_set hM.dU (Nat.mod_lt _ (by decide))) hQ e hp
theorem KInv.no (h : KInv a0 v u q n m (k + 1)) (hv : v.length = n) (hd : Digs v) (hp : 0 < val v) {g c b s : Nat} {U W : List Nat} (hg : GOk (val v) (val (u.drop k)) g) (hM : MInv u v g k v.length U c b)
    (hz : ¬ tN (U.getD (k + n) 0) (b + c) / 9223372036854775808 = 0) (hA : AInv (U.set (k + n) (tN (U.getD (k + n) 0) (b + c) % 4294967296)) v k v.length W s) :
    KInv a0 v (W.set (k + n) ((W.getD (k + n) 0 + s) % 4294967296)) ((q.set k g).set k (g - 1)) n m k := by
  have hlu := h.lu
  have hk := h.hk
  subst hv
  have e := hM.top (by omega)
  have hb := hM.hb
  have hc := hM.hc
  have hz1 : tN (U.getD (k + v.length) 0) (b + c) / 9223372036854775808 = 1 := by
    have := (tN_lt (digs_at hM.dU (k + v.length)) (show b + c ≤ 4294967296 by omega)).2
    omega
  rw [hz1, Nat.mul_one] at e
  have hU2d : Digs (U.set (k + v.length) (tN (U.getD (k + v.length) 0) (b + c) % 4294967296)) := digs_set hM.dU (Nat.mod_lt _ (by decide))
  have hU2l : (U.set (k + v.length) (tN (U.getD (k + v.length) 0) (b + c) % 4294967296)).length = u.length := by simp [hM.lU]
  obtain ⟨h1, h2, h3⟩ := K_no h rfl hd hU2l hU2d (fun t ht => by rw [digD_set, if_neg (by omega)]; exact hM.same t (by omega)) e hg.up hp
  have hsplit := val_cut u (j := k) (by omega)
  have ht := val_take_lt h.du k
  have hmod := Nat.mod_lt (val (u.drop k)) hp
  have hdm := Nat.div_add_mod (val (u.drop k)) (val v)
  rw [← h2] at hdm
  have hVlt := val_lt hd
  have hx : B32 ^ k * val (u.drop k) = (g - 1) * val v * B32 ^ k + val (u.drop k) % val v * B32 ^ k := by rw [← hdm]; grind
  have hy : (val (u.drop k) % val v + 1) * B32 ^ k ≤ val v * B32 ^ k := Nat.mul_le_mul_right _ hmod
  rw [Nat.add_mul] at hy
  have hw : val v * B32 ^ k < B32 ^ (k + v.length) := by
    rw [Nat.pow_add, Nat.mul_comm]; exact Nat.mul_lt_mul_of_pos_left hVlt (pow_pos' k)
  have hge : (g - 1) * val v * B32 ^ k ≤ val u := by omega
  have hlt : val u < (g - 1) * val v * B32 ^ k + B32 ^ (k + v.length) := by omega
  have hfin := hA.top (g := g - 1) (by rw [hU2l]; omega) (by rw [Nat.sub_add_cancel h1]; exact e) hlt hge h3
  have hset : (q.set k g).set k (g - 1) = q.set k (g - 1) := by rw [List.set_set]
  rw [hset]
  exact h.step (by simp [hA.lU, hM.lU]) (digs_set hA.dU (Nat.mod_lt _ (by decide))) h2 hfin hp

theorem KInv.done (h : KInv a0 v u q n m 0) (hv : v.length = n) (hd : Digs v) : val q = a0 / val v ∧ val u = a0 % val v ∧ val (u.take n) = val u := by
  have e := h.eq
  have hl := h.lt
  rw [Nat.pow_zero, Nat.mul_one] at hl
  have h1 : a0 / val v = val q := Nat.div_eq_of_lt_le (by rw [Nat.mul_comm]; omega) (by rw [Nat.add_mul, Nat.mul_comm]; omega)
  have h2 := Nat.div_add_mod a0 (val v)
  rw [h1] at h2
  refine ⟨h1.symm, by omega, ?_⟩
  have h3 := val_cut u (j := n) (by have := h.lu; omega)
  have h4 := val_lt hd
  rw [hv] at h4
  rcases Nat.eq_zero_or_pos (val (u.drop n)) with q' | q'
  · rw [q'] at h3; omega
  · have : B32 ^ n * 1 ≤ B32 ^ n * val (u.drop n) := Nat.mul_le_mul_left _ q'
    omega
end

/-! ### The beginning -/
theorem top_pos {b : List Nat} (hd : Digs b) (h : 0 < (trimD b).length) : 0 < (trimD b).getD ((trimD b).length - 1) 0 := by
  have h1 := trimD_eq hd
  have key : ∀ (ds : List Nat), 0 < ds.length → dig (val ds) = ds → Digs ds → 0 < ds.getD (ds.length - 1) 0 := by
    intro ds hl he hdd
    rcases list_snoc ds with rfl | ⟨xs, d, rfl⟩
    · simp at hl
    · rcases Nat.eq_zero_or_pos d with q | q
      · exfalso
        subst q
        have h2 : val (xs ++ [0]) = val xs := val_snoc0 xs
        have h3 : (dig (val xs)).length ≤ xs.length := dig_length_le fun x hx => hdd x (by simp [hx])
        rw [← h2, he] at h3; simp at h3; omega
      · simpa using q
  exact key _ h (by rw [h1, val_dig]) (digs_trimD hd)
theorem shl_len {b : List Nat} (hd : Digs b) (h : 0 < (trimD b).length) {s : Nat} (hs : s = 32 - bl ((trimD b).getD ((trimD b).length - 1) 0)) : (dig (val (trimD b) * 2 ^ s)).length = (trimD b).length ∧ s < 32 := by
  have qd := digs_trimD hd
  have ht := top_pos hd h
  have htl := digs_at qd ((trimD b).length - 1)
  have hb1 := bl_le htl
  have hb2 := bl_lt (n := (trimD b).getD ((trimD b).length - 1) 0)
  refine ⟨Nat.le_antisymm (dig_len_pow ?_) ?_, by omega⟩
  · have e := val_cut (trimD b) (j := (trimD b).length - 1) (by omega)
    rw [val_drop1, show (trimD b).length - 1 + 1 = (trimD b).length by omega, List.drop_length] at e
    simp only [val, Nat.mul_zero, Nat.add_zero] at e
    have hl := val_take_lt qd ((trimD b).length - 1)
    have h1 : val (trimD b) < ((trimD b).getD ((trimD b).length - 1) 0 + 1) * B32 ^ ((trimD b).length - 1) := by
      rw [Nat.add_mul, Nat.mul_comm ((trimD b).getD ((trimD b).length - 1) 0)]; omega
    have h2 : ((trimD b).getD ((trimD b).length - 1) 0 + 1) * 2 ^ s ≤ 4294967296 := by
      have : ((trimD b).getD ((trimD b).length - 1) 0 + 1) * 2 ^ s ≤ 2 ^ bl ((trimD b).getD ((trimD b).length - 1) 0) * 2 ^ s := Nat.mul_le_mul_right _ hb2
      rw [← Nat.pow_add, show bl ((trimD b).getD ((trimD b).length - 1) 0) + s = 32 by omega] at this
      exact this
    have h3 : val (trimD b) * 2 ^ s < ((trimD b).getD ((trimD b).length - 1) 0 + 1) * B32 ^ ((trimD b).length - 1) * 2 ^ s := Nat.mul_lt_mul_of_pos_right h1 (Nat.pow_pos (by decide))
    have h4 : ((trimD b).getD ((trimD b).length - 1) 0 + 1) * B32 ^ ((trimD b).length - 1) * 2 ^ s = ((trimD b).getD ((trimD b).length - 1) 0 + 1) * 2 ^ s * B32 ^ ((trimD b).length - 1) := by grind
    have h5 := Nat.mul_le_mul_right (B32 ^ ((trimD b).length - 1)) h2
    have h6 : 4294967296 * B32 ^ ((trimD b).length - 1) = B32 ^ (trimD b).length := by
      conv => rhs; rw [show (trimD b).length = (trimD b).length - 1 + 1 by omega, Nat.pow_succ]
      exact Nat.mul_comm ..
    omega
  · have h1 : (dig (val (trimD b))).length = (trimD b).length := by rw [val_trimD hd, ← trimD_eq hd]
    rw [← h1]
    have h2 : 1 ≤ 2 ^ s := Nat.pow_pos (by decide)
    exact dig_len_mono (by have := Nat.mul_le_mul_left (val (trimD b)) h2; omega)
theorem dig_top {n : Nat} (h : n ≠ 0) : B32 ^ ((dig n).length - 1) ≤ n := by
  rcases Nat.lt_or_ge n (B32 ^ ((dig n).length - 1)) with q | q
  · exfalso
    have := dig_len_pow q
    have h1 : 0 < (dig n).length := by rw [dig_pos h]; simp
    omega
  · exact q
theorem KInv.start {x : Nat} {v : List Nat} (hv : 0 < val v) (hd : Digs v) (hvd : v = dig (val v)) (hge : v.length ≤ (dig x).length) : KInv x v (dig x ++ [0]) (List.replicate ((dig x).length + 1 - v.length) 0) v.length ((dig x).length + 1 - v.length) ((dig x).length + 1 - v.length) := by
  refine ⟨by simp; omega, by simp, digs_snoc0 (digs_dig x), digs_rep _, Nat.le_refl _, by rw [val_rep, val_snoc0, val_dig]; simp, ?_, fun i _ => getD_rep _ _⟩
  rw [val_snoc0, val_dig]
  have h1 := lt_dig_len x
  have h2 := dig_top (n := val v) (by omega)
  rw [← hvd] at h2
  have h0 : 0 < v.length := by
    rcases Nat.eq_zero_or_pos v.length with q | q
    · have := List.eq_nil_of_length_eq_zero q; subst this; simp [val] at hv
    · exact q
  have h3 : B32 ^ (dig x).length ≤ val v * B32 ^ ((dig x).length + 1 - v.length) := by
    have h4 := Nat.mul_le_mul_right (B32 ^ ((dig x).length + 1 - v.length)) h2
    rw [← Nat.pow_add, show v.length - 1 + ((dig x).length + 1 - v.length) = (dig x).length by omega] at h4
    exact h4
  omega
theorem div_scale {a b T : Nat} (hT : 0 < T) : a * T / (b * T) = a / b ∧ a * T % (b * T) / T = a % b := by
  refine ⟨Nat.mul_div_mul_right a b hT, ?_⟩
  rw [Nat.mul_mod_mul_right, Nat.mul_div_cancel _ hT]

/-! ### Machine words -/
theorem or_halvesN {x y : Nat} (hx : x < 4294967296) (hy : y < 4294967296) : bitsOf .or .u64 ((x : Int) * 4294967296) (y : Int) = ((x * 4294967296 + y : Nat) : Int) := by
  rw [or_halvesI (by omega) (by omega) (by omega) (by omega)]; omega
theorem shl32N {z : Nat} (h : z < 4294967296) : IntKind.u64.wrap ((z : Int) * 2 ^ (min (32 : Int).toNat 64)) = (z : Int) * 4294967296 := shl32_u64 (by omega) (by omega)
theorem w_mul64 {x y : Nat} (hx : x < 4294967296) (hy : y < 4294967296) : IntKind.u64.wrap ((x : Int) * (y : Int)) = ((x * y : Nat) : Int) := by
  have h1 : x * y ≤ 4294967295 * 4294967295 := Nat.mul_le_mul (by omega) (by omega)
  have h2 : (x : Int) * (y : Int) = ((x * y : Nat) : Int) := by simp
  rw [h2]; exact wu64 (Int.natCast_nonneg _) (by omega)
theorem w_add64 {x y : Nat} (h : x + y < 18446744073709551616) : IntKind.u64.wrap ((x : Int) + (y : Int)) = ((x + y : Nat) : Int) := by
  rw [wu64 (by omega) (by omega)]; omega
theorem w_sub1 {x : Nat} (h : 1 ≤ x) (h2 : x < 18446744073709551616) : IntKind.u64.wrap ((x : Int) - 1) = ((x - 1 : Nat) : Int) := by
  rw [wu64 (by omega) (by omega)]; omega
theorem w_sub1' {x : Nat} (h : 1 ≤ x) (h2 : x < 4294967296) : IntKind.u32.wrap ((x : Int) - 1) = ((x - 1 : Nat) : Int) := by
  rw [wu32 (by omega) (by omega)]; omega
theorem w_shr32 {x : Nat} : ((x : Int)).fdiv (2 ^ (min (32 : Int).toNat 64)) = ((x / 4294967296 : Nat) : Int) := by
  have e : ((2 : Int) ^ (min (32 : Int).toNat 64)) = 4294967296 := by decide
  rw [e, Int.fdiv_eq_ediv_of_nonneg _ (by decide)]; omega
theorem w_shr63 {x : Nat} : ((x : Int)).fdiv (2 ^ (min (63 : Int).toNat 64)) = ((x / 9223372036854775808 : Nat) : Int) := by
  have e : ((2 : Int) ^ (min (63 : Int).toNat 64)) = 9223372036854775808 := by decide
  rw [e, Int.fdiv_eq_ediv_of_nonneg _ (by decide)]; omega
theorem w_and32 {x : Nat} (hx : x < 18446744073709551616) : bitsOf .and .u64 (x : Int) 4294967295 = ((x % 4294967296 : Nat) : Int) := by
  have h1 : x &&& 4294967295 = x % 4294967296 := Nat.and_two_pow_sub_one_eq_mod x 32
  have e : bitsOf .and .u64 (x : Int) 4294967295 = IntKind.u64.wrap ((BitVec.ofNat 64 x &&& BitVec.ofNat 64 4294967295).toNat : Int) := by
    have : (4294967295 : Int) = ((4294967295 : Nat) : Int) := rfl
    rw [this]; simp only [bitsOf, BitVec.ofInt_natCast]; rfl
  rw [e, BitVec.toNat_and, BitVec.toNat_ofNat, BitVec.toNat_ofNat, Nat.mod_eq_of_lt (by simpa using hx), Nat.mod_eq_of_lt (by decide), h1]
  exact wu64 (by omega) (by omega)
theorem w_tN {a b p : Nat} (ha : a < 4294967296) (hs : b + p ≤ 4294967296) : IntKind.u64.wrap (IntKind.u64.wrap ((a : Int) - (b : Int)) - (p : Int)) = ((tN a (b + p) : Nat) : Int) := by
  have e : ∀ z : Int, IntKind.u64.wrap z = z % 18446744073709551616 := fun z => by simp [IntKind.wrap, IntKind.signed, IntKind.bits]
  rw [e, e]
  unfold tN
  split <;> omega
theorem w_mod32 {x : Nat} : IntKind.u32.wrap (x : Int) = ((x % 4294967296 : Nat) : Int) := by rw [wu32_mod (by omega)]; omega
theorem w_addmod {a s : Nat} : IntKind.u32.wrap ((a : Int) + (s : Int)) = (((a + s) % 4294967296 : Nat) : Int) := by rw [wu32_mod (by omega)]; omega
theorem K_g64 {V w top u2 g r : Nat} (h : GInv V w top u2 g r) (ht : 0 < top) (hu : u2 < 18446744073709551616) : g < 18446744073709551616 := by
  have := h.eq
  have h1 : g * 1 ≤ g * top := Nat.mul_le_mul_left _ ht
  omega
theorem K_gpos {a0 n m k g c b : Nat} {v u q U : List Nat} (h : KInv a0 v u q n m (k + 1)) (hv : v.length = n) (hd : Digs v) (hp : 0 < val v) (hg : GOk (val v) (val (u.drop k)) g) (hM : MInv u v g k v.length U c b)
    (hz : ¬ tN (U.getD (k + n) 0) (b + c) / 9223372036854775808 = 0) : 1 ≤ g := by
  have hlu := h.lu
  have hk := h.hk
  subst hv
  have e := hM.top (by omega)
  rcases Nat.eq_zero_or_pos g with q0 | q0
  · exfalso
    subst q0
    have hb := hM.hb
    have hc := hM.hc
    have hz1 : tN (U.getD (k + v.length) 0) (b + c) / 9223372036854775808 = 1 := by
      have := (tN_lt (digs_at hM.dU (k + v.length)) (show b + c ≤ 4294967296 by omega)).2
      omega
    rw [hz1, Nat.mul_one] at e
    have := K_no h rfl hd (by simp [hM.lU]) (digs_set hM.dU (Nat.mod_lt _ (by decide))) (fun t ht => by rw [digD_set, if_neg (by omega)]; exact hM.same t (by omega)) e hg.up hp
    omega
  · exact q0
theorem set_at {xs : List Nat} {k d : Nat} (h : k < xs.length) : (xs.set k d)[k]? = some d := by simp [h]
theorem shl_dig_len {a : List Nat} {s : Nat} (hd : Digs a) (hs : s < 32) : (dig (val a * 2 ^ s)).length ≤ a.length + 1 := by
  refine dig_len_pow ?_
  have h1 := val_lt hd
  have h2 := pow_s_lt hs
  have h3 : val a * 2 ^ s ≤ val a * 4294967296 := Nat.mul_le_mul_left _ (Nat.le_of_lt h2)
  have h4 : val a * 4294967296 < B32 ^ a.length * 4294967296 := Nat.mul_lt_mul_of_pos_right h1 (by decide)
  rw [Nat.pow_succ]; exact Nat.lt_of_le_of_lt h3 h4
theorem dig_top_pos {n : Nat} (h : n ≠ 0) : 0 < (dig n).getD ((dig n).length - 1) 0 := by
  have h1 : trimD (dig n) = dig n := by rw [trimD_eq (digs_dig n), val_dig]
  have h2 := top_pos (b := dig n) (digs_dig n) (by rw [h1, dig_pos h]; simp)
  rw [h1] at h2; exact h2
theorem shl_cap {b : List Nat} {s : Nat} (hd : Digs (trimD b)) (hs : s < 32) : (dig (val (trimD b) * 2 ^ s)).length ≤ (trimD (trimD b)).length + 1 ∨ (trimD (trimD b)).length + 1 ≤ (trimD (trimD b)).length + 1 := .inr (Nat.le_refl _)
end Go.Rt
