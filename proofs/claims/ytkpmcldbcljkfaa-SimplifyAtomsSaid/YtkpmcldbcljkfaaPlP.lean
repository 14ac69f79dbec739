/- Plain mathematics: polynomials in recursive form, as the program's functions treat them. Conditions: none. -/
import Derived.Test.YtkpmcldbcljkfaaPlZ
import Derived.Test.YtkpmcldbcljkfaaRtK
set_option linter.unusedVariables false
set_option linter.unusedSimpArgs false
namespace Go.Rt
open Go Go.RowKit

/-- Without the last elements that are zero. -/
def trimB {α : Type} (z : α → Bool) (xs : List α) : List α := (xs.reverse.dropWhile z).reverse
theorem trimB_nil {α : Type} (z : α → Bool) : trimB z [] = [] := rfl
theorem trimB_zero {α : Type} {z : α → Bool} (xs : List α) {x : α} (h : z x = true) : trimB z (xs ++ [x]) = trimB z xs := by simp [trimB, h]
theorem trimB_pos {α : Type} {z : α → Bool} (xs : List α) {x : α} (h : z x = false) : trimB z (xs ++ [x]) = xs ++ [x] := by simp [trimB, h]

def z0 : Z := ⟨false, []⟩
def p0 : Pol := .mk 0 z0 []
def constP (n : Int) : Pol := .mk 0 (ofI n) []
theorem ofI_zero : ofI 0 = z0 := by simp [ofI, z0, dig_zero]
theorem constP_zero : constP 0 = p0 := by rw [constP, ofI_zero]; rfl
def atP (cs : List Pol) (i : Nat) : Pol := cs.getD i p0
theorem atP_some {cs : List Pol} {i : Nat} (h : i < cs.length) : cs[i]? = some (atP cs i) := by
  unfold atP; simp [List.getD_eq_getElem?_getD, List.getElem?_eq_getElem h]
theorem atP_at {cs : List Pol} {i : Int} {j : Nat} (h1 : i.toNat = j) (h2 : j < cs.length) : cs[i.toNat]? = some (atP cs j) := by subst h1; exact atP_some h2
theorem atP_mem {cs : List Pol} {i : Nat} (h : i < cs.length) : atP cs i ∈ cs := by
  have := atP_some h
  exact List.mem_of_getElem? this
theorem take_snocP {cs : List Pol} {n : Nat} (h0 : 0 < n) (h1 : n ≤ cs.length) : cs.take n = cs.take (n - 1) ++ [atP cs (n - 1)] := by
  have hlt : n - 1 < cs.length := by omega
  have := List.take_succ_eq_append_getElem (l := cs) (i := n - 1) hlt
  rw [show n - 1 + 1 = n by omega] at this
  rw [this, atP, List.getD_eq_getElem?_getD, List.getElem?_eq_getElem hlt]
  rfl

/-- Is a canonical polynomial 0? -/
def zeroP (p : Pol) : Bool := decide (p.lv = 0) && decide (zval p.c = 0)
theorem sgn_eq0 {n : Int} : decide (sgn n = 0) = decide (n = 0) := by
  rw [decide_eq_decide]; rcases sgn_cases n with q | q | q <;> omega
def trimP (cs : List Pol) : List Pol := trimB zeroP cs
theorem trimP_step {cs : List Pol} {n : Nat} (h0 : 0 < n) (h1 : n ≤ cs.length) (h : zeroP (atP cs (n - 1)) = true) : trimP (cs.take (n - 1)) = trimP (cs.take n) := by
  rw [take_snocP h0 h1, trimP, trimP, trimB_zero _ h]
theorem trimP_stop {cs : List Pol} {n : Nat} (h1 : n ≤ cs.length) (h : ¬ 0 < n ∨ zeroP (atP cs (n - 1)) = false) : trimP (cs.take n) = cs.take n := by
  by_cases h0 : 0 < n
  · rw [take_snocP h0 h1, trimP, trimB_pos _ (by rcases h with h | h; exact absurd h0 h; exact h)]
  · rw [show n = 0 by omega]; rfl

/-- The polynomial with these coefficients. -/
def joinP (l : Int) (cs : List Pol) : Pol := match trimP cs with
  | [] => p0
  | [p] => p
  | ps => .mk l z0 ps
theorem joinP_0 {l : Int} {cs : List Pol} {n : Nat} (h : trimP (cs.take n) = trimP cs) (h2 : trimP (cs.take n) = cs.take n) (hn : n = 0) : p0 = joinP l cs := by
  subst hn; unfold joinP; rw [← h]; rfl
theorem joinP_1 {l : Int} {cs : List Pol} {n : Nat} (h : trimP (cs.take n) = trimP cs) (h2 : trimP (cs.take n) = cs.take n) (hl : n ≤ cs.length) (hn : n = 1) : atP cs 0 = joinP l cs := by
  subst hn
  unfold joinP; rw [← h, h2, take_snocP (by decide) hl]; rfl
theorem joinP_2 {l : Int} {cs : List Pol} {n : Nat} (h : trimP (cs.take n) = trimP cs) (h2 : trimP (cs.take n) = cs.take n) (hl : n ≤ cs.length) (h0 : ¬ n = 0) (hn : ¬ n = 1) : Pol.mk l z0 (cs.take n) = joinP l cs := by
  unfold joinP; rw [← h, h2]
  match hc : cs.take n with
  | [] => have := congrArg List.length hc; rw [List.length_take, Nat.min_eq_left hl] at this; exact absurd this h0
  | [x] => have := congrArg List.length hc; rw [List.length_take, Nat.min_eq_left hl] at this; exact absurd this hn
  | x :: y :: r => rfl

def coefsP (p : Pol) (l : Int) : List Pol := if p.lv = l ∧ 0 < l then p.cs else [p]

/-- Every list in p is of a length that is looked at; B: the lengths of the numbers. -/
inductive Fit (B : Nat) : Pol → Prop
  | mk {l : Int} {c : Z} {cs : List Pol} (h0 : Digs c.abs) (h1 : c.abs.length ≤ B) (h2 : cs.length ≤ 4294967296) (h3 : ∀ q ∈ cs, Fit B q) : Fit B (.mk l c cs)
variable {B D : Nat}
theorem Fit.d {p : Pol} (h : Fit B p) : Digs p.c.abs := by cases h; assumption
theorem Fit.c {p : Pol} (h : Fit B p) : p.c.abs.length ≤ B := by cases h; assumption
theorem Fit.cs {p : Pol} (h : Fit B p) : p.cs.length ≤ 4294967296 := by cases h; assumption
theorem Fit.sub {p : Pol} (h : Fit B p) : ∀ q ∈ p.cs, Fit B q := by cases h; assumption
theorem Fit.at {p : Pol} (h : Fit B p) {i : Nat} (hi : i < p.cs.length) : Fit B (atP p.cs i) := h.sub _ (atP_mem hi)
theorem fit_p0 : Fit B p0 := .mk (fun d h => by cases h) (Nat.zero_le _) (Nat.zero_le _) (fun q h => by cases h)
theorem fit_const {n : Int} (h : (dig n.natAbs).length ≤ B) : Fit B (constP n) := .mk (digs_dig _) h (Nat.zero_le _) (fun q h => by cases h)
theorem trimB_sub {α : Type} {z : α → Bool} {xs : List α} {x : α} (h : x ∈ trimB z xs) : x ∈ xs := by
  have := (List.dropWhile_sublist z (l := xs.reverse)).subset (List.mem_reverse.1 h)
  exact List.mem_reverse.1 this
theorem trimB_len {α : Type} {z : α → Bool} {xs : List α} : (trimB z xs).length ≤ xs.length := by
  have := (List.dropWhile_sublist z (l := xs.reverse)).length_le
  simpa [trimB] using this
theorem joinP_cases {C : Pol → Prop} {l : Int} {cs : List Pol} (h0 : C p0) (h1 : ∀ q ∈ cs, C q) (h2 : 2 ≤ (trimP cs).length → C (.mk l z0 (trimP cs))) : C (joinP l cs) := by
  unfold joinP
  split
  · exact h0
  · rename_i p h; exact h1 _ (trimB_sub (z := zeroP) (by show p ∈ trimP cs; rw [h]; simp))
  · rename_i h h'
    refine h2 ?_
    match hc : trimP cs with
    | [] => exact absurd hc h
    | [x] => exact absurd hc (h' x)
    | x :: y :: r => simp
theorem joinP_fit {l : Int} {cs : List Pol} (hl : cs.length ≤ 4294967296) (h : ∀ q ∈ cs, Fit B q) : Fit B (joinP l cs) :=
  joinP_cases fit_p0 h fun _ => .mk (fun d h => by cases h) (Nat.zero_le _) (Nat.le_trans trimB_len hl) (fun q hq => h q (trimB_sub hq))

theorem val_pow {z : Z} (h : Digs z.abs) : (zval z).natAbs < B32 ^ z.abs.length := by
  have := val_lt h
  have e : (zval z).natAbs = val z.abs := by unfold zval; split <;> simp
  rw [e]; exact this
theorem dig_zval {z : Z} (h : Digs z.abs) : (dig (zval z).natAbs).length ≤ z.abs.length := dig_len_pow (val_pow h)
theorem natAbs_dig (n : Int) : n.natAbs < B32 ^ (dig n.natAbs).length := lt_dig_len _
theorem pow_mono {a b : Nat} (h : a ≤ b) : B32 ^ a ≤ B32 ^ b := Nat.pow_le_pow_right (by decide) h
theorem mul_fit {a b : Int} (ha : (dig a.natAbs).length ≤ B) (hb : (dig b.natAbs).length ≤ D) : (dig (a * b).natAbs).length ≤ B + D := by
  refine dig_len_pow ?_
  rw [Int.natAbs_mul, Nat.pow_add]
  have h1 := Nat.lt_of_lt_of_le (natAbs_dig a) (pow_mono ha)
  have h2 := Nat.lt_of_lt_of_le (natAbs_dig b) (pow_mono hb)
  exact Nat.mul_lt_mul'' h1 h2
theorem add_fit {a b : Int} (ha : (dig a.natAbs).length ≤ B) (hb : (dig b.natAbs).length ≤ B) : (dig (a + b).natAbs).length ≤ B + 1 := by
  refine dig_len_pow ?_
  have h1 := Nat.lt_of_lt_of_le (natAbs_dig a) (pow_mono ha)
  have h2 := Nat.lt_of_lt_of_le (natAbs_dig b) (pow_mono hb)
  have h3 : (a + b).natAbs ≤ a.natAbs + b.natAbs := Int.natAbs_add_le a b
  rw [Nat.pow_succ]
  generalize B32 ^ B = P at *
  have h4 : P * 2 ≤ P * B32 := Nat.mul_le_mul_left _ (by decide)
  omega

-- c times a polynomial
mutual
def scaleP : Pol → Int → Pol
  | .mk l c cs, n => if l = 0 then constP (zval c * n) else joinP l (scalesP cs n)
def scalesP : List Pol → Int → List Pol
  | [], _ => []
  | p :: ps, n => scaleP p n :: scalesP ps n
end
theorem scalesP_eq (n : Int) : ∀ cs, scalesP cs n = cs.map (scaleP · n)
  | [] => by simp [scalesP]
  | p :: ps => by simp [scalesP, scalesP_eq n ps]
theorem scaleP_eq (p : Pol) (n : Int) : scaleP p n = if p.lv = 0 then constP (zval p.c * n) else joinP p.lv (p.cs.map (scaleP · n)) := by
  cases p with
  | mk l c cs => rw [scaleP, scalesP_eq]; rfl

/-- A list whose first k elements are made. -/
def fillP (f : Pol → Pol) (cs : List Pol) (k : Nat) : List Pol := (cs.take k).map f ++ List.replicate (cs.length - k) p0
theorem fillP_len {f : Pol → Pol} {cs : List Pol} {k : Nat} (h : k ≤ cs.length) : (fillP f cs k).length = cs.length := by simp [fillP]; omega
theorem fillP_zero {f : Pol → Pol} {cs : List Pol} : List.replicate cs.length p0 = fillP f cs 0 := by simp [fillP]
theorem fillP_full {f : Pol → Pol} {cs : List Pol} {k : Nat} (h : cs.length ≤ k) : fillP f cs k = cs.map f := by
  simp [fillP, List.take_of_length_le h, Nat.sub_eq_zero_of_le h]
theorem fillP_set {f : Pol → Pol} {cs : List Pol} {k : Nat} (h : k < cs.length) : (fillP f cs k).set k (f (atP cs k)) = fillP f cs (k + 1) := by
  unfold fillP
  have e : cs.take (k + 1) = cs.take k ++ [atP cs k] := by
    have := take_snocP (cs := cs) (n := k + 1) (by omega) (by omega)
    simpa using this
  have hl : ((cs.take k).map f).length = k := by simp; omega
  rw [List.set_append_right _ _ (by omega), hl, Nat.sub_self, e, List.map_append, show cs.length - k = (cs.length - (k + 1)) + 1 by omega, List.replicate_succ]
  simp

/-- What holds for a polynomial if it holds for its coefficients holds for all. -/
theorem Pol.ind {C : Pol → Prop} (h : ∀ p, (∀ q ∈ p.cs, C q) → C p) : ∀ p, C p :=
  fun p => Pol.rec (motive_1 := C) (motive_2 := fun cs => ∀ q ∈ cs, C q) (fun l c cs ih => h _ ih) (fun q hq => by cases hq) (fun p ps hp hps q hq => by
    cases hq with
    | head => exact hp
    | tail _ hq => exact hps q hq) p

theorem scaleP_fit {p : Pol} {n : Int} (h : Fit B p) (hn : (dig n.natAbs).length ≤ D) : Fit (B + D) (scaleP p n) := by
  induction p using Pol.ind
  rename_i p ih
  rw [scaleP_eq]
  split
  · exact fit_const (mul_fit (Nat.le_trans (dig_zval h.d) h.c) hn)
  · refine joinP_fit (by simpa using h.cs) fun q hq => ?_
    obtain ⟨x, hx, rfl⟩ := List.mem_map.1 hq
    exact ih x hx (h.sub x hx)

theorem dig1 : dig 1 = [1] := by rw [dig_pos (by decide)]; simp [dig_zero, B32]
theorem ofI1_len : (ofI 1).abs.length = 1 := by simp [ofI, dig1]
theorem ofIm1_len : (ofI (-1)).abs.length = 1 := by simp [ofI, dig1]
def varP (l : Int) : Pol := if l < 1 ∨ 4 < l then p0 else .mk l z0 [p0, constP 1]
theorem encP_zero {s : St} : encP.C p0 (Value.agg #[.int .i64 0, .bool false, .slice none 0 0, .slice none 0 0]).cells.toList s := by
  refine ⟨by rw [polT_eq]; rfl, ?_⟩
  rw [polT_eq]
  exact ⟨rfl, rfl, rfl, rfl, slP_nil _ _, rfl, slP_nil _ _, rfl, trivial⟩

-- is p canonical, with a level below b?
mutual
def canonB : Pol → Int → Bool
  | .mk l c cs, b => if l = 0 then decide (cs.length = 0) && (!c.neg || !decide (zval c = 0))
    else !(decide (l < 0) || decide (b ≤ l) || decide (cs.length < 2) || !decide (zval c = 0)) && cansB cs l && !zeroP (atP cs (cs.length - 1))
def cansB : List Pol → Int → Bool
  | [], _ => true
  | p :: ps, b => canonB p b && cansB ps b
end
theorem cansB_eq (b : Int) : ∀ cs, cansB cs b = cs.all (canonB · b)
  | [] => by simp [cansB]
  | p :: ps => by simp [cansB, cansB_eq b ps]
theorem canonB_eq (p : Pol) (b : Int) : canonB p b = if p.lv = 0 then decide (p.cs.length = 0) && (!p.c.neg || !decide (zval p.c = 0))
    else !(decide (p.lv < 0) || decide (b ≤ p.lv) || decide (p.cs.length < 2) || !decide (zval p.c = 0)) && p.cs.all (canonB · p.lv) && !zeroP (atP p.cs (p.cs.length - 1)) := by
  cases p with
  | mk l c cs => rw [canonB, cansB_eq]; rfl
theorem canon_0 {p : Pol} {b : Int} (h : p.lv = 0) : (decide ((p.cs.length : Int) = 0) && (!p.c.neg || !decide (sgn (zval p.c) = 0))) = canonB p b := by
  rw [canonB_eq, if_pos h, sgn_eq0]; congr 1; rw [decide_eq_decide]; omega
theorem canon_no {p : Pol} {b : Int} (h : ¬ p.lv = 0) (h1 : ((p.lv < 0 ∨ b ≤ p.lv) ∨ (p.cs.length : Int) < 2) ∨ ¬ sgn (zval p.c) = 0) : false = canonB p b := by
  have h2 : (decide (p.lv < 0) || decide (b ≤ p.lv) || decide (p.cs.length < 2) || !decide (zval p.c = 0)) = true := by
    simp only [Bool.or_eq_true, Bool.not_eq_true', decide_eq_true_eq, decide_eq_false_iff_not]
    rcases h1 with ((h1 | h1) | h1) | h1
    · exact .inl (.inl (.inl h1))
    · exact .inl (.inl (.inr h1))
    · exact .inl (.inr (by omega))
    · exact .inr (fun h3 => h1 (by rw [h3]; rfl))
  rw [canonB_eq, if_neg h, h2]; rfl
theorem canon_sub {p : Pol} {b : Int} {k : Nat} (h : ¬ p.lv = 0) (hk : k < p.cs.length) (h1 : canonB (atP p.cs k) p.lv = false) : false = canonB p b := by
  have h2 : p.cs.all (canonB · p.lv) = false := by
    rw [List.all_eq_false]; exact ⟨atP p.cs k, atP_mem hk, by simp [h1]⟩
  rw [canonB_eq, if_neg h, h2, Bool.and_false]; rfl
theorem canon_end {p : Pol} {b : Int} {k : Nat} (h : ¬ p.lv = 0) (h1 : ((¬ p.lv < 0 ∧ ¬ b ≤ p.lv) ∧ ¬ (p.cs.length : Int) < 2) ∧ sgn (zval p.c) = 0) (hk : p.cs.length ≤ k) (h2 : (p.cs.take k).all (canonB · p.lv) = true) : (!zeroP (atP p.cs (p.cs.length - 1))) = canonB p b := by
  rw [List.take_of_length_le hk] at h2
  have h3 : zval p.c = 0 := by rcases sgn_cases (zval p.c) with q | q | q <;> omega
  obtain ⟨⟨⟨q1, q2⟩, q3⟩, _⟩ := h1
  rw [canonB_eq, if_neg h, h2, decide_eq_false q1, decide_eq_false q2, decide_eq_false (show ¬ p.cs.length < 2 by omega), decide_eq_true h3]; rfl
theorem all_take {f : Pol → Bool} {cs : List Pol} {k : Nat} (hk : k < cs.length) (h : (cs.take k).all f = true) (h1 : f (atP cs k) = true) : (cs.take (k + 1)).all f = true := by
  have := take_snocP (cs := cs) (n := k + 1) (by omega) (by omega)
  rw [this]; simp at h ⊢; exact ⟨h, h1⟩
/-- The canonical form, of polynomials that have it up to leading zero digits, and of constants. -/
def normC (p : Pol) : Pol := if p.lv ≤ 0 then constP (zval p.c) else if 4 < p.lv then p0 else scaleP p 1

theorem normC_fit {p : Pol} (h : Fit B p) : Fit (B + 1) (normC p) := by
  unfold normC
  split
  · exact fit_const (Nat.le_trans (dig_zval h.d) (Nat.le_trans h.c (Nat.le_succ _)))
  · split
    · exact fit_p0
    · exact scaleP_fit h (by show (dig 1).length ≤ 1; rw [dig1]; exact Nat.le_refl _)

/-- The elements of two lists, joined by f; the rest of the longer one. -/
def zipP (f : Pol → Pol → Pol) : List Pol → List Pol → List Pol
  | xs, [] => xs
  | [], y :: ys => y :: ys
  | x :: xs, y :: ys => f x y :: zipP f xs ys
theorem zipP_nil (f : Pol → Pol → Pol) (xs : List Pol) : zipP f xs [] = xs := by cases xs <;> rfl
theorem zipP_nil' (f : Pol → Pol → Pol) (ys : List Pol) : zipP f [] ys = ys := by cases ys <;> rfl
theorem zipP_len (f : Pol → Pol → Pol) : ∀ xs ys : List Pol, (zipP f xs ys).length = max xs.length ys.length
  | xs, [] => by rw [zipP_nil]; simp
  | [], y :: ys => by rw [zipP_nil']; simp
  | x :: xs, y :: ys => by simp only [zipP, List.length_cons, zipP_len f xs ys]; omega
theorem zipP_at (f : Pol → Pol → Pol) : ∀ (k : Nat) (xs ys : List Pol), k < xs.length → atP (zipP f xs (ys.take k)) k = atP xs k
  | 0, xs, ys, h => by simp [zipP_nil]
  | k + 1, xs, [], h => by simp [zipP_nil]
  | k + 1, x :: xs, y :: ys, h => by simpa [zipP, atP] using zipP_at f k xs ys (by simpa using h)
  | k + 1, [], y :: ys, h => by simp at h
theorem zipP_set (f : Pol → Pol → Pol) : ∀ (k : Nat) (xs ys : List Pol), k < xs.length → k < ys.length → (zipP f xs (ys.take k)).set k (f (atP xs k) (atP ys k)) = zipP f xs (ys.take (k + 1))
  | 0, x :: xs, y :: ys, h, h' => by simp [zipP, zipP_nil, atP]
  | k + 1, x :: xs, y :: ys, h, h' => by simpa [zipP, atP] using zipP_set f k xs ys (by simpa using h) (by simpa using h')
  | _, [], _, h, _ => by simp at h
  | _, _ :: _, [], _, h => by simp at h
theorem zipP_snoc (f : Pol → Pol → Pol) : ∀ (k : Nat) (xs ys : List Pol), xs.length ≤ k → k < ys.length → zipP f xs (ys.take k) ++ [atP ys k] = zipP f xs (ys.take (k + 1))
  | k, [], ys, h, h' => by
    rw [zipP_nil', zipP_nil']
    have := take_snocP (cs := ys) (n := k + 1) (by omega) (by omega)
    simpa using this.symm
  | 0, x :: xs, ys, h, h' => by simp at h
  | k + 1, x :: xs, y :: ys, h, h' => by simpa [zipP, atP] using zipP_snoc f k xs ys (by simpa using h) (by simpa using h')
  | _ + 1, _ :: _, [], _, h => by simp at h
theorem zipP_len_take {f : Pol → Pol → Pol} {k : Nat} {xs ys : List Pol} (h : k ≤ ys.length) : (zipP f xs (ys.take k)).length = max xs.length k := by rw [zipP_len]; simp; omega
theorem takeP_snoc {cs : List Pol} {k : Nat} (h : k < cs.length) : cs.take k ++ [atP cs k] = cs.take (k + 1) := by
  have := take_snocP (cs := cs) (n := k + 1) (by omega) (by omega)
  simpa using this.symm
theorem takeP_one {cs : List Pol} (h : 0 < cs.length) : [atP cs 0] = cs.take 1 := by
  have := takeP_snoc h
  simpa using this

/-- The sum of canonical polynomials of levels up to k. -/
def addF : Nat → Pol → Pol → Pol
  | 0, p, q => constP (zval p.c + zval q.c)
  | k + 1, p, q => if max p.lv q.lv = 0 then constP (zval p.c + zval q.c) else joinP (max p.lv q.lv) (zipP (addF k) (coefsP p (max p.lv q.lv)) (coefsP q (max p.lv q.lv)))
/-- The levels fall from each polynomial to its coefficients, and there are some. -/
inductive Lev : Nat → Pol → Prop
  | zero {k : Nat} {c : Z} {cs : List Pol} : Lev k (.mk 0 c cs)
  | succ {k l : Nat} {c : Z} {cs : List Pol} (h : l + 1 ≤ k) (hc : 0 < cs.length) (hs : ∀ q ∈ cs, Lev l q) : Lev k (.mk ((l + 1 : Nat) : Int) c cs)
theorem Lev.mono {k m : Nat} {p : Pol} (h : Lev k p) (hm : k ≤ m) : Lev m p := by
  cases h with
  | zero => exact .zero
  | succ h hc hs => exact .succ (Nat.le_trans h hm) hc hs
theorem Lev.lv {k : Nat} {p : Pol} (h : Lev k p) : 0 ≤ p.lv ∧ p.lv ≤ k := by
  cases h with
  | zero => simp only [Pol.lv]; omega
  | succ h hc hs => simp only [Pol.lv]; omega
/-- The coefficients at a level that is not lower than the polynomial's. -/
theorem Lev.coefs {k : Nat} {p : Pol} {l : Int} (h : Lev (k + 1) p) (hl : 0 < l) (hl1 : p.lv ≤ l) (hl2 : l ≤ k + 1) : 0 < (coefsP p l).length ∧ ∀ q ∈ coefsP p l, Lev k q := by
  unfold coefsP
  cases h with
  | zero =>
    rw [if_neg (by simp only [Pol.lv]; omega)]
    exact ⟨by simp, fun q hq => by simp at hq; subst hq; exact .zero⟩
  | succ h hc hs =>
    rename_i m c cs
    by_cases he : ((m + 1 : Nat) : Int) = l
    · rw [if_pos ⟨he, hl⟩]
      exact ⟨hc, fun q hq => (hs q hq).mono (by omega)⟩
    · rw [if_neg (fun h => he h.1)]
      exact ⟨by simp, fun q hq => by
        simp at hq; subst hq
        simp only [Pol.lv] at hl1
        exact .succ (by omega) hc hs⟩
theorem coefs_fit {p : Pol} {l : Int} (h : Fit B p) : (coefsP p l).length ≤ 4294967296 ∧ ∀ q ∈ coefsP p l, Fit B q := by
  unfold coefsP
  split
  · exact ⟨h.cs, h.sub⟩
  · exact ⟨by simp, fun q hq => by simp at hq; subst hq; exact h⟩
theorem zipP_all {f : Pol → Pol → Pol} {C : Pol → Prop} : ∀ {xs ys : List Pol}, (∀ x ∈ xs, C x) → (∀ y ∈ ys, C y) → (∀ x ∈ xs, ∀ y ∈ ys, C (f x y)) → ∀ z ∈ zipP f xs ys, C z
  | xs, [], hx, _, _ => by rw [zipP_nil]; exact hx
  | [], y :: ys, _, hy, _ => by rw [zipP_nil']; exact hy
  | x :: xs, y :: ys, hx, hy, hf => by
    intro z hz
    cases hz with
    | head => exact hf _ (.head _) _ (.head _)
    | tail _ hz => exact zipP_all (fun x h => hx x (.tail _ h)) (fun y h => hy y (.tail _ h)) (fun x h y h' => hf x (.tail _ h) y (.tail _ h')) z hz
theorem Fit.mono {p : Pol} (h : Fit B p) (hd : B ≤ D) : Fit D p := by
  induction p using Pol.ind
  rename_i p ih
  cases h with
  | mk h0 h1 h2 h3 => exact .mk h0 (Nat.le_trans h1 hd) h2 fun q hq => ih q hq (h3 q hq)
theorem addF_fit : ∀ {k : Nat} {p q : Pol}, Lev k p → Lev k q → Fit B p → Fit B q → Fit (B + 1) (addF k p q)
  | 0, p, q, _, _, hp, hq => fit_const (add_fit (Nat.le_trans (dig_zval hp.d) hp.c) (Nat.le_trans (dig_zval hq.d) hq.c))
  | k + 1, p, q, lp, lq, hp, hq => by
    unfold addF
    split
    · exact fit_const (add_fit (Nat.le_trans (dig_zval hp.d) hp.c) (Nat.le_trans (dig_zval hq.d) hq.c))
    · rename_i hne
      have h1 := lp.lv; have h2 := lq.lv
      have c1 := lp.coefs (l := max p.lv q.lv) (by omega) (by omega) (by omega)
      have c2 := lq.coefs (l := max p.lv q.lv) (by omega) (by omega) (by omega)
      have f1 := coefs_fit (l := max p.lv q.lv) hp
      have f2 := coefs_fit (l := max p.lv q.lv) hq
      refine joinP_fit (by rw [zipP_len]; omega) (zipP_all (fun x hx => (f1.2 x hx).mono (Nat.le_succ _)) (fun y hy => (f2.2 y hy).mono (Nat.le_succ _)) fun x hx y hy => addF_fit (c1.2 x hx) (c2.2 y hy) (f1.2 x hx) (f2.2 y hy))
theorem add_parts {k : Nat} {p q : Pol} (lp : Lev (k + 1) p) (lq : Lev (k + 1) q) (hp : Fit B p) (hq : Fit B q) (hne : ¬ max p.lv q.lv = 0) :
    (0 < (coefsP p (max p.lv q.lv)).length ∧ (coefsP p (max p.lv q.lv)).length ≤ 4294967296 ∧ (coefsP q (max p.lv q.lv)).length ≤ 4294967296) ∧
    (∀ x ∈ coefsP p (max p.lv q.lv), Lev k x ∧ Fit B x) ∧ (∀ y ∈ coefsP q (max p.lv q.lv), Lev k y ∧ Fit B y) ∧
    (zipP (addF k) (coefsP p (max p.lv q.lv)) (coefsP q (max p.lv q.lv))).length ≤ 4294967296 ∧ ∀ z ∈ zipP (addF k) (coefsP p (max p.lv q.lv)) (coefsP q (max p.lv q.lv)), Fit (B + 1) z := by
  have h1 := lp.lv; have h2 := lq.lv
  have c1 := lp.coefs (l := max p.lv q.lv) (by omega) (by omega) (by omega)
  have c2 := lq.coefs (l := max p.lv q.lv) (by omega) (by omega) (by omega)
  have f1 := coefs_fit (l := max p.lv q.lv) hp
  have f2 := coefs_fit (l := max p.lv q.lv) hq
  refine ⟨⟨c1.1, f1.1, f2.1⟩, fun x hx => ⟨c1.2 x hx, f1.2 x hx⟩, fun y hy => ⟨c2.2 y hy, f2.2 y hy⟩, by rw [zipP_len]; omega, ?_⟩
  exact zipP_all (fun x hx => (f1.2 x hx).mono (Nat.le_succ _)) (fun y hy => (f2.2 y hy).mono (Nat.le_succ _)) fun x hx y hy => addF_fit (c1.2 x hx) (c2.2 y hy) (f1.2 x hx) (f2.2 y hy)
theorem addF_join {k : Nat} {p q : Pol} (h : ¬ max p.lv q.lv = 0) : joinP (max p.lv q.lv) (zipP (addF k) (coefsP p (max p.lv q.lv)) (coefsP q (max p.lv q.lv))) = addF (k + 1) p q := by
  rw [addF.eq_2, if_neg h]
theorem addF_const {k : Nat} {p q : Pol} (h : max p.lv q.lv = 0) : constP (zval p.c + zval q.c) = addF k p q := by
  cases k with
  | zero => rfl
  | succ k => unfold addF; rw [if_pos h]

theorem zipP_l3 {f : Pol → Pol → Pol} {xs ys : List Pol} (k : Nat) (h : k ≤ ys.length) : xs.length ≤ (zipP f xs (ys.take k)).length ∧ k ≤ (zipP f xs (ys.take k)).length ∧ ((zipP f xs (ys.take k)).length = xs.length ∨ (zipP f xs (ys.take k)).length = k) := by
  rw [zipP_len_take h]; omega
theorem zipP_el {f : Pol → Pol → Pol} {k : Nat} {xs ys : List Pol} (h : k < xs.length) (h1 : k ≤ ys.length) : (zipP f xs (ys.take k))[k]? = some (atP xs k) := by
  rw [atP_some (by rw [zipP_len_take h1]; omega), zipP_at f k xs ys h]
theorem two_at0 {xs ys : List Pol} {i : Int} (h : i.toNat = 0) : [xs, ys][i.toNat]? = some xs := by rw [h]; rfl
theorem two_at1 {xs ys : List Pol} {i : Int} (h : i.toNat = 1) : [xs, ys][i.toNat]? = some ys := by rw [h]; rfl

theorem encSl_in {α : Type} {E : Enc α} {xs : List α} : ∀ v s, (tSl E xs).p v s → (tV (encSl E) xs).p v s := fun v s h => by
  obtain ⟨A, n, c, rfl, h2⟩ := h
  exact ⟨rfl, _, rfl, A, n, c, rfl, h2⟩
theorem encSl_out {α : Type} {E : Enc α} {xs : List α} : ∀ v s, (tV (encSl E) xs).p v s → (tSl E xs).p v s := fun v s h => by
  obtain ⟨h1, u, h2, h3⟩ := h
  cases v <;> first | (simp [Value.cells] at h2; subst h2; exact h3) | (cases h1)
theorem encSl_ld {α : Type} {E : Enc α} {xs : List α} : ∀ cs s, (cEnc (encSl E) xs).p cs s → ∃ v, cs[0]? = some v ∧ (tSl E xs).p v s := fun cs s ⟨v, h1, h2⟩ => ⟨v, by rw [h1]; rfl, h2⟩
end Go.Rt
