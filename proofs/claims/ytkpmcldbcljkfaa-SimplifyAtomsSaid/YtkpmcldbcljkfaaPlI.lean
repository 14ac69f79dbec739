/- Plain mathematics: what the reference functions compute: equality of polynomials, the number of nodes, values, truth. Conditions: none. -/
import Derived.Test.YtkpmcldbcljkfaaPlH
set_option linter.unusedVariables false
set_option linter.unusedSimpArgs false
namespace Go.Rt
open Go Go.RowKit

/-! ### Equality -/
def sameZ (x y : Z) : Bool := decide (x.neg = y.neg) && decide (x.abs = y.abs)
theorem sameZ_iff {x y : Z} : sameZ x y = true ↔ x = y := by
  obtain ⟨n, a⟩ := x; obtain ⟨m, b⟩ := y
  simp [sameZ]
theorem sameZ_no {x y : Z} (h : ¬ (x.neg = y.neg) ∨ ¬ x.abs.length = y.abs.length) : false = sameZ x y := by
  symm; rw [← Bool.not_eq_true, sameZ_iff]; rintro rfl; rcases h with h | h <;> exact h rfl
theorem sameZ_at {x y : Z} {k : Nat} (h : ¬ x.abs.getD k 0 = y.abs.getD k 0) : false = sameZ x y := by
  symm; rw [← Bool.not_eq_true, sameZ_iff]; rintro rfl; exact h rfl
theorem sameZ_yes {x y : Z} {k : Nat} (h : x.neg = y.neg ∧ x.abs.length = y.abs.length) (hk : x.abs.length ≤ k) (ht : x.abs.take k = y.abs.take k) : true = sameZ x y := by
  symm; rw [sameZ_iff]
  rw [List.take_of_length_le hk, List.take_of_length_le (by omega)] at ht
  obtain ⟨n, a⟩ := x; obtain ⟨m, b⟩ := y
  have h1 : n = m := h.1
  have h2 : a = b := ht
  rw [h1, h2]
theorem take_stepN {xs ys : List Nat} {k : Nat} (h : xs.take k = ys.take k) (h1 : k < xs.length) (h2 : k < ys.length) (he : xs.getD k 0 = ys.getD k 0) : xs.take (k + 1) = ys.take (k + 1) := by
  rw [List.take_succ_eq_append_getElem h1, List.take_succ_eq_append_getElem h2, h]
  simp only [List.getD_eq_getElem?_getD, List.getElem?_eq_getElem h1, List.getElem?_eq_getElem h2, Option.getD_some] at he
  rw [he]
mutual
def sameB : Pol → Pol → Bool
  | .mk l c cs, .mk l' c' cs' => decide (l = l') && decide (cs.length = cs'.length) && sameZ c c' && samesB cs cs'
def samesB : List Pol → List Pol → Bool
  | [], [] => true
  | p :: ps, q :: qs => sameB p q && samesB ps qs
  | _, _ => false
end
theorem sameB_eq (p q : Pol) : sameB p q = (decide (p.lv = q.lv) && decide (p.cs.length = q.cs.length) && sameZ p.c q.c && samesB p.cs q.cs) := by
  cases p; cases q; rw [sameB]; rfl
theorem sameB_iff {p q : Pol} : sameB p q = true ↔ p = q := by
  induction p using Pol.ind generalizing q
  rename_i p ih
  obtain ⟨l, c, cs⟩ := p; obtain ⟨l', c', cs'⟩ := q
  have key : ∀ (xs ys : List Pol), (∀ x ∈ xs, x ∈ cs) → (samesB xs ys = true ↔ xs = ys) := fun xs => by
    induction xs with
    | nil => intro ys _; cases ys <;> simp [samesB]
    | cons x xs ihx =>
      intro ys h
      cases ys with
      | nil => simp [samesB]
      | cons y ys => rw [samesB, Bool.and_eq_true, ih x (h x (by simp)), ihx ys fun z hz => h z (by simp [hz])]; simp
  rw [sameB, Bool.and_eq_true, Bool.and_eq_true, Bool.and_eq_true, decide_eq_true_iff, decide_eq_true_iff, sameZ_iff, key cs cs' fun _ h => h]
  constructor
  · rintro ⟨⟨⟨h1, _⟩, h3⟩, h4⟩; rw [h1, h3, h4]
  · intro h; injection h with h1 h2 h3; subst h1; subst h2; subst h3; exact ⟨⟨⟨rfl, rfl⟩, rfl⟩, rfl⟩
theorem sameB_self (p : Pol) : sameB p p = true := sameB_iff.2 rfl
theorem sameB_no {p q : Pol} (h : (¬ p.lv = q.lv ∨ ¬ p.cs.length = q.cs.length) ∨ sameZ p.c q.c = false) : false = sameB p q := by
  symm; rw [← Bool.not_eq_true, sameB_iff]; rintro rfl
  rcases h with (h | h) | h
  · exact h rfl
  · exact h rfl
  · have := sameZ_iff.2 (rfl : p.c = p.c); rw [h] at this; cases this
theorem sameB_at {p q : Pol} {k : Nat} (h : sameB (atP p.cs k) (atP q.cs k) = false) : false = sameB p q := by
  symm; rw [← Bool.not_eq_true, sameB_iff]; rintro rfl
  rw [sameB_self] at h; cases h
theorem sameB_yes {p q : Pol} {k : Nat} (h : (p.lv = q.lv ∧ p.cs.length = q.cs.length) ∧ sameZ p.c q.c = true) (hk : p.cs.length ≤ k) (ht : p.cs.take k = q.cs.take k) : true = sameB p q := by
  symm; rw [sameB_iff]
  rw [List.take_of_length_le hk, List.take_of_length_le (by omega)] at ht
  obtain ⟨l, c, cs⟩ := p; obtain ⟨l', c', cs'⟩ := q
  have h1 : l = l' := h.1.1
  have h2 : c = c' := sameZ_iff.1 h.2
  have h3 : cs = cs' := ht
  rw [h1, h2, h3]
theorem take_stepP {xs ys : List Pol} {k : Nat} (h : xs.take k = ys.take k) (h1 : k < xs.length) (h2 : k < ys.length) (he : sameB (atP xs k) (atP ys k) = true) : xs.take (k + 1) = ys.take (k + 1) := by
  rw [← takeP_snoc h1, ← takeP_snoc h2, h, sameB_iff.1 he]

/-! ### The number of nodes -/
mutual
def roomR (g : Int) : Nat → Pol → Int → Int
  | 0, _, _ => -1
  | d + 1, .mk l c cs, n => if g < c.abs.length ∨ 12 < cs.length then -1 else roomL g d cs (n - 1)
def roomL (g : Int) : Nat → List Pol → Int → Int
  | _, [], n => n
  | d, p :: ps, n => if n < 0 then -1 else roomL g d ps (roomR g d p n)
end
theorem roomR_0 {g : Int} {d : Nat} {p : Pol} {n : Int} (h : d = 0) : -1 = roomR g d p n := by subst h; unfold roomR; rfl
theorem roomR_big {g : Int} {d : Nat} {p : Pol} {n : Int} (h : g < p.c.abs.length ∨ 12 < p.cs.length) : -1 = roomR g d p n := by
  cases d with
  | zero => exact roomR_0 rfl
  | succ d => obtain ⟨l, c, cs⟩ := p; rw [roomR]; exact (if_pos h).symm
theorem roomR_go {g : Int} {d : Nat} {p : Pol} {n : Int} (h : ¬ (g < p.c.abs.length ∨ 12 < p.cs.length)) : roomR g (d + 1) p n = roomL g d p.cs (n - 1) := by
  obtain ⟨l, c, cs⟩ := p; rw [roomR]; exact if_neg h
theorem roomL_drop {g : Int} {d : Nat} {cs : List Pol} {n : Int} {k : Nat} (hk : k < cs.length) (hn : ¬ n < 0) : roomL g d (cs.drop (k + 1)) (roomR g d (atP cs k) n) = roomL g d (cs.drop k) n := by
  have e : cs.drop k = atP cs k :: cs.drop (k + 1) := by
    rw [List.drop_eq_getElem_cons hk]; simp [atP, List.getD_eq_getElem?_getD, List.getElem?_eq_getElem hk]
  rw [e, roomL, if_neg hn]
theorem roomL_neg {g : Int} {d : Nat} {cs : List Pol} {n : Int} {k : Nat} (hk : k < cs.length) (hn : n < 0) : -1 = roomL g d (cs.drop k) n := by
  have e : cs.drop k = atP cs k :: cs.drop (k + 1) := by
    rw [List.drop_eq_getElem_cons hk]; simp [atP, List.getD_eq_getElem?_getD, List.getElem?_eq_getElem hk]
  rw [e, roomL, if_pos hn]
theorem roomL_end {g : Int} {d : Nat} {cs : List Pol} {n : Int} {k : Nat} (hk : cs.length ≤ k) : n = roomL g d (cs.drop k) n := by rw [List.drop_of_length_le hk, roomL.eq_def]
theorem room_bound {g : Int} : ∀ (d : Nat) (p : Pol) (n : Int), -1 ≤ n → -1 ≤ roomR g d p (n + 1) ∧ roomR g d p (n + 1) ≤ max (-1) n
  | 0, p, n, h => by rw [← roomR_0 rfl]; omega
  | d + 1, p, n, h => by
    by_cases q : g < p.c.abs.length ∨ 12 < p.cs.length
    · rw [← roomR_big q]; omega
    · rw [roomR_go q, show n + 1 - 1 = n by omega]
      have key : ∀ (ps : List Pol) (n : Int), -1 ≤ n → -1 ≤ roomL g d ps n ∧ roomL g d ps n ≤ max (-1) n := fun ps => by
        induction ps with
        | nil => intro n h; rw [roomL.eq_def]; simp only; omega
        | cons p ps ih =>
          intro n h
          rw [roomL]; split
          · omega
          · have h1 := room_bound (g := g) d p (n - 1) (by omega)
            rw [show n - 1 + 1 = n by omega] at h1
            have h2 := ih (roomR g d p n) h1.1
            omega
      exact key p.cs n h
/-- Every list has at most 12 elements, every number at most G digits. -/
inductive Few (G : Nat) : Pol → Prop
  | mk {l : Int} {c : Z} {cs : List Pol} (h1 : c.abs.length ≤ G) (h2 : cs.length ≤ 12) (h3 : ∀ q ∈ cs, Few G q) : Few G (.mk l c cs)
theorem room_few {G : Nat} : ∀ (d : Nat) (p : Pol) (n : Int), 0 ≤ roomR G d p n → Few G p ∧ (cnt p : Int) + roomR G d p n ≤ n
  | 0, p, n, h => by rw [← roomR_0 rfl] at h; omega
  | d + 1, p, n, h => by
    by_cases q : (G : Int) < p.c.abs.length ∨ 12 < p.cs.length
    · rw [← roomR_big q] at h; omega
    · rw [roomR_go q] at h ⊢
      have key : ∀ (ps : List Pol) (n : Int), 0 ≤ roomL G d ps n → (∀ p ∈ ps, Few G p) ∧ (cntL ps : Int) + roomL G d ps n ≤ n := fun ps => by
        induction ps with
        | nil => intro n h; refine ⟨by simp, ?_⟩; rw [roomL.eq_def, cntL]; simp
        | cons p ps ih =>
          intro n h
          rw [roomL] at h ⊢
          split at h
          · omega
          · rename_i hn
            rw [if_neg hn]
            obtain ⟨h1, h2⟩ := ih _ h
            have h0 : 0 ≤ roomR G d p n := by
              rcases Int.lt_or_le (roomR G d p n) 0 with q | q
              · exfalso
                cases ps with
                | nil => rw [roomL.eq_def] at h; simp only at h; omega
                | cons a b => rw [roomL, if_pos q] at h; omega
              · exact q
            obtain ⟨h3, h4⟩ := room_few d p n h0
            refine ⟨fun x hx => ?_, ?_⟩
            · rcases List.mem_cons.1 hx with e | e
              · rw [e]; exact h3
              · exact h1 x e
            · rw [cntL]; omega
      obtain ⟨h1, h2⟩ := key p.cs (n - 1) h
      obtain ⟨l, c, cs⟩ := p
      simp only [Pol.c, Pol.cs] at q h1 h2 ⊢
      refine ⟨.mk (by omega) (by omega) h1, ?_⟩
      rw [cnt]; omega

/-! ### Values -/
theorem pow_le_B {x : Int} (h : x.natAbs ≤ B32) (e : Nat) : (x ^ e).natAbs ≤ B32 ^ e := by
  rw [Int.natAbs_pow]; exact Nat.pow_le_pow_left h e
theorem val_bound {x : Mo} {D : Nat} (hx : ∀ i, i < 4 → (x.at i).natAbs ≤ B32) : ∀ {k : Nat} {p : Pol}, k ≤ 4 → Lev k p → Sz D p → (valP x p).natAbs ≤ nrm p * B32 ^ (k * D) := by
  intro k p
  induction p using Pol.ind generalizing k
  rename_i p ih
  intro h4 lp sp
  have hcs := sp.cs
  have hsub := sp.sub
  cases lp with
  | zero =>
    rw [valP_eq, if_pos (by show (0 : Int) ≤ 0; omega), nrm_eq]
    exact Nat.le_trans (Nat.le_add_right _ _) (Nat.le_mul_of_pos_right _ (Nat.pow_pos (by decide)))
  | @succ _ l c cs hk hc hs =>
    have h1 : ¬ (Pol.mk ((l + 1 : Nat) : Int) c cs).lv ≤ 0 := by simp only [Pol.lv]; omega
    have h2 : ¬ 4 < (Pol.mk ((l + 1 : Nat) : Int) c cs).lv := by simp only [Pol.lv]; omega
    rw [valP_eq, if_neg h1, if_neg h2]
    simp only [Pol.lv, Pol.cs] at ih hcs hsub ⊢
    have e : (((l + 1 : Nat) : Int) - 1).toNat = l := by omega
    rw [e]
    have key : ∀ ys : List Pol, (∀ y ∈ ys, y ∈ cs) → (valL x (x.at l) ys).natAbs ≤ nrmL ys * B32 ^ (l * D + ys.length) := fun ys => by
      induction ys with
      | nil => intro _; simp [valL]
      | cons y ys ihy =>
        intro hy
        have a1 := ih y (hy y (by simp)) (by omega) (hs y (hy y (by simp))) (hsub y (hy y (by simp)))
        have a2 := ihy fun z hz => hy z (by simp [hz])
        rw [valL, nrmL, List.length_cons]
        refine Nat.le_trans (Int.natAbs_add_le _ _) ?_
        rw [Int.natAbs_mul]
        have a3 : (valL x (x.at l) ys).natAbs * (x.at l).natAbs ≤ nrmL ys * B32 ^ (l * D + (ys.length + 1)) := by
          rw [← Nat.add_assoc, Nat.pow_succ, ← Nat.mul_assoc]; exact Nat.mul_le_mul a2 (hx l (by omega))
        have a4 : nrm y * B32 ^ (l * D) ≤ nrm y * B32 ^ (l * D + (ys.length + 1)) := Nat.mul_le_mul_left _ (pow_mono (by omega))
        rw [Nat.add_mul]; omega
    refine Nat.le_trans (key cs fun y h => h) ?_
    rw [nrm]
    refine Nat.mul_le_mul (by omega) (pow_mono ?_)
    have : (l + 1) * D ≤ k * D := Nat.mul_le_mul_right _ hk
    rw [Nat.add_mul] at this; omega
theorem valL_bound {x : Mo} {D l : Nat} {y : Int} (hy : y.natAbs ≤ B32) : ∀ {ys : List Pol}, (∀ p ∈ ys, (valP x p).natAbs ≤ nrm p * B32 ^ (l * D)) → (valL x y ys).natAbs ≤ nrmL ys * B32 ^ (l * D + ys.length)
  | [], _ => by simp [valL]
  | p :: ys, h => by
    have a1 := h p (by simp)
    have a2 := valL_bound hy (ys := ys) fun z hz => h z (by simp [hz])
    rw [valL, nrmL, List.length_cons]
    refine Nat.le_trans (Int.natAbs_add_le _ _) ?_
    rw [Int.natAbs_mul]
    have a3 : (valL x y ys).natAbs * y.natAbs ≤ nrmL ys * B32 ^ (l * D + (ys.length + 1)) := by
      rw [← Nat.add_assoc, Nat.pow_succ, ← Nat.mul_assoc]; exact Nat.mul_le_mul a2 hy
    have a4 : nrm p * B32 ^ (l * D) ≤ nrm p * B32 ^ (l * D + (ys.length + 1)) := Nat.mul_le_mul_left _ (pow_mono (by omega))
    rw [Nat.add_mul]; omega
theorem valL_drop {x : Mo} {y : Int} {cs : List Pol} {k : Nat} (h : 0 < k) (hk : k ≤ cs.length) : valL x y (cs.drop k) * y + valP x (atP cs (k - 1)) = valL x y (cs.drop (k - 1)) := by
  have e : cs.drop (k - 1) = atP cs (k - 1) :: cs.drop k := by
    rw [List.drop_eq_getElem_cons (show k - 1 < cs.length by omega), show k - 1 + 1 = k by omega]
    simp [atP, List.getD_eq_getElem?_getD, List.getElem?_eq_getElem (show k - 1 < cs.length by omega)]
  rw [e, valL]
theorem val_len {n : Int} {N B E : Nat} (h : n.natAbs ≤ N * B32 ^ E) (hN : N < B32 ^ B) : (ofI n).abs.length ≤ B + E :=
  dig_len_pow (Nat.lt_of_le_of_lt h (by rw [Nat.pow_add]; exact Nat.mul_lt_mul_of_pos_right hN (Nat.pow_pos (by decide))))
theorem CanP.c_ofI {k : Nat} {p : Pol} (h : CanP k p) : p.c = ofI (zval p.c) := by
  cases h with
  | const n => show ofI n = ofI (zval (ofI n)); rw [zval_ofI]
  | node _ _ _ _ => exact z0_ofI
theorem CanP.sub {k : Nat} {p q : Pol} (h : CanP k p) (hq : q ∈ p.cs) : CanP k q := by
  cases h with
  | const n => cases hq
  | node h h2 hs ht => exact (hs q hq).mono (by omega)
/-- What the reference's Value wants to know. -/
structure ValF (x : Mo) (p : Pol) (B D : Nat) : Prop where
  c : p.c.abs.length ≤ B
  l : ∀ k, (ofI (valL x (x.at (p.lv - 1).toNat) (p.cs.drop k))).abs.length ≤ B + 4 * D
  cp : ∀ q ∈ p.cs, CanP 4 q
  sz : ∀ q ∈ p.cs, Sz D q
  n : ∀ q ∈ p.cs, nrm q < B32 ^ B
  v : ∀ q ∈ p.cs, (ofI (valP x q)).abs.length ≤ B + 4 * D
theorem valF {x : Mo} {p : Pol} {B D : Nat} (hx : ∀ i, i < 4 → (x.at i).natAbs ≤ B32) (hp : CanP 4 p) (hs : Sz D p) (hB : nrm p < B32 ^ B) : ValF x p B D := by
  have hc : p.c.abs.length ≤ B := by
    rw [hp.c_ofI]
    exact dig_len_pow (Nat.lt_of_le_of_lt (by rw [nrm_eq p]; omega) hB)
  have hn : ∀ q ∈ p.cs, nrm q < B32 ^ B := fun q hq => Nat.lt_of_le_of_lt (nrmL_sub hq) hB
  refine ⟨hc, fun k => ?_, fun q hq => hp.sub hq, fun q hq => hs.sub q hq, hn, fun q hq => val_len (val_bound hx (Nat.le_refl _) (hp.sub hq).lev (hs.sub q hq)) (hn q hq)⟩
  have hcs := hs.cs
  have hsub := hs.sub
  cases hp with
  | const n =>
    show (ofI (valL x _ ([].drop k))).abs.length ≤ _
    rw [List.drop_nil, valL, ofI_zero]; exact Nat.zero_le _
  | @node _ l cs h h2 hs' ht =>
    have hl : (((l + 1 : Nat) : Int) - 1).toNat = l := by omega
    simp only [Pol.lv, Pol.cs] at hcs hsub ⊢
    rw [hl]
    have hb := valL_bound (x := x) (D := D) (l := l) (hx l (by omega)) (ys := cs.drop k) fun q hq => val_bound hx (by omega) (hs' q (List.mem_of_mem_drop hq)).lev (hsub q (List.mem_of_mem_drop hq))
    have hnl : nrmL (cs.drop k) < B32 ^ B := by
      have h1 := nrmL_append (cs.take k) (cs.drop k)
      rw [List.take_append_drop] at h1
      have h2 := nrm_eq (.mk ((l + 1 : Nat) : Int) z0 cs)
      simp only [Pol.cs] at h2; omega
    refine Nat.le_trans (val_len hb hnl) ?_
    have : (cs.drop k).length ≤ D := by rw [List.length_drop]; omega
    have h5 : l * D ≤ 3 * D := Nat.mul_le_mul_right _ (by omega)
    omega
def moZ (x : Mo) : List Z := [ofI x.a, ofI x.b, ofI x.c, ofI x.d]
def atZ (l : List Z) (i : Nat) : Z := l.getD i z0
theorem atZ_at {l : List Z} {i : Int} {j : Nat} (h1 : i.toNat = j) (h2 : j < l.length) : l[i.toNat]? = some (atZ l j) := by
  subst h1; unfold atZ; simp [List.getD_eq_getElem?_getD, List.getElem?_eq_getElem h2]
theorem atZ_mo {x : Mo} {i : Nat} (h : i < 4) : atZ (moZ x) i = ofI (x.at i) := by
  match i, h with
  | 0, _ => rfl
  | 1, _ => rfl
  | 2, _ => rfl
  | 3, _ => rfl

theorem takeZ {x : Mo} {i : Nat} (h : i < 4) : (moZ x).take i ++ [ofI (x.at i)] = (moZ x).take (i + 1) := by
  match i, h with
  | 0, _ => rfl
  | 1, _ => rfl
  | 2, _ => rfl
  | 3, _ => rfl

/-! ### Truth -/
def truthV (x : Mo) (m : Mx) : Bool := if m.kind = 1 then true else if m.kind = 2 then holdsR m.rel (sgn (valP x m.poly)) else false
def relN (r : Int) : Int := if r < 1 ∨ 6 < r then 3 else r
theorem relN_std (r : Int) : stdR (relN r) = stdR r := by
  unfold relN
  split
  · unfold stdR; rw [if_neg (by omega), if_neg (by omega)]
  · rfl
theorem relN_holds (r s : Int) : holdsR (relN r) s = holdsR r s := by rw [holdsR_std, relN_std, ← holdsR_std]
theorem rel_bits (r : Int) : (relR (bitsR r)).1 = stdR r := by
  rw [bitsR_std]
  rcases stdR_cases r with h | h | h | h | h | h <;> rw [h] <;> decide
theorem rel_flip (r s : Int) : holdsR (relR (flipE (bitsR r))).1 s = holdsR r (-s) ∧ 1 ≤ (relR (flipE (bitsR r))).1 ∧ (relR (flipE (bitsR r))).1 ≤ 6 := by
  rw [holdsR_std r, bitsR_std]
  have e1 : (relR (flipE (bitsR 1))).1 = 6 := by decide
  have e2 : (relR (flipE (bitsR 2))).1 = 5 := by decide
  have e3 : (relR (flipE (bitsR 3))).1 = 3 := by decide
  have e4 : (relR (flipE (bitsR 4))).1 = 4 := by decide
  have e5 : (relR (flipE (bitsR 5))).1 = 2 := by decide
  have e6 : (relR (flipE (bitsR 6))).1 = 1 := by decide
  have hx : ∀ a b : Prop, [Decidable a] → [Decidable b] → (a ↔ b) → decide a = decide b := fun a b _ _ h => by simp [h]
  rcases stdR_cases r with h | h | h | h | h | h <;> rw [h]
  · rw [e1]; exact ⟨hx _ _ (by omega), by decide, by decide⟩
  · rw [e2]; exact ⟨hx _ _ (by omega), by decide, by decide⟩
  · rw [e3]; exact ⟨hx _ _ (by omega), by decide, by decide⟩
  · rw [e4]; exact ⟨by show (!decide (s = 0)) = (!decide (-s = 0)); rw [hx (s = 0) (-s = 0) (by omega)], by decide, by decide⟩
  · rw [e5]; exact ⟨hx _ _ (by omega), by decide, by decide⟩
  · rw [e6]; exact ⟨hx _ _ (by omega), by decide, by decide⟩
theorem std_bounds (r : Int) : 1 ≤ stdR r ∧ stdR r ≤ 6 := by rcases stdR_cases r with h | h | h | h | h | h <;> omega
theorem sgn_neg' (n : Int) : sgn (-n) = - sgn n := by unfold sgn; split <;> split <;> omega
end Go.Rt
