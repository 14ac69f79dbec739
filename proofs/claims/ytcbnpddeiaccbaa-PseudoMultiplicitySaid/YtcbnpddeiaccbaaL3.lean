/- The logic of the walks, and the plain mathematics, part 3: how a program logic for the model steps through code, and what the functions compute. Conditions: those of each theorem. -/
import Derived.Test.YtcbnpddeiaccbaaL2
set_option linter.unusedVariables false
set_option linter.unusedSimpArgs false
namespace Go.Rt
open Go Go.RowKit
structure MsF (B : Nat) (p : Pol) : Prop where
 tl : (toS (W3 p)).length ≤ 4294967295
 td : ∀ t ∈ toS (W3 p), U7 t.coef.abs
 tz : ∀ t ∈ toS (W3 p), t.coef.abs.length ≤ B
 tn : toS (W3 p) ≠ []
 sl : (sgnT (toS (W3 p))).length ≤ 4294967295
 sd : ∀ t ∈ sgnT (toS (W3 p)), U7 t.coef.abs
 sz : ∀ t ∈ sgnT (toS (W3 p)), t.coef.abs.length ≤ B
 se : ∀ t ∈ sgnT (toS (W3 p)), ∀ i, i < 4 → t.exp.at i < 4294967295
 n1 : Q4 (toS (W3 p)) = toS (W3 p)
 n2 : Q4 (sgnT (toS (W3 p))) = sgnT (toS (W3 p))
theorem msF {B : Nat} {p : Pol} (np : nrm p < B32 ^ B) (hcn : cnt p ≤ 1000000000) (hlen : (W8 (W3 p) mo0).length ≤ 4294967295) (hne : W3 p ≠ p0) : MsF B p := by
 have h := N2 (W3 p)
 have hn : toS (W3 p) ≠ [] := fun e => hne ((toS_nil (can_norm p)).1 e)
 have h2 := sgnT_can h
 have hl : (toS (W3 p)).length ≤ 4294967295 := Nat.le_trans (normS_len _) hlen
 have hm : nrmT (toS (W3 p)) < B32 ^ B := Nat.lt_of_le_of_lt (Nat.le_trans (toS_nrm _) (nrm_norm p)) np
 have hm2 := Nat.lt_of_le_of_lt (sgnT_nrm (lcT_ne h hn)) hm
 refine ⟨hl, coefT_digs h.ofI, coefT_len h.ofI hm, hn, by unfold sgnT; rw [List.length_map]; exact hl, coefT_digs h2.ofI, coefT_len h2.ofI hm2, fun t ht i hi => ?_, normS_id h, normS_id h2⟩
 have := sgnT_exp (toS_exp (lev_norm p) (sz_norm p) (by omega)) t ht i hi
 omega
end Go.Rt
namespace Go.Rt
open Go Go.RowKit
theorem CanP.sub {k : Nat} {p q : Pol} (h : CanP k p) (hq : q ∈ p.cs) : CanP k q := by
 cases h with
 | const n => cases hq
 | node h h2 hs ht => exact (hs q hq).mono (by omega)
end Go.Rt
namespace Go.Rt
open Go Go.RowKit
end Go.Rt
namespace Go.Rt
open Go Go.RowKit
section vals
variable {x : Mo} {y : Int} {xs ys zs cs : List Pol} {p q : Pol} {k j : Nat}
theorem valP_zero (h : Z5 p = true) : Y7 x p = 0 := by
 unfold Z5 at h; simp only [Bool.and_eq_true, decide_eq_true_eq] at h
 rw [valP_eq, if_pos (by omega), h.2]
theorem valP_p0 : Y7 x p0 = 0 := valP_zero zeroP_p0
theorem valP_const (n : Int) : Y7 x (R1 n) = n := by
 rw [valP_eq, if_pos (show (R1 n).lv ≤ 0 from Int.le_refl 0)]; exact Y9 n
theorem valL_append : ∀ xs : List Pol, T5 x y (xs ++ ys) = T5 x y xs + y ^ xs.length * T5 x y ys
 | [] => by simp [T5]
 | a :: xs => by
  rw [List.cons_append, T5, valL_append xs, T5, List.length_cons, Int.pow_succ]; grind
theorem valL_zeros : ∀ {xs : List Pol}, (∀ z ∈ xs, Z5 z = true) → T5 x y xs = 0
 | [], _ => rfl
 | a :: xs, h => by rw [T5, valP_zero (h a (by simp)), valL_zeros fun z hz => h z (by simp [hz])]; simp
theorem valL_trim : T5 x y (trimP cs) = T5 x y cs := by
 obtain ⟨zs, h, hz⟩ := trimP_split cs
 conv => rhs; rw [h]
 rw [valL_append, valL_zeros hz]; simp
theorem valL_one : T5 x y [p] = Y7 x p := by simp [T5]
theorem valP_node {l : Nat} {c : Z} (hl : l < 4) : Y7 x (.mk ((l + 1 : Nat) : Int) c cs) = T5 x (x.at l) cs := by
 rw [valP_eq, if_neg (by simp only [Pol.lv]; omega), if_neg (by simp only [Pol.lv]; omega)]
 simp only [Pol.lv, Pol.cs]
 rw [show (((l + 1 : Nat) : Int) - 1).toNat = l by omega]
theorem val_join {l : Nat} (hl : l < 4) : Y7 x (U0 ((l + 1 : Nat) : Int) cs) = T5 x (x.at l) cs := by
 rw [← valL_trim]
 unfold U0
 split
 ·rename_i h; rw [h, valP_p0]; rfl
 ·rename_i p h; rw [h, valL_one]
 ·exact valP_node hl
theorem val_coefs {l : Nat} (hl : l < 4) : T5 x (x.at l) (Z0 p ((l + 1 : Nat) : Int)) = Y7 x p := by
 unfold Z0; split
 ·rename_i h
  obtain ⟨a, c, cs⟩ := p
  have h1 : a = ((l + 1 : Nat) : Int) := h.1
  subst h1; exact (valP_node hl).symm
 ·exact valL_one
theorem val_add (hp : Lev 4 p) (hq : Lev 4 q) : Y7 x (K0 4 p q) = Y7 x p + Y7 x q := by
 rw [val_V (addF_lev 4 4 _ _ (Nat.le_refl _) hp hq), V_add 4 4 (Nat.le_refl _) (Nat.le_refl _) hp hq (low_mo0 4), val_V hp, val_V hq]
theorem val_scale (hp : Lev 4 p) (n : Int) : Y7 x (Z2 p n) = n * Y7 x p := by
 rw [val_V (hp.scale n), V_scale n (Nat.le_refl _) hp (low_mo0 4), val_V hp]
theorem valL_set {z : Pol} : ∀ {zs : List Pol} {n : Nat}, n < zs.length → T5 x y (zs.set n z) = T5 x y zs + (Y7 x z - Y7 x (atP zs n)) * y ^ n
 | [], n, h => by simp at h
 | a :: zs, 0, _ => by
  show T5 x y (z :: zs) = T5 x y (a :: zs) + (Y7 x z - Y7 x a) * _
  rw [T5, T5]; simp; omega
 | a :: zs, n + 1, h => by
  show T5 x y (a :: zs.set n z) = T5 x y (a :: zs) + (Y7 x z - Y7 x (atP zs n)) * _
  rw [T5, T5, valL_set (by simpa using h), Int.pow_succ]; grind
theorem valL_take (h : k < ys.length) : T5 x y (ys.take (k + 1)) = T5 x y (ys.take k) + y ^ k * Y7 x (atP ys k) := by
 rw [← takeP_snoc h, valL_append, valL_one, List.length_take, Nat.min_eq_left (by omega)]
theorem valL_rep (n : Nat) : T5 x y (List.replicate n p0) = 0 := valL_zeros fun z hz => by rw [(List.mem_replicate.1 hz).2]; exact zeroP_p0
theorem val_convJ {f : Pol → Pol → Pol} {X : Pol} {i : Nat} {v : Int} (hz : ∀ z ∈ zs, Lev 4 z) (hl : ∀ b ∈ ys, Lev 4 (f X b)) (hv : ∀ b ∈ ys, Y7 x (f X b) = v * Y7 x b) :
  ∀ j, j ≤ ys.length → i + j ≤ zs.length → T5 x y (convJ f (K0 4) X i ys j zs) = T5 x y zs + v * (y ^ i * T5 x y (ys.take j))
 | 0, _, _ => by simp [convJ, T5]
 | j + 1, h, h' => by
  have hm := convJ_all (C := Lev 4) (f := f) (g := K0 4) (x := X) (i := i) hz hl (fun a b ha hb => addF_lev 4 4 a b (Nat.le_refl _) ha hb) j (by omega) (by omega)
  have hb := Y3 (cs := ys) (i := j) (by omega)
  rw [convJ, valL_set (by rw [convJ_len]; omega), val_add (hm _ (Y3 (by rw [convJ_len]; omega))) (hl _ hb), hv _ hb, val_convJ hz hl hv j (by omega) (by omega), valL_take (by omega), Int.pow_add]
  grind
theorem val_convI {f : Pol → Pol → Pol} (hl : ∀ a ∈ xs, ∀ b ∈ ys, Lev 4 (f a b)) (hv : ∀ a ∈ xs, ∀ b ∈ ys, Y7 x (f a b) = Y7 x a * Y7 x b) :
  ∀ i, i ≤ xs.length → T5 x y (convI f (K0 4) xs ys i) = T5 x y (xs.take i) * T5 x y ys
 | 0, _ => by rw [convI, valL_rep]; simp [T5]
 | i + 1, h => by
  have ha := Y3 (cs := xs) (i := i) (by omega)
  have hm := convI_all (C := Lev 4) (f := f) (g := K0 4) .zero hl (fun a b ha hb => addF_lev 4 4 a b (Nat.le_refl _) ha hb) i (by omega)
  rw [convI, val_convJ hm (hl _ ha) (hv _ ha) _ (Nat.le_refl _) (by rw [convI_len]; omega), val_convI hl hv i (by omega), valL_take (by omega), List.take_length]
  grind
theorem val_mul' : ∀ (k j : Nat) {p q : Pol}, j ≤ k → k ≤ 4 → Lev j p → Lev j q → Y7 x (K3 k p q) = Y7 x p * Y7 x q
 | 0, j, p, q, hj, _, lp, lq => by
  have h1 := lp.lv; have h2 := lq.lv
  unfold K3; rw [if_pos (by omega), val_scale (lp.mono (by omega)), valP_eq x q, if_pos (by omega), Int.mul_comm]
 | k + 1, j, p, q, hj, h4, lp, lq => by
  unfold K3; split
  ·rename_i h; rw [val_scale (lp.mono (by omega)), valP_eq x q, if_pos (by omega), Int.mul_comm]
  ·split
   ·rename_i h; rw [val_scale (lq.mono (by omega)), valP_eq x p, if_pos (by omega)]
   ·rename_i hq0 hp0
    have h1 := lp.lv; have h2 := lq.lv
    obtain ⟨l, hl⟩ : ∃ l : Nat, max p.lv q.lv = ((l + 1 : Nat) : Int) := ⟨(max p.lv q.lv).toNat - 1, by omega⟩
    rw [hl]
    have c1 := (lp.lower (l := l + 1) (by omega)).coefs (l := ((l + 1 : Nat) : Int)) (by omega) (by omega) (by omega)
    have c2 := (lq.lower (l := l + 1) (by omega)).coefs (l := ((l + 1 : Nat) : Int)) (by omega) (by omega) (by omega)
    rw [val_join (by omega), val_convI (fun a ha b hb => (Lev.mul k l (by omega) (by omega) (c1.2 a ha) (c2.2 b hb)).mono (by omega)) (fun a ha b hb => val_mul' k l (by omega) (by omega) (c1.2 a ha) (c2.2 b hb)) _ (Nat.le_refl _),
     List.take_length, val_coefs (by omega), val_coefs (by omega)]
theorem val_mul (hp : Lev 4 p) (hq : Lev 4 q) : Y7 x (K3 4 p q) = Y7 x p * Y7 x q := val_mul' 4 4 (Nat.le_refl _) (Nat.le_refl _) hp hq
theorem val_var (l : Nat) (hl : l < 4) : Y7 x (varP ((l + 1 : Nat) : Int)) = x.at l := by
 unfold varP; rw [if_neg (by omega), valP_node hl]; simp [T5, valP_p0, valP_const]
theorem val_norm (p : Pol) : Y7 x (W3 p) = Y7 x p := by
 induction p using Pol.ind
 rename_i p ih
 rw [normN_eq, valP_eq x p]
 split
 ·rw [valP_const]
 ·split
  ·exact valP_p0
  ·rename_i h1 h2
   obtain ⟨l, hl⟩ : ∃ l : Nat, p.lv = ((l + 1 : Nat) : Int) := ⟨p.lv.toNat - 1, by omega⟩
   split
   ·rename_i h
    rw [val_scale (canon_lev h (by omega)), Int.one_mul, valP_eq, if_neg h1, if_neg h2]
   ·rw [hl, show (((l + 1 : Nat) : Int) - 1).toNat = l by omega]
    have : ∀ {cs : List Pol}, (∀ q ∈ cs, Y7 x (W3 q) = Y7 x q) → Y7 x (hornN (varP ((l + 1 : Nat) : Int)) cs) = T5 x (x.at l) cs := fun {cs} => by
     induction cs with
     | nil => intro _; exact valP_p0
     | cons c cs ihc =>
      intro h
      have hL := lev_horn (lev_var ((l + 1 : Nat) : Int)) (cs := cs) (fun q _ => lev_norm q)
      rw [hornN, val_add (Lev.mul 4 4 (Nat.le_refl _) (Nat.le_refl _) hL (lev_var _)) (lev_norm _), val_mul hL (lev_var _), ihc (fun q hq => h q (by simp [hq])), h c (by simp), val_var l (by omega), T5]
    exact this ih
theorem val_indep {x' : Mo} : ∀ {k : Nat} {p : Pol}, k ≤ 4 → Lev k p → (∀ i, i < k → x.at i = x'.at i) → Y7 x p = Y7 x' p := by
 intro k p
 induction p using Pol.ind generalizing k
 rename_i p ih
 intro h4 lp h
 cases lp with
 | zero => rw [valP_eq, valP_eq, if_pos (by simp only [Pol.lv]; omega), if_pos (by simp only [Pol.lv]; omega)]
 | @succ _ l c cs hk hc hs =>
  rw [valP_node (by omega), valP_node (by omega), h l (by omega)]
  have : ∀ {zs : List Pol}, (∀ z ∈ zs, z ∈ cs) → T5 x (x'.at l) zs = T5 x' (x'.at l) zs := fun {zs} => by
   induction zs with
   | nil => intro _; rfl
   | cons z zs ihz =>
    intro hz
    rw [T5, T5, ihz fun w hw => hz w (by simp [hw]), ih z (hz z (by simp)) (by omega) (hs z (hz z (by simp))) fun i hi => h i (by omega)]
  exact this fun z hz => hz
end vals
def hv (y : Int) : List Int → Int
 | [] => 0
 | a :: as => hv y as * y + a
theorem hv_map {x : Mo} {y : Int} : ∀ zs : List Pol, hv y (zs.map (Y7 x)) = T5 x y zs
 | [] => rfl
 | z :: zs => by rw [List.map_cons, hv, T5, hv_map zs]
theorem hv_zero {y : Int} : ∀ {as : List Int}, (∀ a ∈ as, a = 0) → hv y as = 0
 | [], _ => rfl
 | a :: as, h => by rw [hv, hv_zero fun b hb => h b (by simp [hb]), h a (by simp)]; simp
theorem mul_far {u y : Int} (h : u ≠ 0) (hy : 0 < y) : y ≤ (u * y).natAbs := by
 have h1 : 1 ≤ u.natAbs := by omega
 rw [Int.natAbs_mul]
 have h2 : 1 * y.natAbs ≤ u.natAbs * y.natAbs := Nat.mul_le_mul_right _ h1
 omega
theorem hv_ne : ∀ {as : List Int}, (¬ ∀ a ∈ as, a = 0) → ∃ N : Int, ∀ y, N ≤ y → hv y as ≠ 0
 | [], h => absurd (fun a ha => by cases ha) h
 | a :: as, h => by
  by_cases q : ∀ b ∈ as, b = 0
  ·refine ⟨0, fun y _ => ?_⟩
   rw [hv, hv_zero q]
   intro e; apply h; intro b hb
   rcases List.mem_cons.1 hb with rfl | hb
   ·omega
   ·exact q b hb
  ·obtain ⟨N, hN⟩ := hv_ne q
   refine ⟨max N (a.natAbs + 1), fun y hy => ?_⟩
   have h1 := mul_far (hN y (by omega)) (show 0 < y by omega)
   rw [hv]; omega
theorem hv_big {a : Int} {as : List Int} (h : ¬ ∀ b ∈ as, b = 0) (M : Int) : ∃ N : Int, ∀ y, N ≤ y → M < (hv y (a :: as)).natAbs := by
 obtain ⟨N, hN⟩ := hv_ne h
 refine ⟨max N (a.natAbs + M.natAbs + 1), fun y hy => ?_⟩
 have h1 := mul_far (hN y (by omega)) (show 0 < y by omega)
 rw [hv]; omega
def subZ : List Int → List Int → List Int
 | as, [] => as
 | [], b :: bs => -b :: subZ [] bs
 | a :: as, b :: bs => (a - b) :: subZ as bs
theorem hv_sub {y : Int} : ∀ as bs : List Int, hv y (subZ as bs) = hv y as - hv y bs
 | as, [] => by cases as <;> simp [subZ, hv]
 | [], b :: bs => by show hv y (subZ [] bs) * y + -b = 0 - (hv y bs * y + b); rw [hv_sub [] bs, show hv y [] = 0 from rfl]; grind
 | a :: as, b :: bs => by rw [subZ, hv, hv_sub as bs, hv, hv]; grind
theorem sub_at : ∀ (as bs : List Int) (i : Nat), atN (subZ as bs) i = atN as i - atN bs i
 | as, [], i => by cases as <;> simp [subZ, atN]
 | [], b :: bs, 0 => by simp [subZ, atN]
 | [], b :: bs, i + 1 => by have := sub_at [] bs i; simpa [subZ, atN] using this
 | a :: as, b :: bs, 0 => by simp [subZ, atN]
 | a :: as, b :: bs, i + 1 => by have := sub_at as bs i; simpa [subZ, atN] using this
theorem hv_uniq {as bs : List Int} (h : ∀ y, hv y as = hv y bs) (i : Nat) : atN as i = atN bs i := by
 have h1 := sub_at as bs i
 have h2 : atN (subZ as bs) i = 0 := by
  by_cases q : ∀ a ∈ subZ as bs, a = 0
  ·unfold atN; rw [List.getD_eq_getElem?_getD]
   cases e : (subZ as bs)[i]? with
   | none => rfl
   | some v => exact q v (List.mem_of_getElem? e)
  ·obtain ⟨N, hN⟩ := hv_ne q
   exact absurd (by rw [hv_sub, h N]; omega) (hN N (Int.le_refl _))
 omega
theorem atN_map {x : Mo} (zs : List Pol) (i : Nat) : atN (zs.map (Y7 x)) i = Y7 x (atP zs i) := by
 unfold atN atP; rw [List.getD_eq_getElem?_getD, List.getD_eq_getElem?_getD, List.getElem?_map]
 cases zs[i]? with
 | none => exact valP_p0.symm
 | some v => rfl
def Far : Nat → (Mo → Prop) → Prop
 | 0, P => P mo0
 | k + 1, P => Far k fun x => ∃ N : Int, ∀ y, N ≤ y → P (x.set k y)
theorem Far.mono : ∀ {k : Nat} {P Q : Mo → Prop}, Far k P → (∀ x, P x → Q x) → Far k Q
 | 0, _, _, h, hq => hq _ h
 | k + 1, _, _, h, hq => Far.mono (k := k) h fun x ⟨N, hN⟩ => ⟨N, fun y hy => hq _ (hN y hy)⟩
theorem Far.and : ∀ {k : Nat} {P Q : Mo → Prop}, Far k P → Far k Q → Far k fun x => P x ∧ Q x
 | 0, _, _, h, h' => ⟨h, h'⟩
 | k + 1, P, Q, h, h' => (Far.and (k := k) h h').mono fun x ⟨⟨N, hN⟩, ⟨N', hN'⟩⟩ => ⟨max N N', fun y hy => ⟨hN y (by omega), hN' y (by omega)⟩⟩
theorem Far.ex : ∀ {k : Nat} {P : Mo → Prop}, Far k P → ∃ x, P x
 | 0, _, h => ⟨_, h⟩
 | k + 1, _, h => by
  obtain ⟨x, N, hN⟩ := Far.ex (k := k) h
  exact ⟨_, hN N (Int.le_refl _)⟩
theorem valP_set {k : Nat} {p : Pol} {x : Mo} {y : Int} (hk : k < 4) (h : Lev k p) : Y7 (x.set k y) p = Y7 x p :=
 val_indep (by omega) h fun i hi => Mo.at_set_ne hi hk
theorem valL_set_x {k : Nat} {x : Mo} {y w : Int} (hk : k < 4) : ∀ {zs : List Pol}, (∀ z ∈ zs, Lev k z) → T5 (x.set k y) w zs = T5 x w zs
 | [], _ => rfl
 | z :: zs, h => by rw [T5, T5, valL_set_x hk fun a ha => h a (by simp [ha]), valP_set hk (h z (by simp))]
theorem node_set {l : Nat} {c : Z} {cs : List Pol} {x : Mo} {y : Int} (hl : l < 4) (h : ∀ z ∈ cs, Lev l z) : Y7 (x.set l y) (.mk ((l + 1 : Nat) : Int) c cs) = hv y (cs.map (Y7 x)) := by
 rw [valP_node hl, Mo.at_set_self, valL_set_x hl h, hv_map]
theorem Far.succ {k : Nat} {p : Pol} (hk : k < 4) (hp : Lev k p) (h : Far k fun x => Y7 x p ≠ 0) : Far (k + 1) fun x => Y7 x p ≠ 0 :=
 Far.mono (k := k) h fun x hx => ⟨0, fun y _ => by show Y7 _ _ ≠ 0; rw [valP_set hk hp]; exact hx⟩
theorem last_ne {cs : List Pol} (ht : trimP cs = cs) (h : 0 < cs.length) : Z5 (atP cs (cs.length - 1)) = false := by
 rcases hq : Z5 (atP cs (cs.length - 1)) with _ | _
 ·rfl
 ·have h3 := trimP_step (cs := cs) (n := cs.length) (by omega) (Nat.le_refl _) hq
  rw [List.take_length, ht] at h3
  have h4 : (trimP (cs.take (cs.length - 1))).length ≤ _ := trimB_len (z := Z5) (xs := cs.take (cs.length - 1))
  rw [h3, List.length_take] at h4; omega
theorem far_ne : ∀ {k : Nat} {p : Pol}, k ≤ 4 → CanP k p → Z5 p = false → Far k fun x => Y7 x p ≠ 0
 | 0, p, _, h, hz => by
  cases h with
  | const n =>
   show Y7 _ _ ≠ 0
   rw [valP_const]; intro e; subst e; rw [constP_zero, zeroP_p0] at hz; cases hz
  | node h => omega
 | k + 1, p, h4, h, hz => by
  cases h with
  | const n => exact Far.succ (by omega) .zero (far_ne (by omega) (.const n) hz)
  | @node _ l cs hl h2 hs ht =>
   by_cases e : l = k
   ·subst e
    have hlast := last_ne ht (by omega)
    have hm := Y3 (cs := cs) (i := cs.length - 1) (by omega)
    refine Far.mono (k := l) (far_ne (by omega) (hs _ hm) hlast) fun x hx => ?_
    obtain ⟨N, hN⟩ := hv_ne (as := cs.map (Y7 x)) fun ha => hx (ha _ (List.mem_map_of_mem hm))
    exact ⟨N, fun y hy => by show Y7 _ _ ≠ 0; rw [node_set (by omega) fun z hz => (hs z hz).lev]; exact hN y hy⟩
   ·have hc : CanP k (.mk ((l + 1 : Nat) : Int) z0 cs) := .node (by omega) h2 hs ht
    exact Far.succ (by omega) hc.lev (far_ne (by omega) hc hz)
theorem zero_of_val {p : Pol} (h : CanP 4 p) (hv : ∀ x, Y7 x p = 0) : p = p0 := by
 rcases hz : Z5 p with _ | _
 ·obtain ⟨x, hx⟩ := (far_ne (Nat.le_refl _) h hz).ex
  exact absurd (hv x) hx
 ·exact h.zero hz
theorem val_uniq {p q : Pol} (hp : CanP 4 p) (hq : CanP 4 q) (h : ∀ x, Y7 x p = Y7 x q) : p = q := by
 have hd := zero_of_val (p := K0 4 p (Z2 q (-1))) (.add 4 4 (Nat.le_refl _) hp (.scale hq.lev _)) fun x => by
  rw [val_add hp.lev (hq.lev.scale _), val_scale hq.lev, h x]; omega
 refine can_uniqP 4 (m := mo0) (Nat.le_refl _) hp hq (low_mo0 4) fun f => ?_
 have h1 : V f (K0 4 p (Z2 q (-1))) mo0 = 0 := by rw [hd, V_p0]
 rw [V_add 4 4 (Nat.le_refl _) (Nat.le_refl _) hp.lev (hq.lev.scale _) (low_mo0 4), V_scale _ (Nat.le_refl _) hq.lev (low_mo0 4)] at h1
 omega
theorem val_dom {p q : Pol} (hp : CanP 4 p) (hq : CanP 4 q) (h : ∀ x, Y7 x p * Y7 x q = 0) : p = p0 ∨ q = p0 := by
 rcases hz : Z5 p with _ | _
 ·rcases hz' : Z5 q with _ | _
  ·obtain ⟨x, h1, h2⟩ := ((far_ne (Nat.le_refl _) hp hz).and (far_ne (Nat.le_refl _) hq hz')).ex
   exact absurd (h x) (Int.mul_ne_zero h1 h2)
  ·exact .inr (hq.zero hz')
 ·exact .inl (hp.zero hz)
theorem val_cancel {p q g : Pol} (hp : CanP 4 p) (hq : CanP 4 q) (hg : CanP 4 g) (hn : g ≠ p0) (h : ∀ x, Y7 x p * Y7 x g = Y7 x q * Y7 x g) : p = q := by
 rcases val_dom (p := K0 4 p (Z2 q (-1))) (q := g) (.add 4 4 (Nat.le_refl _) hp (.scale hq.lev _)) hg fun x => by
  rw [val_add hp.lev (hq.lev.scale _), val_scale hq.lev]
  have := h x; grind with e | e
 ·refine val_uniq hp hq fun x => ?_
  have h1 : Y7 x (K0 4 p (Z2 q (-1))) = 0 := by rw [e, valP_p0]
  rw [val_add hp.lev (hq.lev.scale _), val_scale hq.lev] at h1
  omega
 ·exact absurd e hn
end Go.Rt
namespace Go.Rt
open Go Go.RowKit
def subI (b : List Pol) (q : Pol) (s : Nat) : Nat → List Pol → List Pol
 | 0, A => A
 | i + 1, A => (subI b q s i A).set (s + i) (K0 4 (atP (subI b q s i A) (s + i)) (Z2 (K3 4 q (atP b i)) (-1)))
def longF (E : Pol → Pol → Option Pol) (b : List Pol) : Nat → List Pol → List Pol → Option (List Pol × List Pol)
 | 0, A, O => some (A, O)
 | s + 1, A, O => match E (atP A (s + b.length - 1)) (atP b (b.length - 1)) with
  | none => none
  | some q => longF E b s (subI b q s b.length A) (O.set s q)
def constF (f g : Pol) : Option Pol := if X4 g.c ∣ X4 f.c then some (R1 (X4 f.c / X4 g.c)) else none
def coefF (E : Pol → Option Pol) (cs : List Pol) : Option (List Pol) := if cs.all (fun c => (E c).isSome) then some (cs.map fun c => (E c).getD p0) else none
def X6 : Nat → Pol → Pol → Option Pol
 | 0, f, g => if Z5 f then some f else if f.lv < g.lv then none else constF f g
 | k + 1, f, g => if Z5 f then some f else if f.lv < g.lv then none else if f.lv = 0 then constF f g else
   if g.lv < f.lv then match coefF (X6 k · g) f.cs with
    | none => none
    | some O => some (U0 f.lv O)
   else if f.cs.length < g.cs.length then none else match longF (X6 k) g.cs (f.cs.length - g.cs.length + 1) f.cs (List.replicate (f.cs.length - g.cs.length + 1) p0) with
    | none => none
    | some (A, O) => if A.all Z5 then some (U0 f.lv O) else none
section long
variable {x : Mo} {y : Int} {A O b qs : List Pol} {q : Pol} {s i l : Nat} {E : Pol → Pol → Option Pol}
theorem atP_over {cs : List Pol} {i : Nat} (h : cs.length ≤ i) : atP cs i = p0 := by simp [atP, List.getD_eq_getElem?_getD, List.getElem?_eq_none h]
theorem atP_all {C : Pol → Prop} {cs : List Pol} (h0 : C p0) (h : ∀ z ∈ cs, C z) (i : Nat) : C (atP cs i) := by
 by_cases q : i < cs.length
 ·exact h _ (Y3 q)
 ·rw [atP_over (by omega)]; exact h0
theorem atP_set {cs : List Pol} {n i : Nat} {z : Pol} (h : n < cs.length) : atP (cs.set n z) i = if n = i then z else atP cs i := by
 unfold atP; rw [List.getD_eq_getElem?_getD, List.getElem?_set]
 split
 ·rename_i e; subst e; first | rfl | (rw [if_pos h]; rfl)
 ·rw [List.getD_eq_getElem?_getD]
theorem subI_len : ∀ i, (subI b q s i A).length = A.length
 | 0 => rfl
 | i + 1 => by rw [subI, List.length_set, subI_len i]
theorem subI_can {l : Nat} (hl : l ≤ 4) (hA : ∀ z ∈ A, CanP l z) (hb : ∀ z ∈ b, CanP l z) (hq : CanP l q) : ∀ i, i ≤ b.length → s + i ≤ A.length → ∀ z ∈ subI b q s i A, CanP l z
 | 0, _, _ => hA
 | i + 1, h, h' => fun z hz => by
  have ih := subI_can hl hA hb hq i (by omega) (by omega)
  rw [subI] at hz
  rcases List.mem_or_eq_of_mem_set hz with hz | rfl
  ·exact ih z hz
  ·exact .add 4 l hl (ih _ (Y3 (by rw [subI_len]; omega))) (.scale (CanP.mul 4 l hl (Nat.le_refl _) hq (hb _ (Y3 (by omega)))).lev _)
theorem subI_val {l : Nat} (hl : l ≤ 4) (hA : ∀ z ∈ A, CanP l z) (hb : ∀ z ∈ b, CanP l z) (hq : CanP l q) : ∀ i, i ≤ b.length → s + i ≤ A.length → T5 x y (subI b q s i A) = T5 x y A - Y7 x q * (y ^ s * T5 x y (b.take i))
 | 0, _, _ => by simp [subI, T5]
 | i + 1, h, h' => by
  have hc := subI_can (s := s) hl hA hb hq i (by omega) (by omega)
  have h1 := (hc _ (Y3 (i := s + i) (by rw [subI_len]; omega))).lev.mono hl
  have h2 := (hb _ (Y3 (i := i) (by omega))).lev.mono hl
  have h3 := hq.lev.mono hl
  have h4 := Lev.mul 4 4 (Nat.le_refl _) (Nat.le_refl _) h3 h2
  rw [subI, valL_set (by rw [subI_len]; omega), val_add h1 (h4.scale _), val_scale h4, val_mul h3 h2, subI_val hl hA hb hq i (by omega) (by omega), valL_take (by omega), Int.pow_add]
  grind
def EC (l : Nat) (b : List Pol) (E : Pol → Pol → Option Pol) : Prop := ∀ a q, CanP l a → E a (atP b (b.length - 1)) = some q → CanP l q
theorem longF_can (hl : l ≤ 4) (hE : EC l b E) (hb : ∀ z ∈ b, CanP l z) (hb0 : 0 < b.length) : ∀ (s : Nat) {A O A' O' : List Pol}, s + b.length ≤ A.length + 1 → s ≤ O.length → (∀ z ∈ A, CanP l z) → (∀ z ∈ O, CanP l z) → longF E b s A O = some (A', O') →
  (∀ z ∈ A', CanP l z) ∧ (∀ z ∈ O', CanP l z) ∧ A'.length = A.length ∧ O'.length = O.length
 | 0, A, O, A', O', _, _, hA, hO, h => by
  rw [longF] at h; cases h; exact ⟨hA, hO, rfl, rfl⟩
 | s + 1, A, O, A', O', h1, h2, hA, hO, h => by
  rw [longF] at h
  split at h
  ·cases h
  ·rename_i q hq
   have hc := hE _ _ (hA _ (Y3 (by omega))) hq
   obtain ⟨a1, a2, a3, a4⟩ := longF_can hl hE hb hb0 s (by rw [subI_len]; omega) (by rw [List.length_set]; omega) (subI_can hl hA hb hc _ (Nat.le_refl _) (by omega)) (fun z hz => by
    rcases List.mem_or_eq_of_mem_set hz with hz | rfl
    ·exact hO z hz
    ·exact hc) h
   exact ⟨a1, a2, by rw [a3, subI_len], by rw [a4, List.length_set]⟩
theorem longF_val (hl : l ≤ 4) (hE : EC l b E) (hb : ∀ z ∈ b, CanP l z) (hb0 : 0 < b.length) : ∀ (s : Nat) {A O A' O' : List Pol}, s + b.length ≤ A.length + 1 → s ≤ O.length → (∀ z ∈ A, CanP l z) → (∀ i, i < s → atP O i = p0) → longF E b s A O = some (A', O') →
  T5 x y A' + T5 x y O' * T5 x y b = T5 x y A + T5 x y O * T5 x y b
 | 0, A, O, A', O', _, _, hA, hO, h => by
  rw [longF] at h; cases h; rfl
 | s + 1, A, O, A', O', h1, h2, hA, hO, h => by
  rw [longF] at h
  split at h
  ·cases h
  ·rename_i q hq
   have hc := hE _ _ (hA _ (Y3 (by omega))) hq
   rw [longF_val hl hE hb hb0 s (by rw [subI_len]; omega) (by rw [List.length_set]; omega) (subI_can hl hA hb hc _ (Nat.le_refl _) (by omega)) (fun i hi => by rw [atP_set (by omega), if_neg (by omega)]; exact hO i (by omega)) h,
    subI_val hl hA hb hc _ (Nat.le_refl _) (by omega), valL_set (by omega), hO s (by omega), valP_p0, List.take_length]
   grind
end long
theorem all_zero_val {x : Mo} {y : Int} {A : List Pol} (h : A.all Z5 = true) : T5 x y A = 0 := valL_zeros fun z hz => List.all_eq_true.1 h z hz
theorem can_of_const {k : Nat} {p : Pol} (h : CanP k p) (hl : p.lv = 0) : ∃ n, p = R1 n := by
 cases h with
 | const n => exact ⟨n, rfl⟩
 | node h => simp only [Pol.lv] at hl; omega
theorem CanP.node' {k : Nat} {p : Pol} (h : CanP k p) (hl : p.lv ≠ 0) : ∃ l cs, p = .mk ((l + 1 : Nat) : Int) z0 cs ∧ l + 1 ≤ k ∧ 2 ≤ cs.length ∧ (∀ q ∈ cs, CanP l q) ∧ trimP cs = cs := by
 cases h with
 | const n => exact absurd rfl hl
 | node h h2 hs ht => exact ⟨_, _, rfl, h, h2, hs, ht⟩
theorem coefF_some {E : Pol → Option Pol} {cs O : List Pol} (h : coefF E cs = some O) : O = cs.map (fun c => (E c).getD p0) ∧ ∀ c ∈ cs, ∃ q, E c = some q := by
 unfold coefF at h
 split at h
 ·rename_i q; cases h
  exact ⟨rfl, fun c hc => Option.isSome_iff_exists.1 (List.all_eq_true.1 q c hc)⟩
 ·cases h
theorem exactF_zero {k : Nat} {f g : Pol} (h : Z5 f = true) : X6 k f g = some f := by cases k <;> (rw [X6, if_pos h])
theorem exactF_lt {k : Nat} {f g : Pol} (h : Z5 f = false) (h1 : f.lv < g.lv) : X6 k f g = none := by cases k <;> (rw [X6, if_neg (by rw [h]; decide), if_pos h1])
theorem exactF_const {k : Nat} {f g : Pol} (h : Z5 f = false) (h1 : ¬ f.lv < g.lv) (h2 : f.lv = 0) : X6 k f g = constF f g := by
 cases k with
 | zero => rw [X6, if_neg (by rw [h]; decide), if_neg h1]
 | succ k => rw [X6, if_neg (by rw [h]; decide), if_neg h1, if_pos h2]
theorem exactF_coef {k : Nat} {f g : Pol} (h : Z5 f = false) (h1 : ¬ f.lv < g.lv) (h2 : ¬ f.lv = 0) (h3 : g.lv < f.lv) : X6 (k + 1) f g = match coefF (X6 k · g) f.cs with
  | none => none
  | some O => some (U0 f.lv O) := by rw [X6, if_neg (by rw [h]; decide), if_neg h1, if_neg h2, if_pos h3]
theorem exactF_short {k : Nat} {f g : Pol} (h : Z5 f = false) (h1 : ¬ f.lv < g.lv) (h2 : ¬ f.lv = 0) (h3 : ¬ g.lv < f.lv) (h4 : f.cs.length < g.cs.length) : X6 (k + 1) f g = none := by
 rw [X6, if_neg (by rw [h]; decide), if_neg h1, if_neg h2, if_neg h3, if_pos h4]
theorem exactF_long {k : Nat} {f g : Pol} (h : Z5 f = false) (h1 : ¬ f.lv < g.lv) (h2 : ¬ f.lv = 0) (h3 : ¬ g.lv < f.lv) (h4 : ¬ f.cs.length < g.cs.length) :
  X6 (k + 1) f g = match longF (X6 k) g.cs (f.cs.length - g.cs.length + 1) f.cs (List.replicate (f.cs.length - g.cs.length + 1) p0) with
    | none => none
    | some (A, O) => if A.all Z5 then some (U0 f.lv O) else none := by
 rw [X6, if_neg (by rw [h]; decide), if_neg h1, if_neg h2, if_neg h3, if_neg h4]
theorem const_sound {f g q : Pol} {j : Nat} (cf : CanP j f) (cg : CanP j g) (h0 : f.lv = 0) (hlt : ¬ f.lv < g.lv) (h : constF f g = some q) : CanP j q ∧ ∀ x, Y7 x f = Y7 x q * Y7 x g := by
 have := cg.lev.lv
 obtain ⟨a, rfl⟩ := can_of_const cf h0
 obtain ⟨c, rfl⟩ := can_of_const cg (by omega)
 unfold constF at h
 split at h
 ·rename_i hd; cases h
  refine ⟨.const _, fun x => ?_⟩
  have e1 : X4 (R1 a).c = a := Y9 a
  have e2 : X4 (R1 c).c = c := Y9 c
  rw [e1, e2] at hd ⊢
  rw [valP_const, valP_const, valP_const, Int.ediv_mul_cancel hd]
 ·cases h
theorem exactF_sound : ∀ (k j : Nat) {f g q : Pol}, j ≤ k → k ≤ 4 → CanP j f → CanP j g → X6 k f g = some q → CanP j q ∧ ∀ x, Y7 x f = Y7 x q * Y7 x g := by
 intro k
 induction k with
 | zero =>
  intro j f g q hj hk cf cg h
  rcases hf : Z5 f with _ | _
  ·by_cases hlt : f.lv < g.lv
   ·rw [exactF_lt hf hlt] at h; cases h
   ·have := cf.lev.lv; have := cg.lev.lv
    rw [exactF_const hf hlt (by omega)] at h
    exact const_sound cf cg (by omega) hlt h
  ·rw [exactF_zero hf] at h; cases h; exact ⟨cf, fun x => by rw [valP_zero hf]; simp⟩
 | succ k ih =>
  intro j f g q hj hk cf cg h
  rcases hf : Z5 f with _ | _
  ·by_cases hlt : f.lv < g.lv
   ·rw [exactF_lt hf hlt] at h; cases h
   ·by_cases h0 : f.lv = 0
    ·rw [exactF_const hf hlt h0] at h
     exact const_sound cf cg h0 hlt h
    ·obtain ⟨l, cs, rfl, hl, h2, hs, ht⟩ := cf.node' h0
     have e1 : (Pol.mk ((l + 1 : Nat) : Int) z0 cs).lv = ((l + 1 : Nat) : Int) := rfl
     have e2 : (Pol.mk ((l + 1 : Nat) : Int) z0 cs).cs = cs := rfl
     by_cases hgl : g.lv < ((l + 1 : Nat) : Int)
     ·rw [exactF_coef hf hlt h0 hgl] at h
      split at h
      ·cases h
      ·rename_i O hO; cases h
       obtain ⟨rfl, hE⟩ := coefF_some hO
       have cgl : CanP l g := cg.lower (by omega)
       have key : ∀ c ∈ cs, CanP l ((X6 k c g).getD p0) ∧ ∀ x, Y7 x c = Y7 x ((X6 k c g).getD p0) * Y7 x g := fun c hc => by
        obtain ⟨r, hr⟩ := hE c hc
        rw [hr]
        exact ih l (by omega) (by omega) (hs c hc) cgl hr
       refine ⟨(CanP.join fun r hr => ?_).mono (by omega), fun x => ?_⟩
       ·obtain ⟨c, hc, rfl⟩ := List.mem_map.1 hr
        exact (key c hc).1
       ·rw [valP_node (by omega), e1, e2, val_join (by omega)]
        have : ∀ {zs : List Pol}, (∀ z ∈ zs, z ∈ cs) → T5 x (x.at l) zs = T5 x (x.at l) (zs.map fun c => (X6 k c g).getD p0) * Y7 x g := fun {zs} => by
         induction zs with
         | nil => intro _; simp [T5]
         | cons z zs ihz =>
          intro hzs
          rw [List.map_cons, T5, T5, ihz fun w hw => hzs w (by simp [hw]), (key z (hzs z (by simp))).2 x]; grind
        exact this fun z hz => hz
     ·by_cases hsh : cs.length < g.cs.length
      ·rw [exactF_short hf hlt h0 hgl hsh] at h; cases h
      ·rw [exactF_long hf hlt h0 hgl hsh] at h
       obtain ⟨l', b, rfl, hl', hb2, hbs, hbt⟩ := cg.node' (by omega)
       have e3 : l' = l := by have : ((l' + 1 : Nat) : Int) = ((l + 1 : Nat) : Int) := Int.le_antisymm (Int.not_lt.1 hlt) (Int.not_lt.1 hgl); omega
       subst e3
       split at h
       ·cases h
       ·rename_i A O hAO
        split at h
        ·rename_i hz; cases h
         have hE : EC l' b (X6 k) := fun a q ha hq => (ih l' (by omega) (by omega) ha (hbs _ (Y3 (by omega))) hq).1
         have hn : cs.length - b.length + 1 + b.length ≤ cs.length + 1 := by have : ¬ cs.length < b.length := hsh; omega
         have hrl : cs.length - b.length + 1 ≤ (List.replicate (cs.length - b.length + 1) p0).length := by simp
         have hr0 : ∀ z ∈ List.replicate (cs.length - b.length + 1) p0, CanP l' z := fun z hz => by rw [(List.mem_replicate.1 hz).2]; exact can_p0
         obtain ⟨a1, a2, a3, a4⟩ := longF_can (by omega) hE hbs (by omega) _ hn hrl hs hr0 hAO
         refine ⟨(CanP.join a2).mono (by omega), fun x => ?_⟩
         have hv := longF_val (x := x) (y := x.at l') (by omega) hE hbs (by omega) _ hn hrl hs (fun i hi => by simp [atP, List.getD_eq_getElem?_getD, List.getElem?_replicate, hi]) hAO
         rw [all_zero_val hz, valL_rep] at hv
         rw [valP_node (by omega), e1, val_join (by omega), valP_node (by omega)]
         omega
        ·cases h
  ·rw [exactF_zero hf] at h; cases h; exact ⟨cf, fun x => by rw [valP_zero hf]; simp⟩
theorem big_mul {a b M : Int} (h : M < a.natAbs) (hb : b ≠ 0) : M < (a * b).natAbs := by
 have h1 : 1 ≤ b.natAbs := by omega
 have h2 : a.natAbs * 1 ≤ a.natAbs * b.natAbs := Nat.mul_le_mul_left _ h1
 rw [Int.natAbs_mul]; omega
theorem top_ne {l : Nat} {u w f : Pol} (hl : l < 4) (cu : CanP (l + 1) u) (hu : u.lv = ((l + 1 : Nat) : Int)) (cw : CanP (l + 1) w) (hw : Z5 w = false) (cf : CanP l f) (h : ∀ x, Y7 x f = Y7 x u * Y7 x w) : False := by
 obtain ⟨l', cs, rfl, hl', h2, hs, ht⟩ := cu.node' (by omega)
 have e : l' = l := by have : ((l' + 1 : Nat) : Int) = ((l + 1 : Nat) : Int) := hu; omega
 subst e
 have hm := Y3 (cs := cs) (i := cs.length - 1) (by omega)
 obtain ⟨x, h1, N, hN⟩ := ((far_ne (by omega) (hs _ hm) (last_ne ht (by omega))).and (far_ne (k := l' + 1) (by omega) cw hw)).ex
 match cs, h2, hs, hm, h1, h with
 | a :: as, h2, hs, hm, h1, h =>
  have hm' : atP (a :: as) ((a :: as).length - 1) ∈ as := by
   match as, h2 with
   | b :: bs, _ =>
    have : atP (a :: b :: bs) ((a :: b :: bs).length - 1) = atP (b :: bs) bs.length := rfl
    rw [this]; exact Y3 (by simp)
  obtain ⟨N', hN'⟩ := hv_big (a := Y7 x a) (as := as.map (Y7 x)) (fun ha => h1 (ha _ (List.mem_map_of_mem hm'))) (Y7 x f).natAbs
  have q1 := hN (max N N') (by omega)
  have q2 := hN' (max N N') (by omega)
  have q3 := h (x.set l' (max N N'))
  rw [valP_set hl cf.lev, node_set hl fun z hz => (hs z hz).lev] at q3
  have q4 := big_mul q2 q1
  rw [show hv (max N N') (Y7 x a :: as.map (Y7 x)) = hv (max N N') ((a :: as).map (Y7 x)) from rfl, ← q3] at q4
  omega
theorem R5 {p : Pol} (h : Z5 p = false) : p ≠ p0 := fun e => by rw [e, zeroP_p0] at h; cases h
theorem quot_ne {f g q : Pol} (hf : Z5 f = false) (cf : CanP 4 f) (h : ∀ x, Y7 x f = Y7 x q * Y7 x g) : Z5 q = false ∧ Z5 g = false := by
 constructor
 ·rcases hz : Z5 q with _ | _
  ·rfl
  ·exact absurd (zero_of_val cf fun x => by rw [h, valP_zero hz]; simp) (R5 hf)
 ·rcases hz : Z5 g with _ | _
  ·rfl
  ·exact absurd (zero_of_val cf fun x => by rw [h, valP_zero hz]; simp) (R5 hf)
theorem quot_lv {f g q : Pol} (cf : CanP 4 f) (cg : CanP 4 g) (cq : CanP 4 q) (hf : Z5 f = false) (h : ∀ x, Y7 x f = Y7 x q * Y7 x g) : q.lv ≤ f.lv ∧ g.lv ≤ f.lv := by
 have h1 := cf.lev.lv; have h2 := cg.lev.lv; have h3 := cq.lev.lv
 obtain ⟨nq, ng⟩ := quot_ne hf cf h
 have key : ¬ f.lv < max q.lv g.lv := fun hlt => by
  obtain ⟨l, hl⟩ : ∃ l : Nat, max q.lv g.lv = ((l + 1 : Nat) : Int) := ⟨(max q.lv g.lv).toNat - 1, by omega⟩
  have k1 : CanP (l + 1) q := cq.lower (by omega)
  have k2 : CanP (l + 1) g := cg.lower (by omega)
  have k3 : CanP l f := cf.lower (by omega)
  by_cases e : q.lv = ((l + 1 : Nat) : Int)
  ·exact top_ne (by omega) k1 e k2 ng k3 h
  ·exact top_ne (by omega) k2 (by omega) k1 nq k3 fun x => by rw [h, Int.mul_comm]
 omega
def mulZ : List Int → List Int → List Int
 | [], _ => []
 | u :: U, W => subZ (0 :: mulZ U W) (W.map fun w => -u * w)
theorem hv_scale {y u : Int} : ∀ W : List Int, hv y (W.map fun w => u * w) = u * hv y W
 | [] => by simp [hv]
 | w :: W => by rw [List.map_cons, hv, hv_scale W, hv]; grind
theorem hv_mul {y : Int} : ∀ U W : List Int, hv y (mulZ U W) = hv y U * hv y W
 | [], W => by simp [mulZ, hv]
 | u :: U, W => by rw [mulZ, hv_sub, hv_scale, hv, hv_mul U W, hv]; grind
theorem atN_over {l : List Int} {i : Nat} (h : l.length ≤ i) : atN l i = 0 := by simp [atN, List.getD_eq_getElem?_getD, List.getElem?_eq_none h]
theorem atN_scale {u : Int} (W : List Int) (i : Nat) : atN (W.map fun w => u * w) i = u * atN W i := by
 unfold atN; rw [List.getD_eq_getElem?_getD, List.getD_eq_getElem?_getD, List.getElem?_map]
 cases W[i]? <;> simp
theorem mulZ_over {m : Nat} {W : List Int} (hW : W.length = m + 1) : ∀ (U : List Int) (i : Nat), U.length + m ≤ i → atN (mulZ U W) i = 0
 | [], i, _ => by simp [mulZ, atN]
 | u :: U, 0, h => by simp at h
 | u :: U, i + 1, h => by
  rw [mulZ, sub_at, atN_scale, atN_over (l := W) (by simp at h; omega)]
  have : atN (0 :: mulZ U W) (i + 1) = atN (mulZ U W) i := rfl
  rw [this, mulZ_over hW U i (by simp at h; omega)]; simp
theorem mulZ_top {m : Nat} {W : List Int} (hW : W.length = m + 1) : ∀ (U : List Int) (s : Nat), U.length = s + 1 → atN (mulZ U W) (s + m) = atN U s * atN W m
 | [], s, h => by simp at h
 | [u], 0, _ => by
  rw [mulZ, sub_at, atN_scale]
  have : atN (0 :: mulZ [] W) (0 + m) = 0 := by cases m <;> simp [mulZ, atN]
  rw [this, Nat.zero_add, show atN [u] 0 = u from rfl]; grind
 | [u], s + 1, h => by simp at h
 | u :: v :: U, 0, h => by simp at h
 | u :: v :: U, s + 1, h => by
  rw [mulZ, sub_at, atN_scale, atN_over (l := W) (by omega), show s + 1 + m = (s + m) + 1 by omega]
  have : atN (0 :: mulZ (v :: U) W) (s + m + 1) = atN (mulZ (v :: U) W) (s + m) := rfl
  rw [this, mulZ_top hW (v :: U) s (by simpa using h)]
  show _ = atN (v :: U) s * _
  simp
theorem prod_at {A U W : List Pol} {l : Nat} (hl : l < 4) (hA : ∀ z ∈ A, CanP l z) (hU : ∀ z ∈ U, CanP l z) (hW : ∀ z ∈ W, CanP l z) (h : ∀ x, T5 x (x.at l) A = T5 x (x.at l) U * T5 x (x.at l) W) (x : Mo) (i : Nat) :
  Y7 x (atP A i) = atN (mulZ (U.map (Y7 x)) (W.map (Y7 x))) i := by
 rw [← atN_map]
 refine hv_uniq (fun y => ?_) i
 have := h (x.set l y)
 rw [Mo.at_set_self, valL_set_x hl fun z hz => (hA z hz).lev, valL_set_x hl fun z hz => (hU z hz).lev, valL_set_x hl fun z hz => (hW z hz).lev] at this
 rw [hv_mul, hv_map, hv_map, hv_map, this]
theorem list_atP {xs ys : List Pol} (hl : xs.length = ys.length) (h : ∀ i, atP xs i = atP ys i) : xs = ys := by
 apply List.ext_getElem hl
 intro i h1 h2
 have := h i
 simpa [atP, List.getD_eq_getElem?_getD, List.getElem?_eq_getElem h1, List.getElem?_eq_getElem h2] using this
theorem longF_complete {l : Nat} {E : Pol → Pol → Option Pol} {b qs : List Pol} (hl : l < 4) (hb : ∀ z ∈ b, CanP l z) (hb0 : 0 < b.length) (hqs : ∀ z ∈ qs, CanP l z)
  (hE : ∀ a q, CanP l a → CanP l q → (∀ x, Y7 x a = Y7 x q * Y7 x (atP b (b.length - 1))) → E a (atP b (b.length - 1)) = some q) :
  ∀ (s : Nat) {A O : List Pol}, s ≤ qs.length → s + b.length ≤ A.length + 1 → O.length = qs.length → (∀ z ∈ A, CanP l z) → (∀ x, T5 x (x.at l) A = T5 x (x.at l) (qs.take s) * T5 x (x.at l) b) → (∀ i, s ≤ i → atP O i = atP qs i) →
   ∃ A', longF E b s A O = some (A', qs) ∧ A'.all Z5 = true
 | 0, A, O, _, _, h1, hA, hv, hO => by
  refine ⟨A, ?_, ?_⟩
  ·rw [longF, list_atP h1 fun i => hO i (Nat.zero_le _)]
  ·rw [List.all_eq_true]
   intro z hz
   obtain ⟨i, hi, rfl⟩ := List.mem_iff_getElem.1 hz
   have e : A[i] = atP A i := by simp [atP, List.getD_eq_getElem?_getD, List.getElem?_eq_getElem hi]
   have := zero_of_val (p := atP A i) ((hA _ (Y3 hi)).mono (by omega)) fun x => by
    rw [prod_at (U := []) hl hA (fun z hz => by cases hz) hb (fun x => by rw [hv]; rfl)]; simp [mulZ, atN]
   rw [e, this, zeroP_p0]
 | s + 1, A, O, h0, h1, h2, hA, hv, hO => by
  have hq := hqs _ (Y3 (cs := qs) (i := s) (by omega))
  have hE' := hE (atP A (s + b.length - 1)) (atP qs s) (hA _ (Y3 (by omega))) hq fun x => by
   rw [prod_at hl hA (fun z hz => hqs z (List.mem_of_mem_take hz)) hb hv, show s + b.length - 1 = s + (b.length - 1) by omega,
    mulZ_top (m := b.length - 1) (by simp; omega) _ s (by simp; omega), atN_map, atN_map]
   congr 2
   simp [atP, List.getD_eq_getElem?_getD, List.getElem?_take]
  rw [longF, hE']
  refine longF_complete hl hb hb0 hqs hE s (by omega) (by rw [subI_len]; omega) (by rw [List.length_set]; exact h2) (subI_can (by omega) hA hb hq _ (Nat.le_refl _) (by omega)) (fun x => ?_) (fun i hi => ?_)
  ·rw [subI_val (by omega) hA hb hq _ (Nat.le_refl _) (by omega), hv, valL_take (by omega), List.take_length]; grind
  ·rw [atP_set (by omega)]
   split
   ·rename_i e; rw [e]
   ·exact hO i (by omega)
theorem coefs_last {k l : Nat} {q : Pol} (cq : CanP k q) (hz : Z5 q = false) : 0 < (Z0 q ((l + 1 : Nat) : Int)).length ∧ Z5 (atP (Z0 q ((l + 1 : Nat) : Int)) ((Z0 q ((l + 1 : Nat) : Int)).length - 1)) = false := by
 unfold Z0; split
 ·rename_i h
  obtain ⟨l', cs, rfl, _, h2, hs, ht⟩ := cq.node' (by omega)
  exact ⟨by show 0 < cs.length; omega, last_ne (cs := cs) ht (by omega)⟩
 ·exact ⟨by simp, hz⟩
theorem exactF_complete : ∀ (k j : Nat) {f g q : Pol}, j ≤ k → k ≤ 4 → CanP j f → CanP j g → CanP 4 q → Z5 g = false → (∀ x, Y7 x f = Y7 x q * Y7 x g) → X6 k f g = some q := by
 have zer : ∀ {k : Nat} {f g q : Pol}, Z5 f = true → CanP 4 f → CanP 4 g → CanP 4 q → Z5 g = false → (∀ x, Y7 x f = Y7 x q * Y7 x g) → X6 k f g = some q := fun {k f g q} hf cf cg cq hg h => by
  rw [exactF_zero hf]
  rcases val_dom cq cg fun x => by rw [← h, valP_zero hf] with e | e
  ·rw [e, cf.zero hf]
  ·exact absurd e (R5 hg)
 have cst : ∀ {f g q : Pol}, CanP 4 f → CanP 4 g → CanP 4 q → Z5 g = false → f.lv = 0 → q.lv ≤ f.lv ∧ g.lv ≤ f.lv → (∀ x, Y7 x f = Y7 x q * Y7 x g) → constF f g = some q := fun {f g q} cf cg cq hg h0 hl h => by
  have h2 := cg.lev.lv; have h3 := cq.lev.lv
  obtain ⟨a, rfl⟩ := can_of_const cf h0
  obtain ⟨c, rfl⟩ := can_of_const cg (by omega)
  obtain ⟨d, rfl⟩ := can_of_const cq (by omega)
  have hc : c ≠ 0 := fun e => by subst e; rw [constP_zero, zeroP_p0] at hg; cases hg
  have := h mo0
  rw [valP_const, valP_const, valP_const] at this
  subst this
  unfold constF
  rw [show X4 (R1 (d * c)).c = d * c from Y9 _, show X4 (R1 c).c = c from Y9 _, if_pos ⟨d, Int.mul_comm _ _⟩, Int.mul_ediv_cancel _ hc]
 intro k
 induction k with
 | zero =>
  intro j f g q hj hk cf cg cq hg h
  have cf4 : CanP 4 f := cf.mono (by omega)
  have cg4 : CanP 4 g := cg.mono (by omega)
  rcases hf : Z5 f with _ | _
  ·have hlv := quot_lv cf4 cg4 cq hf h
   have := cf.lev.lv
   rw [exactF_const hf (by omega) (by omega)]
   exact cst cf4 cg4 cq hg (by omega) hlv h
  ·exact zer hf cf4 cg4 cq hg h
 | succ k ih =>
  intro j f g q hj hk cf cg cq hg h
  have cf4 : CanP 4 f := cf.mono (by omega)
  have cg4 : CanP 4 g := cg.mono (by omega)
  rcases hf : Z5 f with _ | _
  ·have hlv := quot_lv cf4 cg4 cq hf h
   by_cases h0 : f.lv = 0
   ·rw [exactF_const hf (by omega) h0]
    exact cst cf4 cg4 cq hg h0 hlv h
   ·obtain ⟨l, cs, rfl, hl, h2, hs, ht⟩ := cf.node' h0
    have e1 : (Pol.mk ((l + 1 : Nat) : Int) z0 cs).lv = ((l + 1 : Nat) : Int) := rfl
    have e2 : (Pol.mk ((l + 1 : Nat) : Int) z0 cs).cs = cs := rfl
    rw [e1] at hlv
    have cq1 : CanP (l + 1) q := cq.lower (by omega)
    have hqs := cq1.coefs
    have h3 := cq.lev.lv
    obtain ⟨nq, _⟩ := quot_ne hf cf4 h
    obtain ⟨w1, w2⟩ := coefs_last (l := l) cq nq
    by_cases hgl : g.lv < ((l + 1 : Nat) : Int)
    ·have cgl : CanP l g := cg.lower (by omega)
     have hval : ∀ x i, Y7 x (atP cs i) = Y7 x (atP (Z0 q ((l + 1 : Nat) : Int)) i) * Y7 x g := fun x i => by
      rw [prod_at (W := [g]) (by omega) hs hqs (fun z hz => by simp at hz; subst hz; exact cgl) (fun x => by rw [valL_one, val_coefs (by omega), ← h, valP_node (by omega)]), ← atN_map]
      have : ∀ (U : List Int) (i : Nat) (v : Int), atN (mulZ U [v]) i = atN U i * v := fun U => by
       induction U with
       | nil => intro i v; simp [mulZ, atN]
       | cons u U ihU =>
        intro i v
        rw [mulZ, sub_at]
        cases i with
        | zero => simp [atN]; grind
        | succ i =>
         have e1 : atN (0 :: mulZ U [v]) (i + 1) = atN (mulZ U [v]) i := rfl
         have e2 : atN (u :: U) (i + 1) = atN U i := rfl
         rw [e1, e2, ihU, atN_over (l := List.map _ [v]) (by simp)]; simp
      exact this _ i _
     have hE : ∀ i, X6 k (atP cs i) g = some (atP (Z0 q ((l + 1 : Nat) : Int)) i) := fun i =>
      ih l (by omega) (by omega) (atP_all can_p0 hs i) cgl ((atP_all can_p0 hqs i).mono (by omega)) hg fun x => hval x i
     have hc : coefF (X6 k · g) cs = some (cs.map fun c => (X6 k c g).getD p0) := by
      unfold coefF
      rw [if_pos]
      rw [List.all_eq_true]
      intro c hc
      obtain ⟨i, hi, rfl⟩ := List.mem_iff_getElem.1 hc
      have e : cs[i] = atP cs i := by simp [atP, List.getD_eq_getElem?_getD, List.getElem?_eq_getElem hi]
      show (X6 k cs[i] g).isSome = true
      rw [e, hE]; rfl
     rw [exactF_coef hf (by omega) h0 hgl, e2, hc]
     show some (U0 _ _) = _
     rw [e1, ← join_coefs (p := q) (l := ((l + 1 : Nat) : Int)) cq (by omega) (by omega)]
     refine congrArg some (joinP_congr fun j => ?_)
     by_cases hj : j < cs.length
     ·have : atP (cs.map fun c => (X6 k c g).getD p0) j = (X6 k (atP cs j) g).getD p0 := by
       simp [atP, List.getD_eq_getElem?_getD, List.getElem?_map, List.getElem?_eq_getElem hj]
      rw [this, hE]; rfl
     ·rw [atP_over (by simp; omega)]
      have := hE j
      rw [atP_over (cs := cs) (by omega), exactF_zero zeroP_p0] at this
      exact Option.some.inj this
    ·obtain ⟨l', b, rfl, hl', hb2, hbs, hbt⟩ := cg.node' (by omega)
     have e3 : l' = l := by have : ((l' + 1 : Nat) : Int) = ((l + 1 : Nat) : Int) := Int.le_antisymm hlv.2 (Int.not_lt.1 hgl); omega
     subst e3
     have hj := join_coefs (p := q) (l := ((l' + 1 : Nat) : Int)) cq (by omega) (by omega)
     have hvc : ∀ x, T5 x (x.at l') (Z0 q ((l' + 1 : Nat) : Int)) = Y7 x q := fun x => val_coefs (by omega)
     generalize Z0 q ((l' + 1 : Nat) : Int) = qs at hqs w1 w2 hj hvc
     have hv : ∀ x, T5 x (x.at l') cs = T5 x (x.at l') qs * T5 x (x.at l') b := fun x => by
      rw [hvc, ← valP_node (c := z0) (by omega), ← valP_node (c := z0) (by omega), h]
     have hpa := prod_at (by omega) hs hqs hbs hv
     have hlen : cs.length + 1 = qs.length + b.length := by
      have k1 : qs.length - 1 + (b.length - 1) < cs.length := by
       refine Nat.lt_of_not_le fun hle => ?_
       obtain ⟨x, n1, n2⟩ := ((far_ne (by omega) (hqs _ (Y3 (by omega))) w2).and (far_ne (by omega) (hbs _ (Y3 (by omega))) (last_ne hbt (by omega)))).ex
       have := hpa x (qs.length - 1 + (b.length - 1))
       rw [mulZ_top (m := b.length - 1) (by rw [List.length_map]; omega) _ _ (by rw [List.length_map]; omega), atN_map, atN_map, atP_over hle, valP_p0] at this
       exact Int.mul_ne_zero n1 n2 this.symm
      have k2 : ¬ qs.length + b.length < cs.length + 1 := fun hlt => by
       have := zero_of_val (p := atP cs (cs.length - 1)) ((hs _ (Y3 (by omega))).mono (by omega)) fun x => by
        rw [hpa, mulZ_over (m := b.length - 1) (by rw [List.length_map]; omega) _ _ (by rw [List.length_map]; omega)]
       exact R5 (last_ne ht (by omega)) this
      omega
     have hsh : ¬ cs.length < b.length := by omega
     rw [exactF_long hf (by omega) h0 hgl hsh]
     simp only [e2, show (Pol.mk ((l' + 1 : Nat) : Int) z0 b).cs = b from rfl]
     have hn : cs.length - b.length + 1 = qs.length := by omega
     obtain ⟨A', a1, a2⟩ := longF_complete (E := X6 k) (qs := qs) (by omega) hbs (by omega) hqs (fun a r ha hr hx => ih l' (by omega) (by omega) ha (hbs _ (Y3 (by omega))) (hr.mono (by omega)) (last_ne hbt (by omega)) hx)
      (cs.length - b.length + 1) (A := cs) (O := List.replicate (cs.length - b.length + 1) p0) (by omega) (by omega) (by rw [List.length_replicate]; omega) hs (fun x => by rw [hn, List.take_length]; exact hv x) (fun i hi => by
       rw [atP_over (by rw [List.length_replicate]; omega), atP_over (by omega)])
     rw [a1]
     show (if A'.all Z5 = true then _ else _) = _
     rw [if_pos a2, e1, hj]
  ·exact zer hf cf4 cg4 cq hg h
end Go.Rt
namespace Go.Rt
open Go Go.RowKit
def Mo.add (m n : Mo) : Mo := ⟨m.a + n.a, m.b + n.b, m.c + n.c, m.d + n.d⟩
def prodT (L M : List Tm) : List Tm := L.flatMap fun s => M.map fun t => ⟨ofI (X4 s.coef * X4 t.coef), s.exp.add t.exp⟩
theorem S_shift {f : Mo → Int} {s : Tm} : ∀ M : List Tm, S f (M.map fun t => ⟨ofI (X4 s.coef * X4 t.coef), s.exp.add t.exp⟩) = X4 s.coef * S (fun b => f (s.exp.add b)) M
 | [] => by simp [S]
 | t :: M => by rw [List.map_cons, S, S_shift M, S, Y9]; grind
theorem S_prod {f : Mo → Int} {M : List Tm} : ∀ L : List Tm, S f (prodT L M) = S (fun a => S (fun b => f (a.add b)) M) L
 | [] => rfl
 | s :: L => by
  have : prodT (s :: L) M = (M.map fun t => ⟨ofI (X4 s.coef * X4 t.coef), s.exp.add t.exp⟩) ++ prodT L M := by simp [prodT]
  rw [this, S_append, S_shift, S_prod L, S]
theorem powI_add {x a b : Int} (ha : 0 ≤ a) (hb : 0 ≤ b) : powI x (a + b) = powI x a * powI x b := by
 unfold powI; rw [Int.toNat_add ha hb, Int.pow_add]
theorem ev_add {x m n : Mo} (hm : ∀ i, i < 4 → 0 ≤ m.at i) (hn : ∀ i, i < 4 → 0 ≤ n.at i) : ev x (m.add n) = ev x m * ev x n := by
 have h0 : 0 ≤ m.a := hm 0 (by decide)
 have h1 : 0 ≤ m.b := hm 1 (by decide)
 have h2 : 0 ≤ m.c := hm 2 (by decide)
 have h3 : 0 ≤ m.d := hm 3 (by decide)
 have k0 : 0 ≤ n.a := hn 0 (by decide)
 have k1 : 0 ≤ n.b := hn 1 (by decide)
 have k2 : 0 ≤ n.c := hn 2 (by decide)
 have k3 : 0 ≤ n.d := hn 3 (by decide)
 simp only [ev, Mo.add]
 rw [powI_add h0 k0, powI_add h1 k1, powI_add h2 k2, powI_add h3 k3]; grind
theorem S_scale {f : Mo → Int} {c : Int} (L : List Tm) : S (fun m => f m * c) L = S f L * c := by
 induction L with
 | nil => simp [S]
 | cons t L ih => rw [S, S, ih]; grind
theorem add_ok {L M : List Tm} (hL : ∀ t ∈ L, okT t = true) (hM : ∀ t ∈ M, okT t = true) : ∀ t ∈ prodT L M, okT t = true := fun t ht => by
 obtain ⟨s, hs, hb⟩ := List.mem_flatMap.1 ht
 obtain ⟨u, hu, rfl⟩ := List.mem_map.1 hb
 have h1 := okT_iff'.1 (hL s hs); have h2 := okT_iff'.1 (hM u hu)
 refine okT_iff'.2 fun i hi => ?_
 have a1 := h1 i hi; have a2 := h2 i hi
 match i, hi with
 | 0, _ => exact Int.add_nonneg a1 a2
 | 1, _ => exact Int.add_nonneg a1 a2
 | 2, _ => exact Int.add_nonneg a1 a2
 | 3, _ => exact Int.add_nonneg a1 a2
theorem toS_prod {f q g : Pol} (cf : CanP 4 f) (cq : CanP 4 q) (cg : CanP 4 g) (h : ∀ x, Y7 x f = Y7 x q * Y7 x g) (w : Mo → Int) :
  S w (toS f) = S (fun a => S (fun b => w (a.add b)) (toS g)) (toS q) := by
 have ok := add_ok (N2 q).ok (N2 g).ok
 have key : ofS (Q4 (prodT (toS q) (toS g))) = f := by
  refine val_uniq (can_of (normS_can _)) cf fun x => ?_
  rw [val_V (can_of (normS_can _)).lev, V_of (normS_can _), normS_S, keepT_id ok, S_prod, h, val_V cq.lev, val_V cg.lev, ← toS_S cq.lev, ← toS_S cg.lev, ← S_scale]
  refine S_congr fun s hs => ?_
  rw [← S_mul]
  exact S_congr fun t ht => ev_add (okT_iff'.1 ((N2 q).ok s hs)) (okT_iff'.1 ((N2 g).ok t ht))
 rw [← key, toS_of (normS_can _), normS_S, keepT_id ok, S_prod]
def ltV (v : Nat) (m n : Mo) : Prop := m.at v < n.at v ∨ (m.at v = n.at v ∧ ltM m n)
theorem ltV_irr {v : Nat} (m : Mo) : ¬ ltV v m m := by unfold ltV ltM; omega
theorem ltV_trans {v : Nat} {l m n : Mo} (h : ltV v l m) (h1 : ltV v m n) : ltV v l n := by unfold ltV ltM at *; omega
theorem ltV_tri {v : Nat} {m n : Mo} (h : m ≠ n) : ltV v m n ∨ ltV v n m := by
 rcases Int.lt_trichotomy (m.at v) (n.at v) with e | e | e
 ·exact .inl (.inl e)
 ·by_cases q : ltM m n
  ·exact .inl (.inr ⟨e, q⟩)
  ·exact .inr (.inr ⟨e.symm, ltM_of_le_ne q h⟩)
 ·exact .inr (.inl e)
theorem ltV_add {v : Nat} {s s0 t t0 : Mo} (hv : v < 4) (h : ltV v s s0) (h1 : t = t0 ∨ ltV v t t0) : ltV v (s.add t) (s0.add t0) := by
 have e : ∀ m n : Mo, (m.add n).at v = m.at v + n.at v := fun m n => by
  match v, hv with
  | 0, _ => rfl
  | 1, _ => rfl
  | 2, _ => rfl
  | 3, _ => rfl
 unfold ltV at *
 rw [e, e]
 rcases h1 with rfl | h1
 ·simp only [ltM, Mo.add] at *; omega
 ·simp only [ltM, Mo.add] at *; omega
theorem top_add {v : Nat} {s s0 t t0 : Mo} (hv : v < 4) (hs : ¬ ltV v s0 s) (ht : ¬ ltV v t0 t) (h : s.add t = s0.add t0) : s = s0 ∧ t = t0 := by
 have comm : ∀ m n : Mo, m.add n = n.add m := fun m n => by simp [Mo.add, Int.add_comm]
 have k2 : t = t0 ∨ ltV v t t0 := by
  by_cases q : t = t0
  ·exact .inl q
  ·exact .inr ((ltV_tri q).resolve_right ht)
 have k1 : s = s0 ∨ ltV v s s0 := by
  by_cases q : s = s0
  ·exact .inl q
  ·exact .inr ((ltV_tri q).resolve_right hs)
 have e1 : s = s0 := k1.elim id fun k => by
  have := ltV_add hv k k2; rw [h] at this; exact absurd this (ltV_irr _)
 refine ⟨e1, k2.elim id fun k => ?_⟩
 have := ltV_add hv k k1; rw [comm t s, comm t0 s0, h] at this; exact absurd this (ltV_irr _)
theorem max_ex {v : Nat} : ∀ {L : List Tm}, L ≠ [] → ∃ t0 ∈ L, ∀ t ∈ L, ¬ ltV v t0.exp t.exp
 | [], h => absurd rfl h
 | [t], _ => ⟨t, by simp, fun u hu => by simp at hu; subst hu; exact ltV_irr _⟩
 | t :: u :: L, _ => by
  obtain ⟨t0, h1, h2⟩ := max_ex (v := v) (L := u :: L) (by simp)
  by_cases q : ltV v t0.exp t.exp
  ·refine ⟨t, by simp, fun w hw => ?_⟩
   rcases List.mem_cons.1 hw with rfl | hw
   ·exact ltV_irr _
   ·exact fun e => h2 w hw (ltV_trans q e)
  ·refine ⟨t0, List.mem_cons_of_mem _ h1, fun w hw => ?_⟩
   rcases List.mem_cons.1 hw with rfl | hw
   ·exact q
   ·exact h2 w hw
theorem S_pick {φ : Mo → Int} {s0 : Tm} : ∀ {L : List Tm}, L.Pairwise (fun x y => ltM y.exp x.exp) → s0 ∈ L → (∀ s ∈ L, s.exp ≠ s0.exp → φ s.exp = 0) → S φ L = X4 s0.coef * φ s0.exp
 | [], _, hs, _ => by cases hs
 | t :: L, h, hs, h0 => by
  rw [List.pairwise_cons] at h
  rcases List.mem_cons.1 hs with rfl | hs
  ·rw [S, S_zero fun u hu => h0 u (List.mem_cons_of_mem _ hu) (ltM_ne (h.1 u hu))]; omega
  ·rw [S, h0 t (by simp) (ltM_ne (h.1 s0 hs)).symm, S_pick h.2 hs fun u hu => h0 u (List.mem_cons_of_mem _ hu)]; simp
theorem deg_prod {f q g : Pol} {v : Nat} (hv : v < 4) (cf : CanP 4 f) (cq : CanP 4 q) (cg : CanP 4 g) (nq : q ≠ p0) (ng : g ≠ p0) (h : ∀ x, Y7 x f = Y7 x q * Y7 x g) :
  ∃ s0 ∈ toS q, ∃ t0 ∈ toS g, ∃ u ∈ toS f, u.exp = s0.exp.add t0.exp ∧ (∀ s ∈ toS q, s.exp.at v ≤ s0.exp.at v) ∧ ∀ t ∈ toS g, t.exp.at v ≤ t0.exp.at v := by
 obtain ⟨s0, hs0, ms⟩ := max_ex (v := v) (L := toS q) fun e => nq ((toS_nil cq).1 e)
 obtain ⟨t0, ht0, mt⟩ := max_ex (v := v) (L := toS g) fun e => ng ((toS_nil cg).1 e)
 have le : ∀ {m n : Mo}, ¬ ltV v m n → n.at v ≤ m.at v := fun {m n} h => by unfold ltV at h; omega
 have key := toS_prod cf cq cg h (ind (s0.exp.add t0.exp))
 have in1 : ∀ s ∈ toS q, s.exp ≠ s0.exp → S (fun b => ind (s0.exp.add t0.exp) (s.exp.add b)) (toS g) = 0 := fun s hs hne =>
  S_zero fun t ht => ind_ne fun e => hne (top_add hv (ms s hs) (mt t ht) e).1
 have in2 : S (fun b => ind (s0.exp.add t0.exp) (s0.exp.add b)) (toS g) = X4 t0.coef := by
  rw [S_pick (φ := fun b => ind (s0.exp.add t0.exp) (s0.exp.add b)) (N2 g).srt ht0 fun t ht hne => ind_ne fun e => hne (top_add hv (ms s0 hs0) (mt t ht) e).2, ind_self, Int.mul_one]
 rw [S_pick (φ := fun a => S (fun b => ind (s0.exp.add t0.exp) (a.add b)) (toS g)) (N2 q).srt hs0 in1, in2] at key
 have hne : S (ind (s0.exp.add t0.exp)) (toS f) ≠ 0 := by
  rw [key]; exact Int.mul_ne_zero ((N2 q).ne s0 hs0) ((N2 g).ne t0 ht0)
 have : ∃ u ∈ toS f, u.exp = s0.exp.add t0.exp := by
  refine Classical.byContradiction fun hno => hne (S_zero fun u hu => ind_ne fun e => hno ⟨u, hu, e⟩)
 obtain ⟨u, hu, e⟩ := this
 exact ⟨s0, hs0, t0, ht0, u, hu, e, fun s hs => le (ms s hs), fun t ht => le (mt t ht)⟩
theorem Mo.add_at {m n : Mo} {v : Nat} (hv : v < 4) : (m.add n).at v = m.at v + n.at v := by
 match v, hv with
 | 0, _ => rfl
 | 1, _ => rfl
 | 2, _ => rfl
 | 3, _ => rfl
theorem toS_ok {p : Pol} {t : Tm} (ht : t ∈ toS p) {i : Nat} (hi : i < 4) : 0 ≤ t.exp.at i := okT_iff'.1 ((N2 p).ok t ht) i hi
theorem sz_quot {f q g : Pol} {D : Nat} (cf : CanP 4 f) (cq : CanP 4 q) (cg : CanP 4 g) (ng : g ≠ p0) (h : ∀ x, Y7 x f = Y7 x q * Y7 x g) (hs : Sz D f) (hD : 1 ≤ D) : Sz D q := by
 by_cases nq : q = p0
 ·rw [nq]; exact .p0
 ·rw [← of_toS cq]
  refine sz_of hD (fun s hs' i hi => ?_) _ (Nat.le_refl _)
  obtain ⟨s0, hs0, t0, ht0, u, hu, e, m1, _⟩ := deg_prod hi cf cq cg nq ng h
  have a1 := toS_exp cf.lev hs hD u hu i hi
  have a2 := toS_ok ht0 hi
  have a3 := m1 s hs'
  rw [e, Mo.add_at hi] at a1
  omega
theorem nrmL_subI {b A : List Pol} {q : Pol} {s : Nat} : ∀ i, i ≤ b.length → s + i ≤ A.length → V3 (subI b q s i A) ≤ V3 A + nrm q * V3 (b.take i)
 | 0, _, _ => by simp [subI, V3]
 | i + 1, h, h' => by
  have ih := nrmL_subI (b := b) (A := A) (q := q) (s := s) i (by omega) (by omega)
  have h1 := nrmL_set (z := K0 4 (atP (subI b q s i A) (s + i)) (Z2 (K3 4 q (atP b i)) (-1))) (zs := subI b q s i A) (n := s + i) (by rw [subI_len]; omega)
  have h2 := nrm_add 4 (atP (subI b q s i A) (s + i)) (Z2 (K3 4 q (atP b i)) (-1))
  have h3 := nrm_scale (K3 4 q (atP b i)) (-1)
  have h4 := nrm_mul 4 q (atP b i)
  rw [subI, nrmL_take1 (by omega), Nat.mul_add]
  have h5 : (-1 : Int).natAbs = 1 := rfl
  rw [h5, Nat.mul_one] at h3
  omega
theorem subI_sz {b A : List Pol} {q : Pol} {s D E : Nat} (hD : 1 ≤ D) (hE : 1 ≤ E) (hA : ∀ z ∈ A, Sz D z) (hb : ∀ z ∈ b, Sz E z) (hq : Sz D q) : ∀ i, i ≤ b.length → s + i ≤ A.length → ∀ z ∈ subI b q s i A, Sz (D + (E - 1)) z
 | 0, _, _ => fun z hz => (hA z hz).mono (by omega)
 | i + 1, h, h' => fun z hz => by
  have ih := subI_sz (s := s) hD hE hA hb hq i (by omega) (by omega)
  rw [subI] at hz
  rcases List.mem_or_eq_of_mem_set hz with hz | rfl
  ·exact ih z hz
  ·exact .add (by omega) 4 (ih _ (Y3 (by rw [subI_len]; omega))) ((Sz.mulT hD hE 4 hq (hb _ (Y3 (by omega)))).scale _)
theorem set_mem {xs : List Pol} {n : Nat} {z : Pol} {C : Pol → Prop} (h : ∀ x ∈ xs, C x) (hz : C z) : ∀ x ∈ xs.set n z, C x := fun x hx => by
 rcases List.mem_or_eq_of_mem_set hx with hx | rfl
 ·exact h x hx
 ·exact hz
structure LI (l D E N M n s : Nat) (b A O : List Pol) : Prop where
 le : s ≤ n
 lenO : O.length = n
 lenA : A.length + 1 = n + b.length
 can : ∀ z ∈ A, CanP l z
 canO : ∀ z ∈ O, CanP l z
 sz : ∀ z ∈ A, Sz (D + (n - s) * (E - 1)) z
 szO : ∀ z ∈ O, Sz (D + (n - s) * (E - 1)) z
 nr : V3 A + V3 O ≤ N * M ^ (n - s)
structure LB (l E : Nat) (b : List Pol) : Prop where
 can : ∀ z ∈ b, CanP l z
 sz : ∀ z ∈ b, Sz E z
 len : 0 < b.length
 last : Z5 (atP b (b.length - 1)) = false
theorem LI.step {l D E N M n s K : Nat} {b A O : List Pol} {q : Pol} (h : LI l D E N M n (s + 1) b A O) (hb : LB l E b) (hl : l ≤ 4) (hD : 1 ≤ D) (hE : 1 ≤ E) (cq : CanP l q) (hq : ∀ x, Y7 x (atP A (s + b.length - 1)) = Y7 x q * Y7 x (atP b (b.length - 1)))
  (nq : nrm q ≤ nrm (atP A (s + b.length - 1)) * K) (hM : K * (V3 b + 2) ≤ M) (hK : 1 ≤ K) : LI l D E N M n s b (subI b q s b.length A) (O.set s q) := by
 obtain ⟨h1, h2, h3, h4, h5, h6, h7, h8⟩ := h
 have h0 := hb.len
 have e : n - s = (n - (s + 1)) + 1 := by omega
 have hX : D + (n - s) * (E - 1) = D + (n - (s + 1)) * (E - 1) + (E - 1) := by rw [e, Nat.add_mul]; omega
 have hm := Y3 (cs := A) (i := s + b.length - 1) (by omega)
 have sq : Sz (D + (n - (s + 1)) * (E - 1)) q := sz_quot ((h4 _ hm).mono hl) (cq.mono hl) ((hb.can _ (Y3 (by omega))).mono hl) (R5 hb.last) hq (h6 _ hm) (by omega)
 refine ⟨by omega, by rw [List.length_set]; exact h2, by rw [subI_len]; exact h3, subI_can hl h4 hb.can cq _ (Nat.le_refl _) (by omega), set_mem h5 cq, ?_, ?_, ?_⟩
 ·rw [hX]; exact subI_sz (by omega) hE h6 hb.sz sq _ (Nat.le_refl _) (by omega)
 ·rw [hX]; exact set_mem (fun x hx => (h7 x hx).mono (by omega)) (sq.mono (by omega))
 ·have a1 := nrmL_subI (b := b) (A := A) (q := q) (s := s) _ (Nat.le_refl _) (by omega)
  have a2 := nrmL_set (zs := O) (n := s) (z := q) (by omega)
  have a3 := nrm_atP A (s + b.length - 1)
  rw [List.take_length] at a1
  have a4 : nrm q ≤ (V3 A + V3 O) * K := Nat.le_trans nq (Nat.mul_le_mul_right _ (by omega))
  generalize hT : V3 A + V3 O = T at *
  have a5 : nrm q * V3 b ≤ T * K * V3 b := Nat.mul_le_mul_right _ a4
  have a6 : T * 1 ≤ T * K := Nat.mul_le_mul_left _ hK
  have a7 : T * (K * (V3 b + 2)) = T * K * V3 b + T * K + T * K := by grind
  have a8 : T * (K * (V3 b + 2)) ≤ T * M := Nat.mul_le_mul_left _ hM
  have a9 : T * M ≤ N * M ^ (n - (s + 1)) * M := Nat.mul_le_mul_right _ h8
  rw [e, Nat.pow_succ, ← Nat.mul_assoc]
  omega
def gM : Nat → Nat → Nat → Nat → Nat
 | 0, _, _, _ => 0
 | k + 1, D, E, g => D * (gM k (D + D * (E - 1)) E g + g)
theorem gM_mono : ∀ {k D D' E g : Nat}, D ≤ D' → gM k D E g ≤ gM k D' E g
 | 0, _, _, _, _, _ => Nat.le_refl _
 | k + 1, D, D', E, g, h => by
  have h1 : D * (E - 1) ≤ D' * (E - 1) := Nat.mul_le_mul_right _ h
  exact Nat.mul_le_mul h (Nat.add_le_add_right (gM_mono (by omega)) _)
theorem gM_succ {k D E g : Nat} (hD : 1 ≤ D) : gM k D E g ≤ gM (k + 1) D E g := by
 have h1 : gM k D E g ≤ gM k (D + D * (E - 1)) E g := gM_mono (by omega)
 have h2 : 1 * (gM k (D + D * (E - 1)) E g + g) ≤ D * (gM k (D + D * (E - 1)) E g + g) := Nat.mul_le_mul_right _ hD
 rw [gM]; omega
theorem LI.first {l D E N M : Nat} {b A : List Pol} (hb : 0 < b.length) (hlen : b.length ≤ A.length) (hA : ∀ z ∈ A, CanP l z) (sA : ∀ z ∈ A, Sz D z) (nA : V3 A ≤ N) :
  LI l D E N M (A.length - b.length + 1) (A.length - b.length + 1) b A (List.replicate (A.length - b.length + 1) p0) := by
 refine ⟨Nat.le_refl _, by simp, by omega, hA, fun z hz => by rw [(List.mem_replicate.1 hz).2]; exact can_p0, fun z hz => (sA z hz).mono (by omega), fun z hz => by rw [(List.mem_replicate.1 hz).2]; exact .p0, ?_⟩
 rw [nrmL_rep, Nat.sub_self, Nat.pow_zero, Nat.mul_one]; omega
theorem longF_LI {l D E N M n K : Nat} {b : List Pol} {Ex : Pol → Pol → Option Pol} (hb : LB l E b) (hl : l ≤ 4) (hD : 1 ≤ D) (hE : 1 ≤ E) (hM : K * (V3 b + 2) ≤ M) (hK : 1 ≤ K) (hn : n ≤ D)
  (hEx : ∀ a q, CanP l a → Sz (D + D * (E - 1)) a → Ex a (atP b (b.length - 1)) = some q → CanP l q ∧ (∀ x, Y7 x a = Y7 x q * Y7 x (atP b (b.length - 1))) ∧ nrm q ≤ nrm a * K) :
  ∀ (s : Nat) {A O A' O' : List Pol}, LI l D E N M n s b A O → longF Ex b s A O = some (A', O') → LI l D E N M n 0 b A' O'
 | 0, A, O, A', O', h, e => by rw [longF] at e; cases e; exact h
 | s + 1, A, O, A', O', h, e => by
  rw [longF] at e
  split at e
  ·cases e
  ·rename_i q hq
   have hle := h.le; have hlA := h.lenA
   have hm := Y3 (cs := A) (i := s + b.length - 1) (by have := hb.len; omega)
   have hX : D + (n - (s + 1)) * (E - 1) ≤ D + D * (E - 1) := Nat.add_le_add_left (Nat.mul_le_mul_right _ (by omega)) _
   obtain ⟨q1, q2, q3⟩ := hEx _ _ (h.can _ hm) ((h.sz _ hm).mono hX) hq
   exact longF_LI hb hl hD hE hM hK hn hEx s (h.step hb hl hD hE q1 q2 q3 hM hK) e
theorem exactF_nrm : ∀ (k j : Nat) {f g q : Pol} {D E u : Nat}, j ≤ k → k ≤ 4 → CanP j f → CanP j g → Z5 g = false → Sz D f → Sz E g → 1 ≤ D → 1 ≤ E → nrm g + 2 ≤ B32 ^ u → X6 k f g = some q → nrm q ≤ nrm f * B32 ^ gM k D E u := by
 have one : ∀ n, 1 ≤ B32 ^ n := fun n => Nat.pow_pos (by decide)
 have self : ∀ (a n : Nat), a ≤ a * B32 ^ n := fun a n => by have := Nat.mul_le_mul_left a (one n); omega
 have cst : ∀ {f g q : Pol} {n : Nat}, constF f g = some q → nrm q ≤ nrm f * B32 ^ n := fun {f g q n} h => by
  unfold constF at h
  split at h
  ·cases h
   refine Nat.le_trans ?_ (self _ _)
   rw [nrm_const, nrm_eq f]
   have := Int.natAbs_ediv_le_natAbs (X4 f.c) (X4 g.c)
   omega
  ·cases h
 intro k
 induction k with
 | zero =>
  intro j f g q D E u hj hk cf cg hg sf sg hD hE hu h
  rcases hf : Z5 f with _ | _
  ·by_cases hlt : f.lv < g.lv
   ·rw [exactF_lt hf hlt] at h; cases h
   ·have := cf.lev.lv; have := cg.lev.lv
    rw [exactF_const hf hlt (by omega)] at h
    exact cst h
  ·rw [exactF_zero hf] at h; cases h; exact self _ _
 | succ k ih =>
  intro j f g q D E u hj hk cf cg hg sf sg hD hE hu h
  rcases hf : Z5 f with _ | _
  ·by_cases hlt : f.lv < g.lv
   ·rw [exactF_lt hf hlt] at h; cases h
   ·by_cases h0 : f.lv = 0
    ·rw [exactF_const hf hlt h0] at h; exact cst h
    ·obtain ⟨l, cs, rfl, hl, h2, hs, ht⟩ := cf.node' h0
     have e1 : (Pol.mk ((l + 1 : Nat) : Int) z0 cs).lv = ((l + 1 : Nat) : Int) := rfl
     have e2 : (Pol.mk ((l + 1 : Nat) : Int) z0 cs).cs = cs := rfl
     have hN : V3 cs ≤ nrm (Pol.mk ((l + 1 : Nat) : Int) z0 cs) := by rw [nrm_eq]; exact Nat.le_add_left _ _
     by_cases hgl : g.lv < ((l + 1 : Nat) : Int)
     ·rw [exactF_coef hf hlt h0 hgl] at h
      split at h
      ·cases h
      ·rename_i O hO; cases h
       obtain ⟨rfl, hEx⟩ := coefF_some hO
       have cgl : CanP l g := cg.lower (by omega)
       refine Nat.le_trans (nrm_join _ _) (Nat.le_trans (nrmL_map (c := B32 ^ gM k D E u) fun c hc => ?_) (Nat.mul_le_mul hN (Nat.pow_le_pow_right (by decide) (gM_succ hD))))
       obtain ⟨r, hr⟩ := hEx c hc
       have hr' : X6 k c g = some r := hr
       rw [hr']
       exact ih l (by omega) (by omega) (hs c hc) cgl hg (sf.sub c hc) sg hD hE hu hr
     ·by_cases hsh : cs.length < g.cs.length
      ·rw [exactF_short hf hlt h0 hgl hsh] at h; cases h
      ·rw [exactF_long hf hlt h0 hgl hsh] at h
       obtain ⟨l', b, rfl, hl', hb2, hbs, hbt⟩ := cg.node' (by omega)
       have e3 : l' = l := by have : ((l' + 1 : Nat) : Int) = ((l + 1 : Nat) : Int) := Int.le_antisymm (Int.not_lt.1 hlt) (Int.not_lt.1 hgl); omega
       subst e3
       split at h
       ·cases h
       ·rename_i A O hAO
        split at h
        ·cases h
         have hlast := last_ne hbt (by omega)
         have hbl : nrm (atP b (b.length - 1)) ≤ nrm (Pol.mk ((l' + 1 : Nat) : Int) z0 b) := nrmL_sub (Y3 (cs := b) (i := b.length - 1) (by omega))
         have hLB : LB l' E b := ⟨hbs, sg.sub, by omega, hlast⟩
         have hlen : ¬ cs.length < b.length := hsh
         have hD1 : cs.length ≤ D := sf.cs
         have hbn : V3 b ≤ nrm (Pol.mk ((l' + 1 : Nat) : Int) z0 b) := by rw [nrm_eq]; exact Nat.le_add_left _ _
         have hDE : D ≤ D + D * (E - 1) := by omega
         have hfin := longF_LI (K := B32 ^ gM k (D + D * (E - 1)) E u) (M := B32 ^ (gM k (D + D * (E - 1)) E u + u)) hLB (by omega) hD hE (by rw [Nat.pow_add]; exact Nat.mul_le_mul_left _ (by omega)) (one _) (n := cs.length - b.length + 1) (by omega)
          (fun a r ha sa hr => by
           obtain ⟨i1, i2⟩ := exactF_sound k l' (by omega) (by omega) ha (hbs _ (Y3 (by omega))) hr
           exact ⟨i1, i2, ih l' (by omega) (by omega) ha (hbs _ (Y3 (by omega))) hlast sa (sg.sub _ (Y3 (cs := b) (by omega))) (by omega) hE (by omega) hr⟩)
          _ (LI.first (by omega) (by omega) hs sf.sub hN) hAO
         have hnr := hfin.nr
         rw [Nat.sub_zero, ← Nat.pow_mul] at hnr
         refine Nat.le_trans (nrm_join _ _) (Nat.le_trans (Nat.le_trans (Nat.le_add_left _ _) hnr) (Nat.mul_le_mul_left _ (Nat.pow_le_pow_right (by decide) ?_)))
         rw [gM, Nat.mul_comm]
         exact Nat.mul_le_mul_right _ (by omega)
        ·cases h
  ·rw [exactF_zero hf] at h; cases h; exact self _ _
end Go.Rt
namespace Go.Rt
open Go Go.RowKit
structure Pg (D B : Nat) (p : Pol) : Prop where
 can : CanP 4 p
 sz : Sz D p
 nr : nrm p < B32 ^ B
theorem Pg.fit {D B : Nat} {p : Pol} (h : Pg D B p) (hD : D ≤ 4294967296) : Fit B p := h.sz.fit hD h.nr
theorem Pg.canon {D B : Nat} {p : Pol} (h : Pg D B p) : canonB p 5 = true := can_canon h.can (by decide)
theorem normC_can {p : Pol} (h : CanP 4 p) : normC p = p := by
 have hl := h.lev.lv
 unfold normC
 split
 ·obtain ⟨n, rfl⟩ := can_of_const h (by omega)
  exact congrArg R1 (Y9 n)
 ·rw [if_neg (by omega)]; exact can_scale1 h
theorem Pg.mono {D D' B B' : Nat} {p : Pol} (h : Pg D B p) (hD : D ≤ D') (hB : B ≤ B') : Pg D' B' p := ⟨h.can, h.sz.mono hD, Nat.lt_of_lt_of_le h.nr (pow_mono hB)⟩
theorem Pg.c_len {D B : Nat} {p : Pol} (h : Pg D B p) (hD : D ≤ 4294967296) : p.c.abs.length ≤ B := (h.fit hD).c
theorem pg_p0 {D B : Nat} : Pg D B p0 := ⟨can_p0, .p0, by rw [nrm_p0]; exact Nat.pow_pos (by decide)⟩
theorem pow2_lt {a b B : Nat} (ha : a < B32 ^ B) (hb : b < B32 ^ B) : a + b < B32 ^ (B + 1) := by
 have h1 : B32 ^ (B + 1) = B32 ^ B * 4294967296 := by rw [Nat.pow_succ]
 omega
theorem Pg.add {D B : Nat} {p q : Pol} (hp : Pg D B p) (hq : Pg D B q) (hD : 1 ≤ D) : Pg D (B + 1) (K0 4 p q) :=
 ⟨.add 4 4 (Nat.le_refl _) hp.can hq.can, .add hD 4 hp.sz hq.sz, Nat.lt_of_le_of_lt (nrm_add 4 p q) (pow2_lt hp.nr hq.nr)⟩
theorem Pg.neg {D B : Nat} {p : Pol} (hp : Pg D B p) : Pg D B (Z2 p (-1)) :=
 ⟨.scale hp.can.lev _, hp.sz.scale _, Nat.lt_of_le_of_lt (nrm_scale p (-1)) (by rw [show (-1 : Int).natAbs = 1 from rfl, Nat.mul_one]; exact hp.nr)⟩
theorem Pg.scale {D B C : Nat} {p : Pol} {n : Int} (hp : Pg D B p) (hn : n.natAbs < B32 ^ C) : Pg D (B + C) (Z2 p n) :=
 ⟨.scale hp.can.lev _, hp.sz.scale _, Nat.lt_of_le_of_lt (nrm_scale p n) (mul_fitN hp.nr hn)⟩
theorem Pg.mul {D E B C : Nat} {p q : Pol} (hp : Pg D B p) (hq : Pg E C q) (hD : 1 ≤ D) (hE : 1 ≤ E) : Pg (D + E) (B + C) (K3 4 p q) :=
 ⟨.mul 4 4 (Nat.le_refl _) (Nat.le_refl _) hp.can hq.can, .mul hD hE 4 hp.sz hq.sz, Nat.lt_of_le_of_lt (nrm_mul 4 p q) (mul_fitN hp.nr hq.nr)⟩
theorem Pg.mulT {D E B C : Nat} {p q : Pol} (hp : Pg D B p) (hq : Pg E C q) (hD : 1 ≤ D) (hE : 1 ≤ E) : Pg (D + (E - 1)) (B + C) (K3 4 p q) :=
 ⟨.mul 4 4 (Nat.le_refl _) (Nat.le_refl _) hp.can hq.can, .mulT hD hE 4 hp.sz hq.sz, Nat.lt_of_le_of_lt (nrm_mul 4 p q) (mul_fitN hp.nr hq.nr)⟩
theorem norm_join {l : Nat} {cs : List Pol} (hl : l < 4) (h : ∀ z ∈ cs, CanP l z) : W3 (.mk ((l + 1 : Nat) : Int) z0 cs) = U0 ((l + 1 : Nat) : Int) cs :=
 val_uniq (can_norm _) ((CanP.join h).mono (by omega)) fun x => by rw [val_norm, valP_node hl, val_join hl]
theorem cntL_le {cs : List Pol} {n : Nat} (h : ∀ q ∈ cs, cnt q ≤ n) : cntL cs ≤ cs.length * (n + 1) := by
 induction cs with
 | nil => simp [cntL]
 | cons c cs ih =>
  have h1 := h c (by simp)
  have h2 := ih fun q hq => h q (by simp [hq])
  rw [cntL, List.length_cons, Nat.add_mul]; omega
theorem cnt_node {l D n : Nat} {cs : List Pol} (h : ∀ z ∈ cs, CanP l z) (hs : ∀ z ∈ cs, Sz D z) (hn : cs.length ≤ n) : cnt (.mk ((l + 1 : Nat) : Int) z0 cs) ≤ 1 + n * ((D + 1) ^ l + 1) := by
 rw [cnt_eq]
 have h1 := cntL_le (cs := cs) fun q hq => cnt_can (h q hq) (hs q hq)
 have h2 : cs.length * ((D + 1) ^ l + 1) ≤ n * ((D + 1) ^ l + 1) := Nat.mul_le_mul_right _ hn
 show 1 + cntL cs ≤ _; omega
theorem fit_node {D B : Nat} {l : Int} {cs : List Pol} (hs : ∀ z ∈ cs, Sz D z) (hn : cs.length ≤ 4294967296) (hD : D ≤ 4294967296) (hB : V3 cs < B32 ^ B) : Fit B (.mk l z0 cs) :=
 .mk (fun d h => by cases h) (Nat.zero_le _) hn fun q hq => (hs q hq).fit hD (Nat.lt_of_le_of_lt (nrmL_mem hq) hB)
theorem nrm_node {l : Int} {cs : List Pol} : nrm (.mk l z0 cs) = V3 cs := by rw [nrm_eq]; show (X4 z0).natAbs + V3 cs = _; rw [zval_z0]; simp
def Rm : Nat → Nat → Nat → Nat → Nat → Prop
 | 0, D, E, u, B => 1 ≤ D ∧ 1 ≤ E ∧ D ≤ 1000000 ∧ E ≤ 1000000 ∧ B ≤ 900000000 ∧ u ≤ 1000000
 | k + 1, D, E, u, B => (1 ≤ D ∧ 1 ≤ E ∧ D ≤ 1000000 ∧ E ≤ 1000000 ∧ B ≤ 900000000 ∧ u ≤ 1000000) ∧ B + gM (k + 1) D E u ≤ 900000000 ∧ 1 + D * ((D + D * (E - 1) + 1) ^ k + 1) ≤ 1000000000 ∧ Rm k (D + D * (E - 1)) E u (B + gM (k + 1) D E u)
theorem Rm.base : ∀ {k D E u B : Nat}, Rm k D E u B → 1 ≤ D ∧ 1 ≤ E ∧ D ≤ 1000000 ∧ E ≤ 1000000 ∧ B ≤ 900000000 ∧ u ≤ 1000000
 | 0, _, _, _, _, h => h
 | _ + 1, _, _, _, _, h => h.1
theorem Rm.gm {k D E u B : Nat} (h : Rm k D E u B) : B + gM k D E u ≤ 900000000 := by
 cases k with
 | zero => have := h.base; show B + 0 ≤ _; omega
 | succ k => exact h.2.1
theorem Rm.down : ∀ {k D D' E u B B' : Nat}, 1 ≤ D' → D' ≤ D → B' ≤ B → Rm k D E u B → Rm k D' E u B'
 | 0, _, _, _, _, _, _, h1, h2, h3, h => by obtain ⟨a, b, c, d, e, f⟩ := h; exact ⟨by omega, by omega, by omega, by omega, by omega, by omega⟩
 | k + 1, D, D', E, u, B, B', h1, h2, h3, h => by
  obtain ⟨⟨a, b, c, d, e, f⟩, g1, g2, g3⟩ := h
  have m1 : gM (k + 1) D' E u ≤ gM (k + 1) D E u := gM_mono h2
  have m2 : D' * (E - 1) ≤ D * (E - 1) := Nat.mul_le_mul_right _ h2
  have m3 : D' * ((D' + D' * (E - 1) + 1) ^ k + 1) ≤ D * ((D + D * (E - 1) + 1) ^ k + 1) := Nat.mul_le_mul h2 (Nat.add_le_add_right (Nat.pow_le_pow_left (by omega) _) _)
  exact ⟨⟨by omega, by omega, by omega, by omega, by omega, by omega⟩, by omega, by omega, Rm.down (by omega) (by omega) (by omega) g3⟩
theorem CanP.ends {k : Nat} {p : Pol} (h : CanP k p) (hl : ¬ p.lv = 0) : 2 ≤ p.cs.length ∧ Z5 (atP p.cs (p.cs.length - 1)) = false ∧ 0 < p.lv ∧ p.lv ≤ k := by
 obtain ⟨l, cs, rfl, h1, h2, hs, ht⟩ := h.node' hl
 exact ⟨h2, last_ne (cs := cs) ht (by omega), by show (0 : Int) < ((l + 1 : Nat) : Int); omega, by show ((l + 1 : Nat) : Int) ≤ _; omega⟩
theorem CanP.kids {k : Nat} {p : Pol} (h : CanP k p) : ∀ q ∈ p.cs, CanP k q := by
 cases h with
 | const n => intro q hq; cases hq
 | node h h2 hs ht => exact fun q hq => (hs q hq).mono (by omega)
theorem map_one {p : Pol} (h : CanP 4 p) : p.cs.map (Z2 · (X4 (ofI 1))) = p.cs := by
 have : p.cs.map (Z2 · (X4 (ofI 1))) = p.cs.map id := List.map_congr_left fun q hq => by rw [Y9]; exact can_scale1 (h.kids q hq)
 rw [this, List.map_id]
theorem Pg.kid {D B : Nat} {p q : Pol} (h : Pg D B p) (hq : q ∈ p.cs) : Pg D B q := ⟨h.can.kids q hq, h.sz.sub q hq, Nat.lt_of_le_of_lt (nrmL_sub hq) h.nr⟩
theorem polT_node {k : Nat} {p : Pol} (h : CanP k p) (hl : ¬ p.lv = 0) : Y4 p = [tIs (.int .i64 p.lv), tIs (.bool false)] ++ [tSl X8 [], tSl Q5 p.cs] := by
 obtain ⟨l, cs, rfl, _⟩ := h.node' hl
 rw [Q0]; rfl
structure LD (m l D E u B n : Nat) (cs b : List Pol) : Prop where
 hb : LB l E b
 hl : l ≤ m
 hm : m < 4
 hD : 1 ≤ D
 hE : 1 ≤ E
 hn : n ≤ D
 hB : V3 cs < B32 ^ B
 hu : V3 b + 2 ≤ B32 ^ u
abbrev KM (m D E u : Nat) : Nat := B32 ^ (gM m (D + D * (E - 1)) E u + u)
theorem LI.small {m l D E u B n s : Nat} {cs b A O : List Pol} (h : LI l D E (V3 cs) (KM m D E u) n s b A O) (hd : LD m l D E u B n cs b) : V3 A + V3 O < B32 ^ (B + gM (m + 1) D E u) := by
 refine Nat.lt_of_le_of_lt h.nr ?_
 rw [Nat.pow_add]
 have h1 : KM m D E u ^ (n - s) ≤ B32 ^ gM (m + 1) D E u := by
  rw [← Nat.pow_mul]
  refine Nat.pow_le_pow_right (by decide) ?_
  rw [gM, Nat.mul_comm]; exact Nat.mul_le_mul_right _ (by have := hd.hn; omega)
 have h2 : 0 < B32 ^ gM (m + 1) D E u := Nat.pow_pos (by decide)
 exact Nat.lt_of_le_of_lt (Nat.mul_le_mul_left _ h1) (Nat.mul_lt_mul_of_pos_right hd.hB h2)
theorem LI.szX {m l D E u B n s : Nat} {cs b A O : List Pol} (h : LI l D E (V3 cs) (KM m D E u) n s b A O) (hd : LD m l D E u B n cs b) : D + (n - s) * (E - 1) ≤ D + D * (E - 1) :=
 Nat.add_le_add_left (Nat.mul_le_mul_right _ (by have := hd.hn; omega)) _
theorem LI.el {m l D E u B n s : Nat} {cs b A O : List Pol} (h : LI l D E (V3 cs) (KM m D E u) n s b A O) (hd : LD m l D E u B n cs b) {z : Pol} (hz : z ∈ A) : Pg (D + D * (E - 1)) (B + gM (m + 1) D E u) z :=
 ⟨(h.can z hz).mono (by have := hd.hl; have := hd.hm; omega), (h.sz z hz).mono (h.szX hd), Nat.lt_of_le_of_lt (Nat.le_trans (nrmL_mem hz) (Nat.le_add_right _ _)) (h.small hd)⟩
theorem LI.top {m l D E u B n t : Nat} {cs b A O : List Pol} (h : LI l D E (V3 cs) (KM m D E u) n (t + 1) b A O) (hd : LD m l D E u B n cs b) : t + b.length - 1 < A.length := by
 have h1 := h.lenA; have h2 := h.le; have h3 := hd.hb.len; omega
structure LQ (m l D E u B n t : Nat) (cs b A O : List Pol) (q : Pol) : Prop where
 can : CanP l q
 pg : Pg (D + D * (E - 1)) (B + gM (m + 1) D E u) q
 sub : ∀ i, i ≤ b.length → ∀ z ∈ subI b q t i A, CanP l z ∧ Pg (D + D * (E - 1)) (B + gM (m + 1) D E u) z
 next : LI l D E (V3 cs) (KM m D E u) n t b (subI b q t b.length A) (O.set t q)
theorem LI.quot {m l D E u B n t : Nat} {cs b A O : List Pol} {q : Pol} (h : LI l D E (V3 cs) (KM m D E u) n (t + 1) b A O) (hd : LD m l D E u B n cs b) (hq : X6 m (atP A (t + b.length - 1)) (atP b (b.length - 1)) = some q) : LQ m l D E u B n t cs b A O q := by
 obtain ⟨hb, hl, hm, hD, hE, hn, hB, hu⟩ := hd
 have hd : LD m l D E u B n cs b := ⟨hb, hl, hm, hD, hE, hn, hB, hu⟩
 have h0 := hb.len
 have htop := Y3 (h.top hd)
 have hlast := Y3 (cs := b) (i := b.length - 1) (by omega)
 obtain ⟨q1, q2⟩ := exactF_sound m l hl (by omega) (h.can _ htop) (hb.can _ hlast) hq
 have hX := h.szX hd
 have hgl : nrm (atP b (b.length - 1)) + 2 ≤ B32 ^ u := Nat.le_trans (Nat.add_le_add_right (nrmL_mem hlast) 2) hu
 have q3 := exactF_nrm (D := D + D * (E - 1)) m l hl (by omega) (h.can _ htop) (hb.can _ hlast) hb.last ((h.sz _ htop).mono hX) (hb.sz _ hlast) (by omega) hE hgl hq
 have hK : 1 ≤ B32 ^ gM m (D + D * (E - 1)) E u := Nat.pow_pos (by decide)
 have hM : B32 ^ gM m (D + D * (E - 1)) E u * (V3 b + 2) ≤ KM m D E u := by rw [KM, Nat.pow_add]; exact Nat.mul_le_mul_left _ hu
 have nx := h.step hb (by omega) hD hE q1 q2 q3 hM hK
 have sm := nx.small hd
 have hle := h.le; have hlA := h.lenA
 have sq : Sz (D + (n - (t + 1)) * (E - 1)) q := sz_quot ((h.can _ htop).mono (by omega)) (q1.mono (by omega)) ((hb.can _ hlast).mono (by omega)) (R5 hb.last) q2 (h.sz _ htop) (by omega)
 have hX2 : D + (n - (t + 1)) * (E - 1) + (E - 1) ≤ D + D * (E - 1) := by
  have : (n - (t + 1) + 1) * (E - 1) ≤ D * (E - 1) := Nat.mul_le_mul_right _ (by omega)
  rw [Nat.add_mul] at this; omega
 have sz2 := fun i (hi : i ≤ b.length) => subI_sz (s := t) (by omega) hE h.sz hb.sz sq i hi (by omega)
 -- the norms within a step, by the same count as at its end
 have hnr : ∀ i, i ≤ b.length → V3 (subI b q t i A) < B32 ^ (B + gM (m + 1) D E u) := fun i hi => by
  have a1 := nrmL_subI (b := b) (A := A) (q := q) (s := t) i hi (by omega)
  have a2 : V3 (b.take i) ≤ V3 b := nrmL_take b i
  have a3 := nrm_atP A (t + b.length - 1)
  have hnrm := h.nr
  have hK' := hM
  generalize hKK : B32 ^ gM m (D + D * (E - 1)) E u = K at *
  generalize hT : V3 A + V3 O = T at *
  have a4 : nrm q ≤ T * K := Nat.le_trans q3 (Nat.mul_le_mul_right _ (by omega))
  have a5 : nrm q * V3 (b.take i) ≤ T * K * V3 b := Nat.mul_le_mul a4 a2
  have a6 : T * 1 ≤ T * K := Nat.mul_le_mul_left _ hK
  have a7 : T * (K * (V3 b + 2)) = T * K * V3 b + T * K + T * K := by grind
  have a8 : T * (K * (V3 b + 2)) ≤ T * KM m D E u := Nat.mul_le_mul_left _ hM
  have a9 : T * KM m D E u ≤ V3 cs * KM m D E u ^ (n - (t + 1)) * KM m D E u := Nat.mul_le_mul_right _ hnrm
  have b1 : V3 cs * KM m D E u ^ (n - (t + 1)) * KM m D E u = V3 cs * KM m D E u ^ (n - t) := by
   rw [Nat.mul_assoc, ← Nat.pow_succ, show (n - (t + 1)).succ = n - t by omega]
  have b2 : V3 cs * KM m D E u ^ (n - t) < B32 ^ (B + gM (m + 1) D E u) := by
   rw [Nat.pow_add]
   have h1 : KM m D E u ^ (n - t) ≤ B32 ^ gM (m + 1) D E u := by
    rw [← Nat.pow_mul]
    refine Nat.pow_le_pow_right (by decide) ?_
    rw [gM, Nat.mul_comm]; exact Nat.mul_le_mul_right _ (by omega)
   have h2 : 0 < B32 ^ gM (m + 1) D E u := Nat.pow_pos (by decide)
   exact Nat.lt_of_le_of_lt (Nat.mul_le_mul_left _ h1) (Nat.mul_lt_mul_of_pos_right hB h2)
  omega
 refine ⟨q1, ⟨q1.mono (by omega), sq.mono (by omega), ?_⟩, fun i hi z hz => ?_, nx⟩
 ·have a2 := nrmL_set (zs := O) (n := t) (z := q) (by have := h.lenO; omega)
  have a3 : nrm q ≤ V3 (O.set t q) := nrmL_mem (List.mem_iff_getElem.2 ⟨t, by rw [List.length_set]; have := h.lenO; omega, by simp⟩)
  omega
 ·have hc := subI_can (s := t) (by omega : l ≤ 4) h.can hb.can q1 i hi (by omega) z hz
  exact ⟨hc, hc.mono (by omega), (sz2 i hi z hz).mono hX2, Nat.lt_of_le_of_lt (nrmL_mem hz) (hnr i hi)⟩
theorem longF_step {Ex : Pol → Pol → Option Pol} {b A O : List Pol} {s t : Nat} {q : Pol} (hs : s = t + 1) (h : Ex (atP A (t + b.length - 1)) (atP b (b.length - 1)) = some q) : longF Ex b s A O = longF Ex b t (subI b q t b.length A) (O.set t q) := by
 subst hs; rw [longF, h]
theorem longF_none {Ex : Pol → Pol → Option Pol} {b A O : List Pol} {s t : Nat} (hs : s = t + 1) (h : Ex (atP A (t + b.length - 1)) (atP b (b.length - 1)) = none) : longF Ex b s A O = none := by
 subst hs; rw [longF, h]
theorem some_of {o : Option Pol} (h : o.isSome = true) : o = some (o.getD p0) := by cases o with
 | none => cases h
 | some q => rfl
theorem none_of {o : Option Pol} (h : o.isSome = false) : o = none := by cases o with
 | none => rfl
 | some q => cases h
theorem CanP.sub_can {k l : Nat} {p : Pol} (h : CanP k p) (hl : p.lv = ((l + 1 : Nat) : Int)) : ∀ q ∈ p.cs, CanP l q := by
 obtain ⟨l', cs, rfl, _, _, hs, _⟩ := h.node' (by omega)
 have : ((l' + 1 : Nat) : Int) = ((l + 1 : Nat) : Int) := hl
 have e : l' = l := by omega
 subst e; exact hs
theorem CanP.c_node {k l : Nat} {p : Pol} (h : CanP k p) (hl : p.lv = ((l + 1 : Nat) : Int)) : nrm p = V3 p.cs := by
 obtain ⟨l', cs, rfl, _⟩ := h.node' (by omega)
 exact nrm_node
theorem zval_val (z : Z) : (X4 z).natAbs = val z.abs := by unfold X4; split <;> simp
theorem quo_len {x y : Z} {B : Nat} (h : U7 x.abs) (hl : x.abs.length ≤ B) : (ofI (X4 x / X4 y)).abs.length ≤ B := by
 have h1 : (X4 x / X4 y).natAbs < B32 ^ B := Nat.lt_of_le_of_lt (Int.natAbs_ediv_le_natAbs _ _) (Nat.lt_of_lt_of_le (val_pow h) (pow_mono hl))
 exact R8 h1
theorem coefF_none {E : Pol → Option Pol} {cs : List Pol} {c : Pol} (hc : c ∈ cs) (h : (E c).isSome = false) : coefF E cs = none := by
 unfold coefF; rw [if_neg]; intro ha; have := List.all_eq_true.1 ha c hc; rw [h] at this; cases this
theorem coefF_all {E : Pol → Option Pol} {cs : List Pol} (h : cs.all (fun c => (E c).isSome) = true) : coefF E cs = some (cs.map fun c => (E c).getD p0) := by
 unfold coefF; rw [if_pos h]
theorem all_no {A : List Pol} {z : Pol} (hz : z ∈ A) (h : Z5 z = false) : ¬ A.all Z5 = true := fun ha => by
 have := List.all_eq_true.1 ha z hz; rw [h] at this; cases this
theorem coef_facts {m l D E u : Nat} {cs : List Pol} {g : Pol} (hl : l ≤ m) (hm : m ≤ 4) (hcs : ∀ c ∈ cs, CanP l c) (cg : CanP l g) (hz : Z5 g = false) (hs : ∀ c ∈ cs, Sz D c) (sg : Sz E g) (hD : 1 ≤ D) (hE : 1 ≤ E) (ng : nrm g + 2 ≤ B32 ^ u)
  (h : coefF (X6 m · g) cs = some (cs.map fun c => (X6 m c g).getD p0)) :
  (∀ z ∈ cs.map fun c => (X6 m c g).getD p0, CanP l z) ∧ (∀ z ∈ cs.map fun c => (X6 m c g).getD p0, Sz (D + D * (E - 1)) z) ∧ V3 (cs.map fun c => (X6 m c g).getD p0) ≤ V3 cs * B32 ^ gM m D E u := by
 obtain ⟨_, hE'⟩ := coefF_some h
 have key : ∀ c ∈ cs, CanP l ((X6 m c g).getD p0) ∧ Sz D ((X6 m c g).getD p0) ∧ nrm ((X6 m c g).getD p0) ≤ nrm c * B32 ^ gM m D E u := fun c hc => by
  obtain ⟨r, hr⟩ := hE' c hc
  have hr' : X6 m c g = some r := hr
  obtain ⟨i1, i2⟩ := exactF_sound m l hl hm (hcs c hc) cg hr'
  rw [hr']
  exact ⟨i1, sz_quot ((hcs c hc).mono (by omega)) (i1.mono (by omega)) (cg.mono (by omega)) (R5 hz) i2 (hs c hc) hD, exactF_nrm m l hl hm (hcs c hc) cg hz (hs c hc) sg hD hE ng hr'⟩
 refine ⟨fun z hz => ?_, fun z hz => ?_, nrmL_map fun c hc => (key c hc).2.2⟩
 ·obtain ⟨c, hc, rfl⟩ := List.mem_map.1 hz; exact (key c hc).1
 ·obtain ⟨c, hc, rfl⟩ := List.mem_map.1 hz; exact (key c hc).2.1.mono (by omega)
theorem nrm_room {x B n : Nat} {f : Pol} {cs : List Pol} (h : x ≤ V3 cs * B32 ^ n) (hn : nrm f = V3 cs) (hf : nrm f < B32 ^ B) : x < B32 ^ (B + n) := by
 refine Nat.lt_of_le_of_lt h ?_
 rw [Nat.pow_add]
 exact Nat.mul_lt_mul_of_pos_right (hn ▸ hf) (Nat.pow_pos (by decide))
theorem cnt_room {l m D X : Nat} (hl : l ≤ m) (h : 1 + D * ((X + 1) ^ m + 1) ≤ 1000000000) : 1 + D * ((X + 1) ^ l + 1) ≤ 1000000000 := by
 have h1 : (X + 1) ^ l ≤ (X + 1) ^ m := Nat.pow_le_pow_right (by omega) hl
 have h2 : D * ((X + 1) ^ l + 1) ≤ D * ((X + 1) ^ m + 1) := Nat.mul_le_mul_left _ (by omega)
 omega
def exQ (f g : Pol) : Pol := if Z5 g = true then p0 else (X6 4 f g).getD p0
def exE (f g : Pol) : Int := if Z5 g = true then 2 else if (X6 4 f g).isSome then 0 else 3
def dvP (g f : Pol) : Bool := if Z5 g = true then Z5 f else (X6 4 f (msign g)).isSome
theorem Pg.cnt_le {D B : Nat} {p : Pol} (h : Pg D B p) (hD : (D + 1) ^ 4 ≤ 1000000000) : cnt p ≤ 1000000000 := Nat.le_trans (cnt_can h.can h.sz) hD
theorem Pg.terms_le {D B : Nat} {p : Pol} (h : Pg D B p) (h1 : 1 ≤ D) (hD : (D + 1) ^ 4 ≤ 1000000000) : (W8 (W3 p) mo0).length ≤ 4294967295 := by
 rw [norm_can h.can]
 exact Nat.le_trans (terms_len h.can.lev h.sz h1) (Nat.le_trans (Nat.pow_le_pow_left (show D ≤ D + 1 by omega) 4) (by omega))
theorem Pg.small {D B : Nat} {p : Pol} (h : Pg D B p) (hD : (D + 1) ^ 4 ≤ 1000000000) : D ≤ 1000000000 := by
 have h1 : (D + 1) ^ 1 ≤ (D + 1) ^ 4 := Nat.pow_le_pow_right (by omega) (by omega)
 rw [Nat.pow_one] at h1
 omega
theorem msign_ne {p : Pol} (h : CanP 4 p) (hz : Z5 p = false) : Z5 (msign p) = false := by
 rcases hq : Z5 (msign p) with _ | _
 ·rfl
 ·refine absurd (zero_of_val h fun x => ?_) (R5 hz)
  have := val_msign x p
  rw [valP_zero hq, val_norm] at this
  simpa using this.symm
theorem Pg.msign {D B : Nat} {p : Pol} (h : Pg D B p) (h1 : 1 ≤ D) (hz : Z5 p = false) : Pg D B (msign p) :=
 ⟨msign_can p, sz_msign (by rw [norm_can h.can]; exact h.sz) h1, Nat.lt_of_le_of_lt (nrm_msign (by rw [norm_can h.can]; exact R5 hz)) h.nr⟩
theorem nrm_msign' {p : Pol} (h : CanP 4 p) (hz : Z5 p = false) : nrm (msign p) ≤ nrm p := nrm_msign (by rw [norm_can h]; exact R5 hz)
theorem opt_dec {o : Option Pol} : decide ((if o.isSome then (0 : Int) else 3) = 0) = o.isSome := by cases o <;> rfl
end Go.Rt
namespace Go.Rt
open Go Go.RowKit
def fewT (d m : Int) (t : Tm) : Bool := decide ((t.coef.abs.length : Int) ≤ d) && (List.range 4).all fun k => decide (t.exp.at k ≤ m) && decide (-1000 ≤ t.exp.at k)
def fewS (ts : List Tm) (n d m : Int) : Bool := decide ((ts.length : Int) ≤ n) && ts.all (fewT d m)
theorem fewT_len {d m : Int} {t : Tm} (h : d < (t.coef.abs.length : Int)) : fewT d m t = false := by unfold fewT; rw [decide_eq_false (by omega)]; rfl
theorem fewT_exp {d m : Int} {t : Tm} {k : Nat} (hk : k < 4) (h : m < t.exp.at k ∨ t.exp.at k < -1000) : fewT d m t = false := by
 unfold fewT
 rw [Bool.and_eq_false_iff]; right
 rw [List.all_eq_false]
 refine ⟨k, List.mem_range.2 hk, ?_⟩
 rcases h with h | h
 ·rw [decide_eq_false (by omega)]; simp
 ·rw [show decide (-1000 ≤ t.exp.at k) = false from decide_eq_false (by omega)]; simp
theorem fewT_yes {d m : Int} {t : Tm} (h : (t.coef.abs.length : Int) ≤ d) (h1 : ∀ k, k < 4 → t.exp.at k ≤ m ∧ -1000 ≤ t.exp.at k) : fewT d m t = true := by
 unfold fewT
 rw [decide_eq_true h, Bool.true_and, List.all_eq_true]
 intro k hk
 have := h1 k (List.mem_range.1 hk)
 rw [decide_eq_true this.1, decide_eq_true this.2]; rfl
theorem fewS_no {ts : List Tm} {n d m : Int} {t : Tm} (ht : t ∈ ts) (h : fewT d m t = false) : fewS ts n d m = false := by
 unfold fewS
 rw [Bool.and_eq_false_iff]; right
 rw [List.all_eq_false]; exact ⟨t, ht, by rw [h]; decide⟩
theorem fewS_long {ts : List Tm} {n d m : Int} (h : n < (ts.length : Int)) : fewS ts n d m = false := by unfold fewS; rw [decide_eq_false (by omega)]; rfl
theorem fewS_spec {ts : List Tm} {n d m : Int} (h : fewS ts n d m = true) : (ts.length : Int) ≤ n ∧ ∀ t ∈ ts, (t.coef.abs.length : Int) ≤ d ∧ ∀ k, k < 4 → t.exp.at k ≤ m ∧ -1000 ≤ t.exp.at k := by
 unfold fewS at h
 simp only [Bool.and_eq_true, decide_eq_true_eq, List.all_eq_true] at h
 refine ⟨h.1, fun t ht => ?_⟩
 have := h.2 t ht
 unfold fewT at this
 simp only [Bool.and_eq_true, decide_eq_true_eq, List.all_eq_true] at this
 exact ⟨this.1, fun k hk => this.2 k (List.mem_range.2 hk)⟩
theorem allT_take {f : Tm → Bool} {ts : List Tm} {k : Nat} (hk : k < ts.length) (h : (ts.take k).all f = true) (h1 : f (atT ts k) = true) : (ts.take (k + 1)).all f = true := by
 have e : ts.take (k + 1) = ts.take k ++ [atT ts k] := by
  rw [List.take_add_one, atT_some hk]; rfl
 rw [e, List.all_append, h, Bool.true_and]; simpa using h1
theorem normS_sub {ts : List Tm} {t : Tm} (h : t ∈ Q4 ts) : ∃ u ∈ ts, u.exp = t.exp := by
 rw [← normS_st] at h
 obtain ⟨u, hu, e⟩ := mergeT_exp _ _ (Nat.le_refl _) t h
 exact ⟨u, (List.mem_filter.1 (stT_mem u hu)).1, e⟩
structure OfF (ts : List Tm) (D : Nat) : Prop where
 hl : ts.length ≤ 4294967295
 hz : ∀ t ∈ ts, t.coef.abs.length ≤ 4
 hm : ∀ t ∈ Q4 ts, ∀ i, i < 4 → t.exp.at i < 4294967295
 hc : ∀ t ∈ Q4 ts, t.coef.abs.length ≤ 5
 pg : Pg D 5 (ofS (Q4 ts))
 ng : nrm (ofS (Q4 ts)) + 2 ≤ B32 ^ 5
theorem ofFew {ts : List Tm} {n m : Int} {D : Nat} (hd : ∀ t ∈ ts, U7 t.coef.abs) (h : fewS ts n 4 m = true) (hn : n ≤ 100) (hD : m < D) (hD1 : 1 ≤ D) (hD2 : D ≤ 1000) : OfF ts D := by
 obtain ⟨h1, h2⟩ := fewS_spec h
 have hz : ∀ t ∈ ts, t.coef.abs.length ≤ 4 := fun t ht => by have := (h2 t ht).1; omega
 have hm : ∀ t ∈ Q4 ts, ∀ i, i < 4 → t.exp.at i < D := fun t ht i hi => by
  obtain ⟨u, hu, e⟩ := normS_sub ht
  rw [← e]
  have := ((h2 u hu).2 i hi).1; omega
 have hc := normS_can ts
 have hn1 : nrmT (Q4 ts) ≤ ts.length * B32 ^ 4 := Nat.le_trans (normS_nrm ts) (nrmT_len hd hz)
 have hn2 : ts.length * B32 ^ 4 ≤ 100 * B32 ^ 4 := Nat.mul_le_mul_right _ (by omega)
 have hn3 : 100 * B32 ^ 4 + 2 < B32 ^ 5 := by decide
 have hn4 : nrm (ofS (Q4 ts)) ≤ nrmT (Q4 ts) := nrm_of _
 exact ⟨by omega, hz, fun t ht i hi => by have := hm t ht i hi; omega, coefT_len hc.ofI (by omega), ⟨can_of hc, sz_of hD1 hm _ (Nat.le_refl _), by omega⟩, by omega⟩
theorem dv_of {f g q : Pol} (cf : CanP 4 f) (cg : CanP 4 g) (cq : CanP 4 q) (hz : Z5 g = false) (h : ∀ x, Y7 x f = Y7 x q * Y7 x g) : dvP g f = true := by
 unfold dvP
 rw [if_neg (by rw [hz]; decide)]
 rw [exactF_complete 4 4 (q := Z2 q (lcT (toS (W3 g)))) (Nat.le_refl _) (Nat.le_refl _) cf (msign_can g) (.scale cq.lev _) (msign_ne cg hz) fun x => ?_]
 ·rfl
 ·have := val_msign x g
  rw [val_norm] at this
  rw [val_scale cq.lev, h, ← this]; grind
theorem dv_no {f g : Pol} (cf : CanP 4 f) (cg : CanP 4 g) (hz : Z5 g = false) (x : Mo) (hg : Y7 x g = 0) (hf : Y7 x f ≠ 0) : dvP g f = false := by
 unfold dvP
 rw [if_neg (by rw [hz]; decide)]
 cases h : X6 4 f (msign g) with
 | none => rfl
 | some q =>
  obtain ⟨_, h2⟩ := exactF_sound 4 4 (Nat.le_refl _) (Nat.le_refl _) cf (msign_can g) h
  have h3 := val_msign x g
  rw [val_norm, hg] at h3
  have h4 : lcT (toS (W3 g)) ≠ 0 := lcT_ne (N2 _) fun e => by
   rw [norm_can cg] at e
   exact R5 hz ((toS_nil cg).1 e)
  have h5 : Y7 x (msign g) = 0 := (Int.mul_eq_zero.1 h3).resolve_right h4
  exact absurd (by rw [h2, h5]; simp) hf
def K1 (p : Pol) : Nat → Pol
 | 0 => R1 1
 | n + 1 => K3 4 (K1 p n) p
theorem powP_can {p : Pol} (h : CanP 4 p) : ∀ n, CanP 4 (K1 p n)
 | 0 => .const 1
 | n + 1 => .mul 4 4 (Nat.le_refl _) (Nat.le_refl _) (powP_can h n) h
theorem powP_val {p : Pol} {x : Mo} (h : CanP 4 p) : ∀ n, Y7 x (K1 p n) = Y7 x p ^ n
 | 0 => by rw [K1, valP_const, Int.pow_zero]
 | n + 1 => by rw [K1, val_mul (powP_can h n).lev h.lev, powP_val h n, Int.pow_succ]
theorem powP_add {p : Pol} (h : CanP 4 p) (a b : Nat) : K3 4 (K1 p a) (K1 p b) = K1 p (a + b) :=
 val_uniq (.mul 4 4 (Nat.le_refl _) (Nat.le_refl _) (powP_can h a) (powP_can h b)) (powP_can h _) fun x => by
  rw [val_mul (powP_can h a).lev (powP_can h b).lev, powP_val h, powP_val h, powP_val h, Int.pow_add]
theorem powP_one {p : Pol} (h : CanP 4 p) : K1 p 1 = p := val_uniq (powP_can h 1) h fun x => by rw [powP_val h, Int.pow_one]
theorem powP_pg {D B : Nat} {p : Pol} (h : Pg D B p) (hD : 1 ≤ D) : ∀ n, Pg (1 + D * n) (1 + B * n) (K1 p n)
 | 0 => ⟨.const 1, .const 1, by rw [K1, nrm_const, Nat.mul_zero]; decide⟩
 | n + 1 => by
  have := (powP_pg h hD n).mul h (by omega) hD
  rw [K1]
  exact this.mono (by rw [Nat.mul_add]; omega) (by rw [Nat.mul_add]; omega)
theorem and1 : ∀ m : Nat, m < 64 → bitsOf .and .i64 (m : Int) 1 = ((m % 2 : Nat) : Int) := by decide
theorem shr1 : ∀ m : Nat, m < 64 → (m : Int).fdiv (2 ^ (min (1 : Int).toNat 64)) = ((m / 2 : Nat) : Int) := by decide
def vX : Pol := varP 1
def vY : Pol := varP 2
theorem N1 {l : Int} : Pg 2 1 (varP l) := ⟨can_var l, sz_var l, Nat.lt_of_le_of_lt (nrm_var l) (by decide)⟩
theorem val_X (x : Mo) : Y7 x vX = x.at 0 := val_var 0 (by decide)
theorem val_Y (x : Mo) : Y7 x vY = x.at 1 := val_var 1 (by decide)
theorem nz_X : Z5 vX = false := by
 rcases h : Z5 vX with _ | _
 ·rfl
 ·have := val_X ⟨1, 0, 0, 0⟩; rw [valP_zero h] at this; cases this
theorem fit_sum : Z5 (K0 4 vX vY) = false := by
 rcases h : Z5 (K0 4 vX vY) with _ | _
 ·rfl
 ·have : Y7 ⟨1, 0, 0, 0⟩ (K0 4 vX vY) = 1 := by rw [val_add (p := vX) (q := vY) (can_var 1).lev (can_var 2).lev, val_X, val_Y]; rfl
  rw [valP_zero h] at this; cases this
theorem fit_exact : X6 4 (K0 4 (K1 vX 2) (Z2 (K1 vY 2) (-1))) (K0 4 vX vY) = some (K0 4 vX (Z2 vY (-1))) := by
 have cx : CanP 4 vX := can_var 1
 have cy : CanP 4 vY := can_var 2
 have c2 := powP_can cx 2
 have d2 := powP_can cy 2
 refine exactF_complete 4 4 (Nat.le_refl _) (Nat.le_refl _) (.add 4 4 (Nat.le_refl _) c2 (.scale d2.lev _)) (.add 4 4 (Nat.le_refl _) cx cy) (.add 4 4 (Nat.le_refl _) cx (.scale cy.lev _)) fit_sum fun x => ?_
 rw [val_add c2.lev (d2.lev.scale _), val_scale d2.lev, powP_val cx, powP_val cy, val_add cx.lev (cy.lev.scale _), val_scale cy.lev, val_add cx.lev cy.lev]
 grind
theorem fit_dv : dvP vX (K3 4 vX vY) = true := dv_of (.mul 4 4 (Nat.le_refl _) (Nat.le_refl _) (can_var 1) (can_var 2)) (can_var 1) (q := vY) (can_var 2) nz_X fun x => by
 rw [val_mul (p := vX) (q := vY) (can_var 1).lev (can_var 2).lev, Int.mul_comm]
theorem fit_no : dvP vX vY = false := dv_no (can_var 2) (can_var 1) nz_X ⟨0, 1, 0, 0⟩ (val_X _) (by rw [val_Y]; decide)
theorem rm_small : Rm 4 8 4 5 10 := by simp only [Rm, gM]; decide
theorem can_c {k : Nat} {p : Pol} (h : CanP k p) : ∃ n, p.c = ofI n := by
 cases h with
 | const n => exact ⟨n, rfl⟩
 | node => exact ⟨0, by rw [ofI_zero]; rfl⟩
theorem ofI_nil {n : Int} (h : (ofI n).abs.length = 0) : n = 0 := by
 have h1 := Y9 n
 have h2 : (ofI n).abs = [] := List.eq_nil_of_length_eq_zero h
 rw [← h1]; unfold X4; rw [h2]; simp [val]
theorem canC {k : Nat} {p : Pol} (h : CanP k p) : (0 < p.c.abs.length → 0 < p.c.abs.getD (p.c.abs.length - 1) 0) ∧ (p.c.abs.length = 0 → p.c.neg = false) := by
 obtain ⟨n, e⟩ := can_c h
 rw [e]
 refine ⟨fun hl => ?_, fun hl => ?_⟩
 ·by_cases q : n.natAbs = 0
  ·have : n = 0 := by omega
   subst this; rw [ofI_zero] at hl; exact absurd hl (by simp [z0])
  ·exact dig_top_pos q
 ·rw [ofI_nil hl, ofI_zero]; rfl
theorem canC_node {k : Nat} {p : Pol} (h : CanP k p) (hl : ¬ p.lv = 0) : p.c.abs.length = 0 := by
 obtain ⟨l, cs, rfl, _⟩ := h.node' hl; rfl
theorem canC_cs {k : Nat} {p : Pol} (h : CanP k p) (hl : p.lv = 0) : p.cs.length = 0 := by
 obtain ⟨n, rfl⟩ := can_of_const h hl; rfl
theorem canC_last {k : Nat} {p : Pol} (h : CanP k p) (hz : Z5 p = false) : 0 < p.lv ∨ 0 < p.c.abs.length := by
 by_cases q : p.lv = 0
 ·obtain ⟨n, rfl⟩ := can_of_const h q
  right
  refine Nat.pos_of_ne_zero fun e => ?_
  have h0 : n = 0 := ofI_nil e
  rw [h0, constP_zero, zeroP_p0] at hz; cases hz
 ·have := h.lev.lv; left; omega
theorem pow_odd {a b m N : Nat} (h : a + b * m = N) (ho : m % 2 = 1) : a + b + (b + b) * (m / 2) = N := by
 have e : m = 2 * (m / 2) + 1 := by omega
 generalize m / 2 = q at e ⊢
 subst e; rw [← h]; grind
theorem pow_even {a b m N : Nat} (h : a + b * m = N) (ho : m % 2 = 0) : a + (b + b) * (m / 2) = N := by
 have e : m = 2 * (m / 2) := by omega
 generalize m / 2 = q at e ⊢
 subst e; rw [← h]; grind
theorem pow_last {a b m N : Nat} (h : a + b * m = N) (hm : m = 1) : a + b + b * (m / 2) = N := by subst hm; simpa using h
theorem exE_zero {f g : Pol} (hz : Z5 g = false) (h : exE f g = 0) : X6 4 f g = some (exQ f g) := by
 unfold exE at h; unfold exQ
 rw [if_neg (by rw [hz]; decide)] at h ⊢
 cases hq : X6 4 f g with
 | none => rw [hq] at h; cases h
 | some q => rfl
theorem exE_three {f g : Pol} (hz : Z5 g = false) (h : ¬ exE f g = 0) : exE f g = 3 ∧ exQ f g = p0 ∧ Z5 f = false ∧ X6 4 f g = none := by
 have hn : ¬ Z5 g = true := by rw [hz]; decide
 unfold exE at h ⊢; unfold exQ
 rw [if_neg hn] at h
 rw [if_neg hn, if_neg hn]
 cases hq : X6 4 f g with
 | some q => rw [hq] at h; exact absurd rfl h
 | none =>
  refine ⟨rfl, rfl, ?_, rfl⟩
  cases hf : Z5 f with
  | false => rfl
  | true => rw [exactF_zero hf] at hq; cases hq
theorem ex_some {f g q : Pol} (hz : Z5 g = false) (h : X6 4 f g = some q) : exQ f g = q ∧ exE f g = 0 := by
 unfold exQ exE
 rw [if_neg (by rw [hz]; decide), if_neg (by rw [hz]; decide), h]; exact ⟨rfl, rfl⟩
theorem pg_small2 {D : Nat} {g : Pol} (h : Pg D 2 g) : nrm g + 2 ≤ B32 ^ 5 := by
 have h1 := h.nr
 have h2 : B32 ^ 2 + 2 ≤ B32 ^ 5 := by decide
 omega
theorem fit_r : exQ (K0 4 (K1 vX 2) (Z2 (K1 vY 2) (-1))) (K0 4 vX vY) = K0 4 vX (Z2 vY (-1)) ∧ exE (K0 4 (K1 vX 2) (Z2 (K1 vY 2) (-1))) (K0 4 vX vY) = 0 := ex_some fit_sum fit_exact
end Go.Rt
namespace Go.Rt
open Go Go.RowKit
def mulT (c : Int) (t : Tm) : Tm := ⟨ofI (c * X4 t.coef), t.exp⟩
theorem gcdF_scale {c : Int} : ∀ (L : List Tm) (a : Int), (L.map (mulT c)).foldl (fun g t => (Int.gcd g (X4 t.coef) : Int)) ((c.natAbs : Int) * a) = c.natAbs * L.foldl (fun g t => (Int.gcd g (X4 t.coef) : Int)) a
 | [], a => rfl
 | t :: L, a => by
  rw [List.map_cons, List.foldl_cons, List.foldl_cons]
  have e : (Int.gcd ((c.natAbs : Int) * a) (X4 (mulT c t).coef) : Int) = (c.natAbs : Int) * (Int.gcd a (X4 t.coef) : Int) := by
   show ((Int.gcd _ (X4 (ofI (c * X4 t.coef))) : Nat) : Int) = _
   rw [Y9]
   unfold Int.gcd
   rw [Int.natAbs_mul, Int.natAbs_mul, Int.natAbs_natCast, Nat.gcd_mul_left]
   rfl
  rw [e, gcdF_scale L]
theorem gcdT_scale {c : Int} (L : List Tm) : gcdT (L.map (mulT c)) = c.natAbs * gcdT L := by
 have := gcdF_scale (c := c) L 0
 rw [Int.mul_zero] at this
 exact this
theorem mulT_can {c : Int} (hc : c ≠ 0) {L : List Tm} (h : CanT L) : CanT (L.map (mulT c)) where
 srt := by rw [List.pairwise_map]; exact h.srt
 ofI := fun t ht => by
  obtain ⟨u, hu, rfl⟩ := List.mem_map.1 ht
  show ofI (c * X4 u.coef) = ofI (X4 (ofI (c * X4 u.coef)))
  rw [Y9]
 ne := fun t ht => by
  obtain ⟨u, hu, rfl⟩ := List.mem_map.1 ht
  show X4 (ofI (c * X4 u.coef)) ≠ 0
  rw [Y9]; exact Int.mul_ne_zero hc (h.ne u hu)
 ok := fun t ht => by
  obtain ⟨u, hu, rfl⟩ := List.mem_map.1 ht
  exact h.ok u hu
theorem S_mulT {f : Mo → Int} {c : Int} : ∀ L : List Tm, S f (L.map (mulT c)) = c * S f L
 | [] => by simp [S]
 | t :: L => by
  rw [List.map_cons, S, S_mulT L, S]
  show X4 (ofI (c * X4 t.coef)) * f t.exp + _ = _
  rw [Y9]; grind
theorem toS_scale {c : Int} (hc : c ≠ 0) {p : Pol} (h : CanP 4 p) : toS (Z2 p c) = (toS p).map (mulT c) :=
 can_uniq (N2 _) (mulT_can hc (N2 p)) fun m => by
  rw [toS_S (h.lev.scale c), V_scale c (Nat.le_refl _) h.lev (low_mo0 4), S_mulT, toS_S h.lev]
theorem lcT_scale {c : Int} (hc : c ≠ 0) {L : List Tm} (h : CanT L) (hn : L ≠ []) : lcT (L.map (mulT c)) = c * lcT L := by
 match L, h, hn with
 | t :: L, hL, _ =>
  have hne : X4 (atT (t :: L) 0).coef ≠ 0 := hL.ne t (by simp)
  unfold lcT
  have e : X4 (atT ((t :: L).map (mulT c)) 0).coef = c * X4 (atT (t :: L) 0).coef := by
   show X4 (ofI (c * X4 t.coef)) = c * X4 t.coef
   exact Y9 _
  rw [e, gcdT_scale]
  rcases Int.lt_or_gt_of_ne hc with h | h
  ·have h1 : ((c.natAbs : Nat) : Int) = -c := by omega
   rw [h1]
   by_cases q : X4 (atT (t :: L) 0).coef < 0
   ·rw [if_pos q, if_neg (Int.not_lt.2 (Int.mul_nonneg_of_nonpos_of_nonpos (by omega) (by omega)))]; grind
   ·rw [if_neg q]
    rw [if_pos (Int.mul_neg_of_neg_of_pos h (by omega))]; grind
  ·have h1 : ((c.natAbs : Nat) : Int) = c := by omega
   rw [h1]
   by_cases q : X4 (atT (t :: L) 0).coef < 0
   ·rw [if_pos q, if_pos (Int.mul_neg_of_pos_of_neg h q)]; grind
   ·rw [if_neg q, if_neg (Int.not_lt.2 (Int.mul_nonneg (by omega) (by omega)))]
theorem sgnT_scale {c : Int} (hc : c ≠ 0) {L : List Tm} (h : CanT L) (hn : L ≠ []) : sgnT (L.map (mulT c)) = sgnT L := by
 unfold sgnT
 rw [lcT_scale hc h hn, List.map_map]
 refine List.map_congr_left fun t ht => ?_
 show (⟨ofI (X4 (ofI (c * X4 t.coef)) / (c * lcT L)), t.exp⟩ : Tm) = ⟨ofI (X4 t.coef / lcT L), t.exp⟩
 obtain ⟨k, hk⟩ := lcT_dvd t ht
 have hl := lcT_ne h hn
 rw [Y9, hk, Int.mul_ediv_cancel_left _ hl, ← Int.mul_assoc, Int.mul_ediv_cancel_left _ (Int.mul_ne_zero hc hl)]
theorem msign_scale {c : Int} (hc : c ≠ 0) {p : Pol} (h : CanP 4 p) (hz : Z5 p = false) : msign (Z2 p c) = msign p := by
 unfold msign
 rw [norm_can h, norm_can (.scale h.lev c), toS_scale hc h, sgnT_scale hc (N2 p) fun e => R5 hz ((toS_nil h).1 e)]
end Go.Rt
namespace Go.Rt
open Go Go.RowKit
theorem dgP_top {p : Pol} {l : Nat} (h : CanP 4 p) (hl : p.lv = ((l + 1 : Nat) : Int)) : ∃ t ∈ toS p, t.exp.at l = (p.cs.length : Int) - 1 := by
 have hl4 : l < 4 := by have := h.lev.lv; omega
 obtain ⟨e2, e3, _, _⟩ := h.ends (by omega)
 have hq := h.sub_can hl
 refine Classical.byContradiction fun hno => ?_
 have key : atP p.cs (p.cs.length - 1) = p0 := by
  refine can_uniqP l (m := mo0.set l ((p.cs.length - 1 : Nat) : Int)) (by omega) (hq _ (Y3 (by omega))) can_p0 ((low_mo0 l).set (Nat.le_refl l) hl4) fun f => ?_
  rw [V_p0]
  have h1 := VL_pick (g := f) (m := mo0) hl4 (p.cs.length - 1) (xs := p.cs) (i := 0) (fun x hx => (hq x hx).lev)
  rw [if_pos (by omega), Nat.sub_zero] at h1
  rw [← h1]
  have h2 : V (fun n => if n.at l = ((p.cs.length - 1 : Nat) : Int) then f n else 0) p mo0 = 0 := by
   rw [← toS_S h.lev]
   refine S_zero fun t ht => if_neg fun e => hno ⟨t, ht, by rw [e]; omega⟩
  rw [V_eq, if_neg (by omega), hl] at h2
  exact h2
 rw [key, zeroP_p0] at e3; cases e3
theorem lv_nz {p : Pol} (h : ¬ p.lv = 0) : Z5 p = false := by unfold Z5; rw [decide_eq_false h]; rfl
end Go.Rt
namespace Go.Rt
open Go Go.RowKit
def stripF (h : Pol) : Nat → Nat → Pol → Nat × Pol
 | 0, n, r => (n, r)
 | k + 1, n, r => match X6 4 r h with
  | none => (n, r)
  | some q => stripF h k (n + 1) q
theorem strip_end {h r : Pol} {k n : Nat} (e : X6 4 r h = none) : stripF h k n r = (n, r) := by
 cases k with
 | zero => rfl
 | succ k => rw [stripF, e]
theorem strip_step {h r q : Pol} {k n : Nat} (e : X6 4 r h = some q) (hk : 1 ≤ k) : stripF h (k - 1) (n + 1) q = stripF h k n r := by
 cases k with
 | zero => omega
 | succ k => rw [stripF, e]; rfl
structure StH (h : Pol) (v E u : Nat) : Prop where
 can : CanP 4 h
 nz : Z5 h = false
 sz : Sz E h
 nr : nrm h + 2 ≤ B32 ^ u
 v4 : v < 4
 top : ∃ t ∈ toS h, 1 ≤ t.exp.at v
structure StI (h f : Pol) (v D B G n k : Nat) (r : Pol) : Prop where
 can : CanP 4 r
 nz : Z5 r = false
 sz : Sz D r
 nr : nrm r < B32 ^ (B + n * G)
 dg : ∀ t ∈ toS r, t.exp.at v < k
 vl : ∀ x, Y7 x f = Y7 x h ^ n * Y7 x r
theorem StI.pg {h f r : Pol} {v D B G n k : Nat} (i : StI h f v D B G n k r) : Pg D (B + n * G) r := ⟨i.can, i.sz, i.nr⟩
theorem StI.pos {h f r : Pol} {v D B G n k : Nat} (i : StI h f v D B G n k r) (hv : v < 4) : 1 ≤ k := by
 cases hts : toS r with
 | nil => exact absurd ((toS_nil i.can).1 hts) (R5 i.nz)
 | cons t ts =>
  have hm : t ∈ toS r := by rw [hts]; simp
  have h1 := i.dg t hm
  have h2 := toS_ok hm hv
  omega
theorem StI.step {h f r q : Pol} {v D E u B n k : Nat} (s : StH h v E u) (i : StI h f v D B (gM 4 D E u) n k r) (hD : 1 ≤ D) (hE : 1 ≤ E) (e : X6 4 r h = some q) : 1 ≤ k ∧ StI h f v D B (gM 4 D E u) (n + 1) (k - 1) q := by
 obtain ⟨h1, h2⟩ := exactF_sound 4 4 (Nat.le_refl _) (Nat.le_refl _) i.can s.can e
 have hnz := quot_ne i.nz i.can h2
 refine ⟨i.pos s.v4, h1, hnz.1, sz_quot i.can h1 s.can (R5 s.nz) h2 i.sz hD, ?_, fun t ht => ?_, fun x => ?_⟩
 ·have h3 := exactF_nrm 4 4 (Nat.le_refl _) (Nat.le_refl _) i.can s.can s.nz i.sz s.sz hD hE s.nr e
  refine Nat.lt_of_le_of_lt h3 ?_
  rw [Nat.add_mul, Nat.one_mul, ← Nat.add_assoc, Nat.pow_add (n := gM 4 D E u)]
  exact Nat.mul_lt_mul_of_pos_right i.nr (Nat.pow_pos (by decide))
 ·obtain ⟨s0, hs0, t0, ht0, w, hw, e', m1, m2⟩ := deg_prod s.v4 i.can h1 s.can (R5 hnz.1) (R5 s.nz) h2
  obtain ⟨t1, ht1, hv1⟩ := s.top
  have a1 := m1 t ht
  have a2 := m2 t1 ht1
  have a3 := i.dg w hw
  rw [e', Mo.add_at s.v4] at a3
  have a4 := toS_ok hs0 s.v4
  omega
 ·rw [i.vl x, h2 x, Int.pow_succ]; grind
theorem strip_spec {h f : Pol} {v D E u B : Nat} (s : StH h v E u) (hD : 1 ≤ D) (hE : 1 ≤ E) : ∀ (k n : Nat) {r : Pol}, StI h f v D B (gM 4 D E u) n k r →
  ∃ k', StI h f v D B (gM 4 D E u) (stripF h k n r).1 k' (stripF h k n r).2 ∧ X6 4 (stripF h k n r).2 h = none ∧ (stripF h k n r).1 + k' = n + k ∧ n ≤ (stripF h k n r).1
 | 0, n, r, i => by have := i.pos s.v4; omega
 | k + 1, n, r, i => by
  cases e : X6 4 r h with
  | none => rw [strip_end e]; exact ⟨k + 1, i, e, rfl, Nat.le_refl _⟩
  | some q =>
   obtain ⟨h1, h2⟩ := i.step s hD hE e
   have e1 := strip_step (n := n) e h1
   rw [Nat.add_sub_cancel] at e1 h2
   rw [← e1]
   obtain ⟨k', a1, a2, a3, a4⟩ := strip_spec s hD hE k (n + 1) (r := q) h2
   exact ⟨k', a1, a2, by omega, by omega⟩
theorem msign_eq {a b : Int} {p q : Pol} (ha : a ≠ 0) (hb : b ≠ 0) (cp : CanP 4 p) (cq : CanP 4 q) (zp : Z5 p = false) (zq : Z5 q = false) (h : ∀ x, a * Y7 x p = b * Y7 x q) : msign p = msign q := by
 rw [← msign_scale ha cp zp, ← msign_scale hb cq zq]
 congr 1
 exact val_uniq (.scale cp.lev a) (.scale cq.lev b) fun x => by rw [val_scale cp.lev, val_scale cq.lev, h]
theorem lc_ne {p : Pol} (cp : CanP 4 p) (zp : Z5 p = false) : lcT (toS (W3 p)) ≠ 0 := lcT_ne (N2 _) fun e => by
 rw [norm_can cp] at e
 exact R5 zp ((toS_nil cp).1 e)
theorem without_val {f g r : Pol} {n : Nat} (cf : CanP 4 f) (cg : CanP 4 g) (cr : CanP 4 r) (h : ∀ x, Y7 x f = Y7 x (msign g) ^ n * Y7 x r) (x : Mo) :
  lcT (toS (W3 r)) * Y7 x (K3 4 (msign r) (K1 g n)) = lcT (toS (W3 g)) ^ n * Y7 x f := by
 have h1 := val_msign x r
 have h2 := val_msign x g
 rw [val_norm] at h1 h2
 rw [val_mul (msign_can r).lev (powP_can cg n).lev, powP_val cg, h, ← h2, ← h1, Int.mul_pow]; grind
theorem without_nz {f g r : Pol} {n : Nat} (cf : CanP 4 f) (cg : CanP 4 g) (cr : CanP 4 r) (zf : Z5 f = false) (zg : Z5 g = false) (zr : Z5 r = false) (h : ∀ x, Y7 x f = Y7 x (msign g) ^ n * Y7 x r) :
  Z5 (K3 4 (msign r) (K1 g n)) = false := by
 rcases hq : Z5 (K3 4 (msign r) (K1 g n)) with _ | _
 ·rfl
 ·refine absurd (zero_of_val cf fun x => ?_) (R5 zf)
  have := without_val cf cg cr h x
  rw [valP_zero hq, Int.mul_zero] at this
  exact (Int.mul_eq_zero.1 this.symm).resolve_left (Int.pow_ne_zero (lc_ne cg zg))
theorem without_law {f g r : Pol} {n : Nat} (cf : CanP 4 f) (cg : CanP 4 g) (cr : CanP 4 r) (zf : Z5 f = false) (zg : Z5 g = false) (zr : Z5 r = false) (h : ∀ x, Y7 x f = Y7 x (msign g) ^ n * Y7 x r) :
  msign (K3 4 (msign r) (K1 g n)) = msign f :=
 msign_eq (lc_ne cr zr) (Int.pow_ne_zero (lc_ne cg zg)) (CanP.mul 4 4 (Nat.le_refl _) (Nat.le_refl _) (msign_can r) (powP_can cg n)) cf (without_nz cf cg cr zf zg zr h) zf (without_val cf cg cr h)
theorem StH.of {g : Pol} {E u l : Nat} (pg : Pg E u g) (ng : nrm g + 2 ≤ B32 ^ u) (hE : 1 ≤ E) (hl : g.lv = ((l + 1 : Nat) : Int)) : StH (msign g) l E u := by
 have zg : Z5 g = false := lv_nz (by omega)
 have hlv := pg.can.lev.lv
 obtain ⟨t, ht, e⟩ := dgP_top pg.can hl
 obtain ⟨e2, _, _, _⟩ := pg.can.ends (by omega)
 refine ⟨msign_can g, msign_ne pg.can zg, (pg.msign hE zg).sz, Nat.le_trans (Nat.add_le_add_right (nrm_msign' pg.can zg) 2) ng, by omega, ?_⟩
 have hm : toS (msign g) = sgnT (toS g) := by unfold msign; rw [toS_of (sgnT_can (N2 _)), norm_can pg.can]
 rw [hm]
 exact ⟨divT (lcT (toS g)) t, List.mem_map_of_mem ht, by show 1 ≤ t.exp.at l; omega⟩
theorem StI.of {h f : Pol} {v D B G : Nat} (pf : Pg D B f) (hD : 1 ≤ D) (hv : v < 4) (zf : Z5 f = false) : StI h f v D B G 0 D f :=
 ⟨pf.can, zf, pf.sz, by rw [Nat.zero_mul]; exact pf.nr, fun t ht => toS_exp pf.can.lev pf.sz hD t ht v hv, fun x => by rw [Int.pow_zero, Int.one_mul]⟩
def stE (g f : Pol) : Int := if Z5 f = true then 2 else if g.lv = 0 then 12 else 0
def V8 (D : Nat) (g f : Pol) : Nat × Pol := if Z5 f = true then (0, p0) else if g.lv = 0 then (0, p0) else stripF (msign g) D 0 f
theorem stNR_zero {D : Nat} {g f : Pol} (h : Z5 f = true) : V8 D g f = (0, p0) ∧ stE g f = 2 := by rw [V8, stE, if_pos h, if_pos h]; exact ⟨rfl, rfl⟩
theorem stNR_const {D : Nat} {g f : Pol} (h : Z5 f = false) (hl : g.lv = 0) : V8 D g f = (0, p0) ∧ stE g f = 12 := by
 have h' : ¬ Z5 f = true := by rw [h]; decide
 rw [V8, stE, if_neg h', if_neg h', if_pos hl, if_pos hl]; exact ⟨rfl, rfl⟩
theorem stNR_ok {D : Nat} {g f : Pol} (h : Z5 f = false) (hl : ¬ g.lv = 0) : V8 D g f = stripF (msign g) D 0 f ∧ stE g f = 0 := by
 have h' : ¬ Z5 f = true := by rw [h]; decide
 rw [V8, stE, if_neg h', if_neg h', if_neg hl, if_neg hl]; exact ⟨rfl, rfl⟩
theorem stE_ok {g f : Pol} (e : stE g f = 0) : Z5 f = false ∧ ¬ g.lv = 0 := by
 unfold stE at e
 split at e
 ·cases e
 ·rename_i h1
  split at e
  ·cases e
  ·rename_i h2; exact ⟨by simpa using h1, h2⟩
theorem st_all {g f : Pol} {D E u B : Nat} (pf : Pg D B f) (pg : Pg E u g) (ng : nrm g + 2 ≤ B32 ^ u) (hD : 1 ≤ D) (hE : 1 ≤ E) (e : stE g f = 0) :
  ∃ l k', l < 4 ∧ g.lv = ((l + 1 : Nat) : Int) ∧ StH (msign g) l E u ∧ StI (msign g) f l D B (gM 4 D E u) (V8 D g f).1 k' (V8 D g f).2 ∧ X6 4 (V8 D g f).2 (msign g) = none ∧ (V8 D g f).1 + k' = D := by
 obtain ⟨hz, hg⟩ := stE_ok e
 have hgl := pg.can.lev.lv
 obtain ⟨l, hl⟩ : ∃ l : Nat, g.lv = ((l + 1 : Nat) : Int) := ⟨g.lv.toNat - 1, by omega⟩
 have hS := StH.of pg ng hE hl
 obtain ⟨k', h1, h2, h3, _⟩ := strip_spec hS hD hE D 0 (StI.of pf hD hS.v4 hz)
 rw [(stNR_ok hz hg).1]
 exact ⟨l, k', hS.v4, hl, hS, h1, h2, by omega⟩
theorem stR_pg {g f : Pol} {D E u B : Nat} (pf : Pg D B f) (pg : Pg E u g) (ng : nrm g + 2 ≤ B32 ^ u) (hD : 1 ≤ D) (hE : 1 ≤ E) (hB : True) (e : stE g f = 0) :
  Pg D (B + D * gM 4 D E u) (V8 D g f).2 ∧ Z5 (V8 D g f).2 = false := by
 obtain ⟨l, k', _, _, _, h1, _, h2⟩ := st_all pf pg ng hD hE e
 have := Nat.mul_le_mul_right (gM 4 D E u) (show (V8 D g f).1 ≤ D by omega)
 exact ⟨h1.pg.mono (Nat.le_refl _) (by omega), h1.nz⟩
theorem msign_idem {r : Pol} (cr : CanP 4 r) (zr : Z5 r = false) : msign (msign r) = msign r :=
 msign_eq (lc_ne cr zr) Int.one_ne_zero (msign_can r) cr (msign_ne cr zr) zr fun x => by
  have := val_msign x r
  rw [val_norm] at this
  rw [Int.mul_comm, this, Int.one_mul]
theorem st_law {g f : Pol} {D E u B : Nat} (pf : Pg D B f) (pg : Pg E u g) (ng : nrm g + 2 ≤ B32 ^ u) (hD : 1 ≤ D) (hE : 1 ≤ E) (hz : Z5 f = false) (hg : ¬ g.lv = 0) :
  stE g f = 0 ∧ Pg D (B + D * gM 4 D E u) (msign (V8 D g f).2) ∧ Z5 (msign (V8 D g f).2) = false ∧ (V8 D g f).1 ≤ D ∧ msign (msign (V8 D g f).2) = msign (V8 D g f).2 ∧ msign (K3 4 (msign (V8 D g f).2) (K1 g (V8 D g f).1)) = msign f ∧ Z5 (K3 4 (msign (V8 D g f).2) (K1 g (V8 D g f).1)) = false := by
 have e := (stNR_ok (D := D) hz hg).2
 obtain ⟨l, k', _, _, _, h1, _, h2⟩ := st_all pf pg ng hD hE e
 obtain ⟨p1, p2⟩ := stR_pg pf pg ng hD hE trivial e
 have hm := without_law pf.can pg.can p1.can hz (lv_nz hg) p2 h1.vl
 exact ⟨e, p1.msign hD p2, msign_ne p1.can p2, by omega, msign_idem p1.can p2, hm, without_nz pf.can pg.can p1.can hz (lv_nz hg) p2 h1.vl⟩
theorem rm_wo : Rm 4 4 3 5 (5 + 4 * gM 4 4 3 5) := by simp only [Rm, gM]; decide
end Go.Rt
namespace Go.Rt
open Go Go.RowKit
def Pr (p : Int) : Prop := ∀ a b : Int, p ∣ a * b → p ∣ a ∨ p ∣ b
theorem pr_of {n : Nat} (hn : 2 ≤ n) (h : ∀ d, d ∣ n → d = 1 ∨ d = n) : Pr (n : Int) := fun a b hab => by
 have h1 : n ∣ a.natAbs * b.natAbs := by
  have := Int.natAbs_dvd_natAbs.2 hab
  rwa [Int.natAbs_mul, Int.natAbs_natCast] at this
 rcases h _ (Nat.gcd_dvd_left n a.natAbs) with e | e
 ·exact .inr (Int.natAbs_dvd_natAbs.1 (by rw [Int.natAbs_natCast]; exact Nat.Coprime.dvd_of_dvd_mul_left e h1))
 ·exact .inl (Int.natAbs_dvd_natAbs.1 (by rw [Int.natAbs_natCast]; exact Nat.gcd_eq_left_iff_dvd.1 e))
theorem pr_ex : ∀ n : Nat, 2 ≤ n → ∃ p : Nat, 2 ≤ p ∧ p ∣ n ∧ Pr (p : Int) := fun n => by
 induction n using Nat.strongRecOn
 rename_i n ih
 intro hn
 by_cases q : ∃ d, 2 ≤ d ∧ d < n ∧ d ∣ n
 ·obtain ⟨d, h1, h2, h3⟩ := q
  obtain ⟨p, a, b, c⟩ := ih d h2 h1
  exact ⟨p, a, Nat.dvd_trans b h3, c⟩
 ·refine ⟨n, hn, Nat.dvd_refl _, pr_of hn fun d hd => ?_⟩
  have h0 : d ≠ 0 := fun e => by rw [e] at hd; have := Nat.eq_zero_of_zero_dvd hd; omega
  have h1 := Nat.le_of_dvd (by omega) hd
  by_cases e : d = n
  ·exact .inr e
  ·exact .inl (Classical.byContradiction fun h2 => q ⟨d, by omega, by omega, hd⟩)
theorem S_filt {p : Int} {φ : Mo → Int} {c : Tm → Bool} : ∀ L : List Tm, (∀ t ∈ L, c t = false → p ∣ X4 t.coef) → p ∣ S φ L - S φ (L.filter c)
 | [], _ => by simp [S]
 | t :: L, h => by
  have ih := S_filt (φ := φ) L fun u hu => h u (List.mem_cons_of_mem _ hu)
  rw [List.filter_cons]
  by_cases q : c t = true
  ·rw [if_pos q, S, S]
   have e : X4 t.coef * φ t.exp + S φ L - (X4 t.coef * φ t.exp + S φ (L.filter c)) = S φ L - S φ (L.filter c) := by omega
   rw [e]; exact ih
  ·rw [if_neg q, S]
   have e : X4 t.coef * φ t.exp + S φ L - S φ (L.filter c) = X4 t.coef * φ t.exp + (S φ L - S φ (L.filter c)) := by omega
   rw [e]; exact Int.dvd_add (Int.dvd_mul_of_dvd_left (h t (by simp) (by simpa using q))) ih
theorem S_modc {p : Int} {φ ψ : Mo → Int} : ∀ L : List Tm, (∀ t ∈ L, p ∣ φ t.exp - ψ t.exp) → p ∣ S φ L - S ψ L
 | [], _ => by simp [S]
 | t :: L, h => by
  have ih := S_modc L fun u hu => h u (List.mem_cons_of_mem _ hu)
  rw [S, S]
  have e : X4 t.coef * φ t.exp + S φ L - (X4 t.coef * ψ t.exp + S ψ L) = X4 t.coef * (φ t.exp - ψ t.exp) + (S φ L - S ψ L) := by grind
  rw [e]; exact Int.dvd_add (Int.dvd_mul_of_dvd_right (h t (by simp))) ih
theorem S_dvd {p : Int} {φ : Mo → Int} : ∀ L : List Tm, (∀ t ∈ L, p ∣ X4 t.coef) → p ∣ S φ L
 | [], _ => by simp [S]
 | t :: L, h => by
  rw [S]; exact Int.dvd_add (Int.dvd_mul_of_dvd_left (h t (by simp))) (S_dvd L fun u hu => h u (List.mem_cons_of_mem _ hu))
theorem gauss_p {f q g : Pol} {p : Int} (hp : Pr p) (cf : CanP 4 f) (cq : CanP 4 q) (cg : CanP 4 g) (h : ∀ x, Y7 x f = Y7 x q * Y7 x g)
  (hq : ¬ ∀ s ∈ toS q, p ∣ X4 s.coef) (hg : ¬ ∀ t ∈ toS g, p ∣ X4 t.coef) : ¬ ∀ u ∈ toS f, p ∣ X4 u.coef := fun hf => by
 let c : Tm → Bool := fun t => !decide (p ∣ X4 t.coef)
 have hc : ∀ t, c t = false → p ∣ X4 t.coef := fun t ht => by simpa [c] using ht
 have hc' : ∀ t, c t = true → ¬ p ∣ X4 t.coef := fun t ht => by simpa [c] using ht
 have ne : ∀ {L : List Tm}, (¬ ∀ s ∈ L, p ∣ X4 s.coef) → L.filter c ≠ [] := fun {L} hL e => hL fun s hs => by
  rcases q : c s with _ | _
  ·exact hc s q
  ·have : s ∈ L.filter c := List.mem_filter.2 ⟨hs, q⟩
   rw [e] at this; cases this
 obtain ⟨s0, hs0, ms⟩ := max_ex (v := 0) (ne hq)
 obtain ⟨t0, ht0, mt⟩ := max_ex (v := 0) (ne hg)
 have key := toS_prod cf cq cg h (ind (s0.exp.add t0.exp))
 have h0 := S_dvd (φ := ind (s0.exp.add t0.exp)) (toS f) hf
 rw [key] at h0
 have h1 := S_filt (c := c) (φ := fun a => S (fun b => ind (s0.exp.add t0.exp) (a.add b)) (toS g)) (toS q) fun t _ ht => hc t ht
 have h2 := S_modc (p := p) (φ := fun a => S (fun b => ind (s0.exp.add t0.exp) (a.add b)) (toS g)) (ψ := fun a => S (fun b => ind (s0.exp.add t0.exp) (a.add b)) ((toS g).filter c)) ((toS q).filter c) fun s _ =>
  S_filt (c := c) (toS g) fun t _ ht => hc t ht
 have in1 : ∀ s ∈ (toS q).filter c, s.exp ≠ s0.exp → S (fun b => ind (s0.exp.add t0.exp) (s.exp.add b)) ((toS g).filter c) = 0 := fun s hs hne =>
  S_zero fun t ht => ind_ne fun e => hne (top_add (by decide) (ms s hs) (mt t ht) e).1
 have in2 : S (fun b => ind (s0.exp.add t0.exp) (s0.exp.add b)) ((toS g).filter c) = X4 t0.coef := by
  rw [S_pick (φ := fun b => ind (s0.exp.add t0.exp) (s0.exp.add b)) ((N2 g).srt.filter c) ht0 fun t ht hne => ind_ne fun e => hne (top_add (by decide) (ms s0 hs0) (mt t ht) e).2, ind_self, Int.mul_one]
 rw [S_pick (φ := fun a => S (fun b => ind (s0.exp.add t0.exp) (a.add b)) ((toS g).filter c)) ((N2 q).srt.filter c) hs0 in1, in2] at h2
 have h3 : p ∣ X4 s0.coef * X4 t0.coef := by
  obtain ⟨a, ha⟩ := h0; obtain ⟨b, hb⟩ := h1; obtain ⟨d, hd⟩ := h2
  exact ⟨a - b - d, by rw [Int.mul_sub, Int.mul_sub]; omega⟩
 rcases hp _ _ h3 with q' | q'
 ·exact hc' _ (List.mem_filter.1 hs0).2 q'
 ·exact hc' _ (List.mem_filter.1 ht0).2 q'
def Prim (p : Pol) : Prop := gcdT (toS p) = 1
theorem gauss {f q g : Pol} (cf : CanP 4 f) (cq : CanP 4 q) (cg : CanP 4 g) (nf : f ≠ p0) (h : ∀ x, Y7 x f = Y7 x q * Y7 x g) (hq : Prim q) (hg : Prim g) : Prim f := by
 have h0 := gcdT_ne (N2 f) fun e => nf ((toS_nil cf).1 e)
 have h1 := gcdT_nonneg (L := toS f)
 refine Classical.byContradiction fun hne => ?_
 have hne' : gcdT (toS f) ≠ 1 := hne
 obtain ⟨p, hp2, hpd, hpr⟩ := pr_ex (gcdT (toS f)).natAbs (by omega)
 have hd : (p : Int) ∣ gcdT (toS f) := Int.natAbs_dvd_natAbs.1 (by rw [Int.natAbs_natCast]; exact hpd)
 have no : ∀ {r : Pol}, Prim r → ¬ ∀ s ∈ toS r, (p : Int) ∣ X4 s.coef := fun {r} hr hall => by
  have h2 := gcdT_dvd.2 hall
  rw [hr] at h2
  have := Int.le_of_dvd (by decide) h2
  omega
 exact gauss_p hpr cf cq cg h (no hq) (no hg) (gcdT_dvd.1 hd)
theorem toS_msign {p : Pol} (h : CanP 4 p) : toS (msign p) = sgnT (toS p) := by unfold msign; rw [toS_of (sgnT_can (N2 _)), norm_can h]
theorem toS_nn {p : Pol} (h : CanP 4 p) (hz : Z5 p = false) : toS p ≠ [] := fun e => R5 hz ((toS_nil h).1 e)
theorem prim_msign {p : Pol} (h : CanP 4 p) (hz : Z5 p = false) : Prim (msign p) := by
 unfold Prim; rw [toS_msign h]; exact gcdT_sgn (N2 p) (toS_nn h hz)
theorem msign_vl {p : Pol} (h : CanP 4 p) (x : Mo) : Y7 x p = lcT (toS p) * Y7 x (msign p) := by
 have := val_msign x p
 rw [norm_can h] at this
 rw [← this, Int.mul_comm]
theorem lcT_prim {p : Pol} (h : Prim p) : lcT (toS p) = 1 ∨ lcT (toS p) = -1 := by
 unfold lcT; rw [h]; split
 ·exact .inr rfl
 ·exact .inl rfl
theorem gauss_div {w q h : Pol} {c : Int} (hc : c ≠ 0) (cw : CanP 4 w) (cq : CanP 4 q) (ch : CanP 4 h) (hz : Z5 h = false) (hh : Prim h) (e : ∀ x, c * Y7 x w = Y7 x q * Y7 x h) :
  ∃ q', CanP 4 q' ∧ ∀ x, Y7 x w = Y7 x q' * Y7 x h := by
 rcases zw : Z5 w with _ | _
 ·have zq : Z5 q = false := by
   rcases hq : Z5 q with _ | _
   ·rfl
   ·refine absurd (zero_of_val cw fun x => ?_) (R5 zw)
    have := e x
    rw [valP_zero hq, Int.zero_mul] at this
    exact (Int.mul_eq_zero.1 this).resolve_left hc
  have cs := msign_can q
  have cm := CanP.mul 4 4 (Nat.le_refl _) (Nat.le_refl _) cs ch
  have hm : ∀ x, Y7 x (K3 4 (msign q) h) = Y7 x (msign q) * Y7 x h := fun x => val_mul cs.lev ch.lev
  have nm : K3 4 (msign q) h ≠ p0 := fun e0 => by
   rcases val_dom cs ch fun x => by rw [← hm, e0, valP_p0] with q' | q'
   ·exact R5 (msign_ne cq zq) q'
   ·exact R5 hz q'
  have zm : Z5 (K3 4 (msign q) h) = false := by
   rcases hq : Z5 (K3 4 (msign q) h) with _ | _
   ·rfl
   ·exact absurd (cm.zero hq) nm
  have hp := gauss cm cs ch nm hm (prim_msign cq zq) hh
  have hl := lcT_ne (N2 q) (toS_nn cq zq)
  have e2 := msign_eq hc hl cw cm zw zm fun x => by rw [e, hm, msign_vl cq x]; grind
  have e3 : ∀ x, Y7 x w = (lcT (toS w) * lcT (toS (K3 4 (msign q) h))) * (Y7 x (msign q) * Y7 x h) := fun x => by
   have a1 := msign_vl cw x
   have a2 := msign_vl cm x
   rw [hm] at a2
   rw [a1, e2, a2]
   rcases lcT_prim hp with a | a <;> rw [a] <;> grind
  refine ⟨Z2 (msign q) (lcT (toS w) * lcT (toS (K3 4 (msign q) h))), .scale cs.lev _, fun x => ?_⟩
  rw [val_scale cs.lev, e3]; simp only [Int.mul_assoc]
 ·exact ⟨p0, can_p0, fun x => by rw [valP_zero zw, valP_p0, Int.zero_mul]⟩
theorem powP_pgT {D B : Nat} {p : Pol} (h : Pg D B p) (hD : 1 ≤ D) : ∀ n, Pg (1 + (D - 1) * n) (1 + B * n) (K1 p n)
 | 0 => ⟨.const 1, .const 1, by rw [K1, nrm_const, Nat.mul_zero]; decide⟩
 | n + 1 => by
  have := (powP_pgT h hD n).mulT h (by omega) hD
  rw [K1]
  exact this.mono (by rw [Nat.mul_add]; omega) (by rw [Nat.mul_add]; omega)
theorem none_no {r h q : Pol} (cr : CanP 4 r) (ch : CanP 4 h) (cq : CanP 4 q) (hz : Z5 h = false) (hn : X6 4 r h = none) (e : ∀ x, Y7 x r = Y7 x q * Y7 x h) : False := by
 rw [exactF_complete 4 4 (Nat.le_refl _) (Nat.le_refl _) cr ch cq hz e] at hn; cases hn
theorem mult_uniq {h r R : Pol} {n N i : Nat} {c : Int} (hc : c ≠ 0) (ch : CanP 4 h) (hz : Z5 h = false) (hh : Prim h) (cr : CanP 4 r) (cR : CanP 4 R) (hr : X6 4 r h = none) (hR : X6 4 R h = none)
  (e : ∀ x, Y7 x h ^ N * Y7 x R = c * (Y7 x h ^ (n + i) * Y7 x r)) : N = n + i ∧ ∀ x, Y7 x R = c * Y7 x r := by
 have cancel : ∀ {p q : Pol} (m : Nat), CanP 4 p → CanP 4 q → (∀ x, Y7 x h ^ m * Y7 x p = Y7 x h ^ m * Y7 x q) → p = q := fun {p q} m cp cq hh => by
  refine val_cancel cp cq (powP_can ch m) (fun e0 => ?_) fun x => by rw [powP_val ch, Int.mul_comm, hh, Int.mul_comm]
  obtain ⟨x, hx⟩ := (far_ne (Nat.le_refl _) ch hz).ex
  have := powP_val (x := x) ch m
  rw [e0, valP_p0] at this
  exact Int.pow_ne_zero hx this.symm
 rcases Nat.lt_trichotomy N (n + i) with q | q | q
 ·exfalso
  obtain ⟨m, hm⟩ : ∃ m, n + i = N + (m + 1) := ⟨n + i - N - 1, by omega⟩
  have cm := CanP.mul 4 4 (Nat.le_refl _) (Nat.le_refl _) (powP_can ch m) cr
  have cs : CanP 4 (Z2 (K3 4 (K1 h m) r) c) := .scale cm.lev c
  have vs : ∀ x, Y7 x (Z2 (K3 4 (K1 h m) r) c) = c * (Y7 x h ^ m * Y7 x r) := fun x => by rw [val_scale cm.lev, val_mul (powP_can ch m).lev cr.lev, powP_val ch]
  have ct := CanP.mul 4 4 (Nat.le_refl _) (Nat.le_refl _) cs ch
  have e1 := cancel N cR ct fun x => by
   rw [e, val_mul cs.lev ch.lev, vs, hm, Int.pow_add, Int.pow_succ]; grind
  exact none_no cR ch cs hz hR fun x => by rw [e1, val_mul cs.lev ch.lev]
 ·refine ⟨q, fun x => ?_⟩
  have cs : CanP 4 (Z2 r c) := .scale cr.lev c
  have e1 := cancel N cR cs fun x => by rw [e, val_scale cr.lev, q]; grind
  rw [e1, val_scale cr.lev]
 ·exfalso
  obtain ⟨m, hm⟩ : ∃ m, N = n + i + (m + 1) := ⟨N - (n + i) - 1, by omega⟩
  have cm := CanP.mul 4 4 (Nat.le_refl _) (Nat.le_refl _) (powP_can ch m) cR
  have cs : CanP 4 (Z2 r c) := .scale cr.lev c
  have vm : ∀ x, Y7 x (K3 4 (K1 h m) R) = Y7 x h ^ m * Y7 x R := fun x => by rw [val_mul (powP_can ch m).lev cR.lev, powP_val ch]
  have ct := CanP.mul 4 4 (Nat.le_refl _) (Nat.le_refl _) cm ch
  have e1 := cancel (n + i) ct cs fun x => by
   have := e x
   rw [hm, Int.pow_add, Int.pow_succ] at this
   rw [val_mul cm.lev ch.lev, vm, val_scale cr.lev]; grind
  obtain ⟨q', cq', hq'⟩ := gauss_div (w := r) (q := K3 4 (K1 h m) R) (h := h) hc cr cm ch hz hh fun x => by
   rw [← val_scale cr.lev, ← e1, val_mul cm.lev ch.lev]
  exact none_no cr ch cq' hz hr hq'
theorem mult_law {g f : Pol} {D E u B D' B' i : Nat} (pf : Pg D B f) (pg : Pg E u g) (ng : nrm g + 2 ≤ B32 ^ u) (pF : Pg D' B' (K3 4 f (K1 g i))) (hD : 1 ≤ D) (hE : 1 ≤ E) (hD' : 1 ≤ D') (hz : Z5 f = false) (hg : ¬ g.lv = 0) :
  stE g (K3 4 f (K1 g i)) = 0 ∧ (V8 D' g (K3 4 f (K1 g i))).1 = (V8 D g f).1 + i ∧ msign (V8 D' g (K3 4 f (K1 g i))).2 = msign (V8 D g f).2 ∧ dvP g (msign (V8 D g f).2) = false := by
 have gz := lv_nz hg
 have e := (stNR_ok (D := D) hz hg).2
 have ch := msign_can g
 have hhz := msign_ne pg.can gz
 have hF : ∀ x, Y7 x (K3 4 f (K1 g i)) = Y7 x f * Y7 x g ^ i := fun x => by rw [val_mul pf.can.lev (powP_can pg.can i).lev, powP_val pg.can]
 have hFz : Z5 (K3 4 f (K1 g i)) = false := by
  obtain ⟨x, h1, h2⟩ := ((far_ne (Nat.le_refl _) pf.can hz).and (far_ne (Nat.le_refl _) pg.can gz)).ex
  rcases hq : Z5 (K3 4 f (K1 g i)) with _ | _
  ·rfl
  ·have := hF x
   rw [valP_zero hq] at this
   exact absurd this.symm (Int.mul_ne_zero h1 (Int.pow_ne_zero h2))
 have e' := (stNR_ok (D := D') hFz hg).2
 obtain ⟨l, k, _, _, _, h1, h2, _⟩ := st_all pf pg ng hD hE e
 obtain ⟨l', k', _, _, _, h1', h2', _⟩ := st_all pF pg ng hD' hE e'
 have hl := lcT_ne (N2 g) (toS_nn pg.can gz)
 have hl' : lcT (toS g) ^ i ≠ 0 := Int.pow_ne_zero hl
 obtain ⟨a1, a2⟩ := mult_uniq (n := (V8 D g f).1) (i := i) hl' ch hhz (prim_msign pg.can gz) h1.can h1'.can h2 h2' fun x => by
  rw [← h1'.vl, hF, h1.vl, msign_vl pg.can x, Int.mul_pow, Int.pow_add]
  grind
 refine ⟨e', a1, ?_, ?_⟩
 ·exact msign_eq Int.one_ne_zero hl' h1'.can h1.can h1'.nz h1.nz fun x => by rw [Int.one_mul, a2]
 ·rw [dvP, if_neg (by rw [gz]; decide)]
  cases q : X6 4 (msign (V8 D g f).2) (msign g) with
  | none => rfl
  | some w =>
   obtain ⟨cw, hw⟩ := exactF_sound 4 4 (Nat.le_refl _) (Nat.le_refl _) (msign_can _) ch q
   exact absurd (none_no h1.can ch (.scale cw.lev (lcT (toS (V8 D g f).2))) hhz h2 fun x => by rw [msign_vl h1.can x, hw, val_scale cw.lev, Int.mul_assoc]) id
theorem u8_of {n : Int} (h : (Lit.int .u8 n).wf = true) : 0 ≤ n ∧ n ≤ 255 := by
 simp only [Lit.wf, Bool.and_eq_true, decide_eq_true_eq] at h
 exact ⟨h.1, h.2⟩
theorem u8_rem {n : Int} (h : 0 ≤ n ∧ n ≤ 255) : IntKind.i64.wrap (n.tmod 4) = ((n.toNat % 4 : Nat) : Int) := by
 obtain ⟨m, rfl⟩ := Int.eq_ofNat_of_zero_le h.1
 have e : (m : Int).tmod 4 = ((m % 4 : Nat) : Int) := rfl
 rw [e, Int.toNat_natCast]
 have h1 : m % 4 < 4 := Nat.mod_lt _ (by decide)
 exact w64 (by omega) (by omega)
theorem rm_mu : Rm 4 10 3 5 (21 + 10 * gM 4 10 3 5) := by simp only [Rm, gM]; decide
end Go.Rt
namespace Go.Rt
open Go Go.RowKit
variable {X : Cx} {ops : Array Oper} {Q : Exit → Act → World → Prop} {rest : List Oper} {Γ : Gam} {H : Hp} {r : Option Nat}
abbrev fenR (r : Option Nat) : Fence := { Fence.wide with round := r }
theorem op_in {P : Program} {o : Oper} {a : Act} {w : World} {K : Act → World → Prop} {Q : Exit → Act → World → Prop} (hd : ∀ c, o.op ≠ .defer c) (h : o.wp P a w K Q) : o.wpIn (fenR r) 0 P a w K Q := by
 refine ⟨fun _ _ => trivial, ?_⟩
 have hs : o.semAt (fenR r).round a.eval = execOp a.eval o := Oper.semAt_eq _ _ o hd
 rw [hs]
 unfold Oper.wp at h
 generalize (execOp a.eval o).run P w = res at h ⊢
 cases res with
 | ok nx w' =>
  cases nx
  case enter f args => exact ⟨fun q => by simp [Fence.wide] at q, (callsIn_wide.2 h : CallsIn Fence.wide 0 P f args w' _)⟩
  case row row args => exact ⟨fun q => by simp [Fence.wide] at q, fun c cs _ => let ⟨v, w', q1, q2⟩ := h c cs; ⟨v, w', q1, stepsIn_wide.2 q2⟩⟩
  all_goals first | exact h | exact h.elim
 | halt x w' =>
  cases x <;> first | exact h | exact h.elim
def noDefB (l : List Oper) : Bool := l.all fun o => match o.op with | .defer _ => false | _ => true
theorem wpN.inRound {P : Program} {ops : Array Oper} {Q : Exit → Act → World → Prop} : ∀ {l : List Oper} {a : Act} {w : World}, noDefB l = true → wpN P ops Q l a w → wpListIn (fenR r) 0 P ops Q l a w
 | [], _, _, _, h => by unfold wpN at h; exact h
 | o :: rest, a, w, hn, h => by
  unfold wpN at h
  unfold wpListIn
  simp only [noDefB, List.all_cons, Bool.and_eq_true] at hn
  split
  ·rename_i hw; rw [if_pos hw] at h
   exact op_in (fun c e => by have := hn.1; rw [e] at this; cases this) (Oper.wp_mono (fun _ _ h => wpN.inRound hn.2 h) h)
  ·rename_i hw; rw [if_neg hw] at h; exact ⟨fun _ _ => trivial, wpN.inRound hn.2 h⟩
def JCR (X : Cx) (r : Option Nat) (c : Code) (Q : Exit → Act → World → Prop) (Γ : Gam) (H : Hp) : Prop := ∀ a w, Sat X Γ H a w → c.wpIn (fenR r) 0 X.P Q a w
theorem JCR.seq {x y : Code} (h : JCR X r x (Exit.then (y.wpIn (fenR r) 0 X.P Q) Q) Γ H) : JCR X r (.seq x y) Q Γ H := fun a w hs => wpIn_seq (h a w hs)
theorem JCR.skip (h : JQ X Q .normal Γ H) : JCR X r .skip Q Γ H := fun a w hs => wpIn_skip (h a w hs)
theorem JCR.exit {id : Nat} (h : JQ X Q (.exit id) Γ H) : JCR X r (.exit id) Q Γ H := fun a w hs => wpIn_exit (h a w hs)
theorem JCR.ret (h : JQ X Q .ret Γ H) : JCR X r .ret Q Γ H := fun a w hs => wpIn_ret (h a w hs)
theorem JCR.block {id : Nat} {c : Code} (h : JCR X r c (Exit.inBlock id Q) Γ H) : JCR X r (.block id c) Q Γ H := fun a w hs => wpIn_block (h a w hs)
theorem JCR.region {id : Nat} {l : List Oper} (h : J X l.toArray Q l Γ H) (hn : noDefB l = true := by rfl) : JCR X r (.region id l.toArray false) Q Γ H := fun a w hs => wpIn_region_lit (wpN.inRound hn (h a w hs))
theorem JCR.cond {c : Operand} {x y : Code} {t : Bool} (hc : OpT Γ c (tIs (.bool t))) (ht : t = true → JCR X r x Q Γ H) (hf : t = false → JCR X r y Q Γ H) : JCR X r (.cond c x y) Q Γ H := fun a w hs =>
 wpIn_cond_split (hc.ev (hs.on (T7 c)) (fun _ h => h)) (fun h => ht h a w hs) (fun h => hf h a w hs)
theorem JCR.cond_true {c : Operand} {x y : Code} (hc : OpT Γ c (tIs (.bool true))) (ht : JCR X r x Q Γ H) : JCR X r (.cond c x y) Q Γ H := fun a w hs =>
 wpIn_cond_true (hc.ev (hs.on (T7 c)) (fun _ h => h)) (ht a w hs)
theorem JCR.cond_false {c : Operand} {x y : Code} (hc : OpT Γ c (tIs (.bool false))) (hf : JCR X r y Q Γ H) : JCR X r (.cond c x y) Q Γ H := fun a w hs =>
 wpIn_cond_false (hc.ev (hs.on (T7 c)) (fun _ h => h)) (hf a w hs)
theorem JQR.then_normal {c : Code} {Q' : Exit → Act → World → Prop} (h : JCR X r c Q Γ H) : JQ X (Exit.then (c.wpIn (fenR r) 0 X.P Q) Q') .normal Γ H := h
theorem JCR.weak {c : Code} {Γ' : Gam} {H' : Hp} (h : ∀ a w, Sat X Γ H a w → Sat X Γ' H' a w) (next : JCR X r c Q Γ' H') : JCR X r c Q Γ H := fun a w hs => next a w (h a w hs)
theorem thenR_mono {P : Program} {c : Code} {K K' : Act → World → Prop} {a : Act} {w : World} (h : ∀ a w, K a w → K' a w) (hc : c.wpIn (fenR r) 0 P (Exit.then K Q) a w) : c.wpIn (fenR r) 0 P (Exit.then K' Q) a w :=
 wpIn_mono hc fun e a w q => by cases e <;> first | exact h _ _ q | exact q
theorem least {p : Nat → Prop} (h : ∃ n, p n) : ∃ n, p n ∧ ∀ k, p k → n ≤ k := by
 obtain ⟨n, hn⟩ := h
 induction n using Nat.strongRecOn with
 | _ n ih =>
  by_cases q : ∃ k, k < n ∧ p k
  ·obtain ⟨k, hk, hp⟩ := q
   exact ih k hk hp
  ·exact ⟨n, hn, fun k hk => Nat.le_of_not_lt fun hlt => q ⟨k, hlt, hk⟩⟩
theorem JCR.loop {ι : Type} {c : Code} (G : ι → Gam) (HH : ι → Hp) (inv : ι → Prop) (μ : ι → Nat) (i0 : ι) (h0 : inv i0) (hs0 : ∀ a w, Sat X Γ H a w → Sat X (G i0) (HH i0) a w)
  (round : ∀ i, inv i → JCR X r c (Exit.then (fun a w => ∃ j, inv j ∧ μ j < μ i ∧ Sat X (G j) (HH j) a w) Q) (G i) (HH i)) : JCR X r (.loop c) Q Γ H := by
 classical
 intro a w hs
 let I : Act → World → Prop := fun a w => ∃ n i, μ i = n ∧ inv i ∧ Sat X (G i) (HH i) a w
 let m : Act → World → Nat := fun a w => if h : I a w then Classical.choose (least h) else 0
 refine wpIn_loop I m ⟨_, i0, rfl, h0, hs0 a w hs⟩ fun a w hI => ?_
 obtain ⟨⟨i, hi, hinv, hsat⟩, _⟩ := Classical.choose_spec (least hI)
 have hm : m a w = Classical.choose (least hI) := dif_pos hI
 refine thenR_mono (fun a' w' ⟨j, hj, hlt, hs'⟩ => ?_) (round i hinv a w hsat)
 have hI' : I a' w' := ⟨_, j, rfl, hj, hs'⟩
 refine ⟨hI', ?_⟩
 have hm' : m a' w' = Classical.choose (least hI') := dif_pos hI'
 have : Classical.choose (least hI') ≤ μ j := (Classical.choose_spec (least hI')).2 _ ⟨j, rfl, hj, hs'⟩
 rw [hm, hm', ← hi]
 omega
section
variable {α β γ δ ε : Type} {c : Code}
theorem JCR.loop2 (G : α → β → Gam) (HH : α → β → Hp) (inv : α → β → Prop) (μ : α → β → Nat) (a0 : α) (b0 : β) (h0 : inv a0 b0) (hs0 : ∀ a w, Sat X Γ H a w → Sat X (G a0 b0) (HH a0 b0) a w)
  (round : ∀ i j, inv i j → JCR X r c (Exit.then (fun a w => ∃ k l, inv k l ∧ μ k l < μ i j ∧ Sat X (G k l) (HH k l) a w) Q) (G i j) (HH i j)) : JCR X r (.loop c) Q Γ H :=
 JCR.loop (ι := α × β) (fun i => G i.1 i.2) (fun i => HH i.1 i.2) (fun i => inv i.1 i.2) (fun i => μ i.1 i.2) (a0, b0) h0 hs0 fun i hi a w hs => thenR_mono (fun _ _ ⟨k, l, h⟩ => ⟨(k, l), h⟩) (round i.1 i.2 hi a w hs)
theorem JCR.loop3 (G : α → β → γ → Gam) (HH : α → β → γ → Hp) (inv : α → β → γ → Prop) (μ : α → β → γ → Nat) (a0 : α) (b0 : β) (c0 : γ) (h0 : inv a0 b0 c0) (hs0 : ∀ a w, Sat X Γ H a w → Sat X (G a0 b0 c0) (HH a0 b0 c0) a w)
  (round : ∀ i j k, inv i j k → JCR X r c (Exit.then (fun a w => ∃ l m n, inv l m n ∧ μ l m n < μ i j k ∧ Sat X (G l m n) (HH l m n) a w) Q) (G i j k) (HH i j k)) : JCR X r (.loop c) Q Γ H :=
 JCR.loop (ι := α × β × γ) (fun i => G i.1 i.2.1 i.2.2) (fun i => HH i.1 i.2.1 i.2.2) (fun i => inv i.1 i.2.1 i.2.2) (fun i => μ i.1 i.2.1 i.2.2) (a0, b0, c0) h0 hs0 fun i hi a w hs => thenR_mono (fun _ _ ⟨k, l, m, h⟩ => ⟨(k, l, m), h⟩) (round i.1 i.2.1 i.2.2 hi a w hs)
theorem JCR.loop4 (G : α → β → γ → δ → Gam) (HH : α → β → γ → δ → Hp) (inv : α → β → γ → δ → Prop) (μ : α → β → γ → δ → Nat) (a0 : α) (b0 : β) (c0 : γ) (d0 : δ) (h0 : inv a0 b0 c0 d0) (hs0 : ∀ a w, Sat X Γ H a w → Sat X (G a0 b0 c0 d0) (HH a0 b0 c0 d0) a w)
  (round : ∀ i j k l, inv i j k l → JCR X r c (Exit.then (fun a w => ∃ m n p q, inv m n p q ∧ μ m n p q < μ i j k l ∧ Sat X (G m n p q) (HH m n p q) a w) Q) (G i j k l) (HH i j k l)) : JCR X r (.loop c) Q Γ H :=
 JCR.loop (ι := α × β × γ × δ) (fun i => G i.1 i.2.1 i.2.2.1 i.2.2.2) (fun i => HH i.1 i.2.1 i.2.2.1 i.2.2.2) (fun i => inv i.1 i.2.1 i.2.2.1 i.2.2.2) (fun i => μ i.1 i.2.1 i.2.2.1 i.2.2.2) (a0, b0, c0, d0) h0 hs0 fun i hi a w hs => thenR_mono (fun _ _ ⟨k, l, m, n, h⟩ => ⟨(k, l, m, n), h⟩) (round i.1 i.2.1 i.2.2.1 i.2.2.2 hi a w hs)
theorem JCR.loop5 (G : α → β → γ → δ → ε → Gam) (HH : α → β → γ → δ → ε → Hp) (inv : α → β → γ → δ → ε → Prop) (μ : α → β → γ → δ → ε → Nat) (a0 : α) (b0 : β) (c0 : γ) (d0 : δ) (e0 : ε) (h0 : inv a0 b0 c0 d0 e0) (hs0 : ∀ a w, Sat X Γ H a w → Sat X (G a0 b0 c0 d0 e0) (HH a0 b0 c0 d0 e0) a w)
  (round : ∀ i j k l m, inv i j k l m → JCR X r c (Exit.then (fun a w => ∃ n p q r s, inv n p q r s ∧ μ n p q r s < μ i j k l m ∧ Sat X (G n p q r s) (HH n p q r s) a w) Q) (G i j k l m) (HH i j k l m)) : JCR X r (.loop c) Q Γ H :=
 JCR.loop (ι := α × β × γ × δ × ε) (fun i => G i.1 i.2.1 i.2.2.1 i.2.2.2.1 i.2.2.2.2) (fun i => HH i.1 i.2.1 i.2.2.1 i.2.2.2.1 i.2.2.2.2) (fun i => inv i.1 i.2.1 i.2.2.1 i.2.2.2.1 i.2.2.2.2) (fun i => μ i.1 i.2.1 i.2.2.1 i.2.2.2.1 i.2.2.2.2) (a0, b0, c0, d0, e0) h0 hs0
  fun i hi a w hs => thenR_mono (fun _ _ ⟨n, p, q, r, s, h⟩ => ⟨(n, p, q, r, s), h⟩) (round i.1 i.2.1 i.2.2.1 i.2.2.2.1 i.2.2.2.2 hi a w hs)
end
end Go.Rt
namespace Go.Rt
open Go Go.RowKit
variable {X : Cx} {ops : Array Oper} {Q : Exit → Act → World → Prop} {rest : List Oper} {Γ : Gam} {H : Hp}
variable {dst : Option Tmp} {ty : TypeId} {pos : String} {af : Array Edge} {gd : Option (Nat × Bool)} {o : Oper}
def CtrO (P : Program) (f : FuncId) (Ts : List Ty) (bt : TypeId) (n c : Nat) (R : Nat → CTy) : Prop :=
 ∀ (w0 : World) (M0 : Nat → Prop), (∀ k, M0 k → k < w0.heap.size) → ∀ vs, vsP Ts vs ⟨w0, M0⟩ →
  Calls P f vs.toArray w0 fun e w' => ∃ b cap cs, e = .returned (.slice (some ⟨b, 0, none⟩) n c) ∧ Below w0.heap.size w0 w' ∧ w0.heap.size ≤ b ∧ w'.heap[b]? = some (.cells cs bt (0, 0)) ∧ (R cap).p cs.toList ⟨w', fun k => M0 k ∨ k = b⟩
def PostO (X : Cx) (bt : TypeId) (n c : Nat) (R : Nat → CTy) : Ending → World → Prop := fun e w' =>
 ∃ b cap cs, e = .returned (.slice (some ⟨b, 0, none⟩) n c) ∧ Kept X.L X.w0 w' ∧ (X.w0.heap.size ≤ b ∨ b ∈ X.L) ∧ w'.heap[b]? = some (.cells cs bt (0, 0)) ∧ (R cap).p cs.toList ⟨w', fun k => X.M0 k ∨ k = b⟩
theorem CtrO.of {P : Program} {f N : Nat} {fn : Func} {c : Code} {Ts : List Ty} {bt : TypeId} {n cp : Nat} {R : Nat → CTy} (hf : P.funcs[f]? = some fn) (hb : fn.body = some c) (hN : fn.ntmps = N) (hl : Ts.length ≤ N)
  (h : ∀ w0 M0, JC ⟨P, w0, M0, [], N, []⟩ c (bodyPost P fn (PostO ⟨P, w0, M0, [], N, []⟩ bt n cp R)) (gam0 0 Ts) []) : CtrO P f Ts bt n cp R := by
 intro w0 M0 hM vs hvs
 refine Calls.mono (calls_of_wp (R := PostO ⟨P, w0, M0, [], N, []⟩ bt n cp R) hf hb ?_) fun e w' ⟨b, cap, cs, h1, h2, h3, h4, h5⟩ => ⟨b, cap, cs, h1, h2.below, h3.elim id (fun h => by cases h), h4, h5⟩
 subst hN
 refine h w0 M0 _ _ ⟨?_, rfl, fun k hk => ⟨hM k hk, by simp⟩, Kept.refl _ _, fun i T hi => ?_, ⟨fun e he => by (cases he), List.Pairwise.nil⟩⟩
 ·have := hvs.length
  simp; omega
 ·obtain ⟨_, v, hv, hT⟩ := slots0 0 hvs i T hi
  have hM' : mask M0 [] = M0 := by funext k; simp [mask]
  show T.p _ ⟨w0, mask M0 []⟩
  rw [hM']
  have hlt : i < vs.length := (List.getElem?_eq_some_iff.1 hv).1
  have : (vs.toArray ++ Array.replicate (fn.ntmps - vs.toArray.size) undef).getD i undef = v := by
   rw [Array.getD_eq_getD_getElem?, Array.getElem?_append_left (by simpa using hlt)]
   simp at hv
   simp [hv]
  rw [this]; exact hT
theorem JQ.retO {fn : Func} {b t cap n cp : Nat} {bt : TypeId} {R : Nat → CTy} (hf : fn.results = #[.tmp t]) (hb : (⟨b, bt, R cap⟩ : HEnt) ∈ H) (hT : OpT Γ (.tmp t) (sIs b 0 n cp)) (hD : X.Df = [] := by rfl) : JQ X (bodyPost X.P fn (PostO X bt n cp R)) .ret Γ H := fun a w hs => by
 obtain ⟨hb0, cs, hc, hr⟩ := hs.hp.1 _ hb
 have hl : Le ⟨w, mask X.M0 H⟩ ⟨w, fun k => X.M0 k ∨ k = b⟩ := ⟨Nat.le_refl _, fun _ _ _ => rfl, fun k _ hk => by
  rcases hk with hk | rfl
  ·exact .inl hk
  ·exact .inr ⟨_, hb, rfl⟩⟩
 have hv : a.eval (.tmp t) = .slice (some ⟨b, 0, none⟩) n cp := hT.ev (hs.on (T7 (.tmp t))) (fun _ h => h)
 refine ⟨hs.defers.trans hD, .slice (some ⟨b, 0, none⟩) n cp, ?_, b, cap, cs, rfl, hs.below, hb0, hc, (R cap).up hl hr⟩
 rw [results_eq, hf]
 have hv' : a.tmps.getD t undef = .slice (some ⟨b, 0, none⟩) n cp := hv
 simp [resOne, hv']
theorem J.callO {d f bt n cp : Nat} {R : Nat → CTy} {xs : List Operand} {Ts : List Ty} {ats : Array TypeId} (hf : fnB X.P f = true) (hc : CtrO X.P f Ts bt n cp R) (hx : OpTs Γ xs Ts) (hN : d < X.N)
  (next : ∀ b cap, J X ops Q rest ((d, sIs b 0 n cp) :: Γ) (⟨b, bt, R cap⟩ :: H)) :
  J X ops Q (⟨some d, .call { callee := .value (.func f), args := xs.toArray, argTypes := ats }, ty, pos, af, none⟩ :: rest) Γ H := by
 intro a w hs
 unfold wpN
 rw [if_pos (V6 rfl _)]
 have hv := hx.ev (X := X) (hs.on (xs.flatMap T7)) (fun x hx i hi => List.mem_flatMap.2 ⟨x, hx, hi⟩)
 have h := hc w _ (mask_lt (hs.on [])) _ hv
 unfold Oper.wp
 have hr : (execOp a.eval ⟨some d, .call { callee := .value (.func f), args := xs.toArray, argTypes := ats }, ty, pos, af, none⟩).run X.P w = .ok (.enter f (xs.map a.eval).toArray) w := by
  rw [execOp_call_go]
  have := run_callFunc hf (xs.map a.eval).toArray w
  simpa using this
 rw [hr]
 refine Calls.mono h ?_
 rintro e w' ⟨b, cap, cs, rfl, hb, hbs, hcs, hR⟩
 have hm : (fun k => mask X.M0 H k ∨ k = b) = mask X.M0 (⟨b, bt, R cap⟩ :: H) := by
  funext k
  refine propext ⟨fun h => ?_, fun h => ?_⟩
  ·rcases h with (h | ⟨e, he, h⟩) | h
   ·exact .inl h
   ·exact .inr ⟨e, .tail _ he, h⟩
   ·exact .inr ⟨_, .head _, h.symm⟩
  ·rcases h with h | ⟨e, he, h⟩
   ·exact .inl (.inl h)
   ·cases he with
    | head => exact .inr h.symm
    | tail _ he => exact .inl (.inr ⟨e, he, h⟩)
 rw [hm] at hR
 have hl : Le ⟨w, mask X.M0 H⟩ ⟨w', mask X.M0 (⟨b, bt, R cap⟩ :: H)⟩ := ⟨hb.size, fun k hk _ => hb.block k hk, fun k hk h => by
  rcases h with h | ⟨e, he, rfl⟩
  ·exact .inl h
  ·cases he with
   | head => exact absurd hk (Nat.not_lt.2 hbs)
   | tail _ he => exact .inr ⟨e, he, rfl⟩⟩
 have hs2 : Sat X Γ (⟨b, bt, R cap⟩ :: H) a w' := by
  refine ⟨hs.size, hs.defers, hs.m0, hs.below.ext hb, fun i T hi => T.up hl (hs.slots i T hi), fun e he => ?_, ?_⟩
  ·cases he with
   | head => exact ⟨.inl (Nat.le_trans hs.below.size hbs), cs, hcs, hR⟩
   | tail _ he =>
    obtain ⟨h1, cs', hc', hr'⟩ := hs.hp.1 e he
    exact ⟨h1, cs', (hb.block _ (hs.hp.lt he)).trans hc', e.R.up hl hr'⟩
  ·refine List.Pairwise.cons (fun b' hb' => ?_) hs.hp.2
   obtain ⟨e, he, rfl⟩ := List.mem_map.1 hb'
   have := hs.hp.lt he
   show b ≠ e.b
   omega
 exact next b cap _ _ (hs2.put hN rfl)
theorem splice {α : Type} {cs v : List α} {a n off m : Nat} (h : a + n ≤ cs.length) (ho : off + m ≤ n) :
  cs.take a ++ (((cs.drop a).take n).take off ++ v ++ ((cs.drop a).take n).drop (off + m)) ++ cs.drop (a + n) = cs.take (a + off) ++ v ++ cs.drop (a + off + m) := by
 have e1 : ((cs.drop a).take n).take off = (cs.drop a).take off := by rw [List.take_take, Nat.min_eq_left (by omega)]
 have e2 : cs.take a ++ (cs.drop a).take off = cs.take (a + off) := List.take_add.symm
 have e3 : ((cs.drop a).take n).drop (off + m) ++ cs.drop (a + n) = cs.drop (a + off + m) := by
  have : cs.drop (a + n) = (cs.drop a).drop n := by rw [List.drop_drop]
  have e4 : cs.drop (a + off + m) = (cs.drop a).drop (off + m) := by rw [List.drop_drop, Nat.add_assoc]
  rw [this, e4]
  conv => rhs; rw [← List.take_append_drop n (cs.drop a)]
  rw [List.drop_append_of_le_length (by simp; omega)]
 rw [e1, ← e2, ← e3]
 simp [List.append_assoc]
theorem row_aggF {α β : Type} {n m off i cap : Nat} {f : α → List Ty} {g : β → List Ty} {xs : List α} {x : α} {y : β} (hx : xs[i]? = some x) (hg : ((f x).drop off).take m = g y) (hm : Nat.ble (off + m) n = true) :
  ∀ cs s, (Y5 (encF n f) xs cap).p cs s → 0 + i * n + off + m ≤ cs.length ∧ (tV (encF m g) y).p (.agg ((cs.drop (0 + i * n + off)).take m).toArray) s := by
 rintro cs s ⟨h1, h2, h3⟩
 have hlt := (List.getElem?_eq_some_iff.1 hx).1
 have hle := Nat.le_of_ble_eq_true hm
 have h2' : cs.length = cap * n := h2
 have hroom := row_room (show i < cap by omega) h2'
 have hc : cellsP (f x) ((cs.drop (i * n)).take n) s := (h3 i x hx).2
 have hl := cellsP.length hc
 have hn : (f x).length = n := (h3 i x hx).1
 have hc2 := cellsP.take m (cellsP.drop off hc)
 have e : ((((cs.drop (i * n)).take n).drop off).take m) = (cs.drop (0 + i * n + off)).take m := by
  rw [List.drop_take, List.take_take, Nat.min_eq_left (by omega), List.drop_drop, Nat.zero_add]
 rw [hg, e] at hc2
 refine ⟨by omega, cells_agg hc2 ?_⟩
 rw [← hg]; simp; omega
theorem row_setF {α β : Type} {n m off i cap : Nat} {f : α → List Ty} {g : β → List Ty} {xs : List α} {x x' : α} {y : β} (hx : xs[i]? = some x) (hg : f x' = (f x).take off ++ g y ++ (f x).drop (off + m)) (hm : Nat.ble (off + m) n = true) :
  ∀ cs v s, (Y5 (encF n f) xs cap).p cs s → (tV (encF m g) y).p v s →
   v.cells.size = m ∧ 0 + i * n + off + m ≤ cs.length ∧ (∀ u ∈ v.cells.toList, u.oneCell' = true) ∧ (Y5 (encF n f) (xs.set i x') cap).p (cs.take (0 + i * n + off) ++ v.cells.toList ++ cs.drop (0 + i * n + off + m)) s := by
 intro cs v s hc hv
 have hlt := (List.getElem?_eq_some_iff.1 hx).1
 have hle := Nat.le_of_ble_eq_true hm
 have h2' : cs.length = cap * n := hc.2.1
 have hcap := hc.1
 have hroom := row_room (show i < cap by omega) h2'
 have hcx : cellsP (f x) ((cs.drop (i * n)).take n) s := (hc.2.2 i x hx).2
 have hn : (f x).length = n := (hc.2.2 i x hx).1
 obtain ⟨hv1, hv2, hv3⟩ := hv
 have hvl := cellsP.length hv3
 have hgy : (g y).length = m := hv2
 have hnew : cellsP (f x') (((cs.drop (i * n)).take n).take off ++ v.cells.toList ++ ((cs.drop (i * n)).take n).drop (off + m)) s := by
  rw [hg]; exact cellsP.append (cellsP.append (cellsP.take off hcx) hv3) (cellsP.drop (off + m) hcx)
 have hw := T4 (E := encF n f) (i := i) (x := x') hlt cs (.agg (((cs.drop (i * n)).take n).take off ++ v.cells.toList ++ ((cs.drop (i * n)).take n).drop (off + m)).toArray) s hc
  ⟨rfl, by rw [hg]; simp; omega, by simpa [Value.cells] using hnew⟩
 have h4 := hw.2.2.2
 have hs := splice (v := v.cells.toList) hroom hle
 simp only [Value.cells, Nat.zero_add] at h4
 refine ⟨by rw [← Array.length_toList]; omega, by omega, cellsP.one hv3, ?_⟩
 rw [Nat.zero_add, ← hs]
 exact h4
theorem JC.rowcap {α : Type} {E : Enc α} {xs : List α} {b bt cap : Nat} {c : Code} (hb : (⟨b, bt, Y5 E xs cap⟩ : HEnt) ∈ H) (h : xs.length ≤ cap → JC X c Q Γ H) : JC X c Q Γ H := fun a w hs => by
 obtain ⟨_, cs, _, hr⟩ := hs.hp.1 _ hb
 exact h hr.1 a w hs
theorem ot_slice3_own {b o n c t e sz by_ h m : Nat} {x y z : Operand} {kh km : IntKind} (hx : OpT Γ x (sIs b o n c)) (ht : slB X.P t = some (e, sz, by_))
  (hh : OpT Γ y (tIs (.int kh h))) (hm : OpT Γ z (tIs (.int km m))) (h1 : h ≤ m) (h2 : m ≤ c) :
  R2 X Γ H ⟨dst, .slice t x none (some y) (some z), ty, pos, af, gd⟩ (sIs b o h m) :=
 V4 fun a w hs => by
  have he : a.eval x = .slice (some ⟨b, o, none⟩) n c := hx.ev hs (Y1 (by simp [Op.operands]))
  have e1 : a.eval y = .int kh h := hh.ev hs (Y1 (by simp [Op.operands]))
  have e2 : a.eval z = .int km m := hm.ev hs (Y1 (by simp [Op.operands]))
  obtain ⟨hu, i, hi', hsz, _⟩ := slB_spec ht
  refine ⟨.slice (some ⟨b, o, none⟩) h m, w, ?_, Below.refl _ _, rfl⟩
  simp [execOp, Instr.sliceAt, run_underlying hu, Instr.slice, he, e1, e2, Instr.sliceBounds, Instr.sliceBound, asIntOf, h1, h2, sizeOf, typeInfo, hi', hsz, add_at]
end Go.Rt
namespace Go.Rt
open Go Go.RowKit
variable {X : Cx} {Q : Exit → Act → World → Prop} {Γ : Gam} {H : Hp}
theorem look_append {A B : Gam} {x : Nat} : look (A ++ B) x = (look A x).or (look B x) := by
 induction A with
 | nil => rfl
 | cons p A ih =>
  obtain ⟨j, T⟩ := p
  rw [List.cons_append, T6, T6]
  cases Nat.beq j x with
  | true => rfl
  | false => exact ih
theorem look_mem {A : Gam} {x : Nat} {T : Ty} (h : look A x = some T) : (x, T) ∈ A := by
 induction A with
 | nil => cases h
 | cons p A ih =>
  obtain ⟨j, U⟩ := p
  rw [T6] at h
  cases hb : Nat.beq j x with
  | true => rw [hb] at h; cases h; rw [R0.1 hb]; exact .head _
  | false => rw [hb] at h; exact .tail _ (ih h)
theorem look_filter {A : Gam} {p : Nat → Bool} {x : Nat} : look (A.filter fun q => p q.1) x = if p x then look A x else none := by
 induction A with
 | nil => simp [look]
 | cons q A ih =>
  obtain ⟨j, T⟩ := q
  rw [T6]
  cases hb : Nat.beq j x with
  | true =>
   have hj := R0.1 hb
   subst hj
   by_cases hp : p j = true
   ·rw [List.filter_cons_of_pos (by simpa using hp), T6, Nat.beq_refl, if_pos hp]; rfl
   ·rw [List.filter_cons_of_neg (by simpa using hp), ih, if_neg hp, if_neg hp]
  | false =>
   by_cases hp : p j = true
   ·rw [List.filter_cons_of_pos (by simpa using hp), T6, hb]; exact ih
   ·rw [List.filter_cons_of_neg (by simpa using hp)]; exact ih
def known (all : List Oper) (n : Nat) (T : Nat → Ty) (listed : Array Bool) (Γ : Gam) : Gam :=
 ((List.range n).filterMap fun j => if listed.getD j false then (W6 all j).map fun d => (d, T j) else none) ++
  Γ.filter fun p => !((List.range n).any fun j => listed.getD j false && W6 all j == some p.1)
theorem known_old {all : List Oper} {n : Nat} {T : Nat → Ty} {listed : Array Bool} {x : Nat} {U : Ty} (h : look Γ x = some U) (hno : ∀ i, i < n → listed.getD i false = true → W6 all i ≠ some x) : look (known all n T listed Γ) x = some U := by
 unfold known
 rw [look_append, look_filter (p := fun y => !((List.range n).any fun j => listed.getD j false && W6 all j == some y))]
 have h1 : look ((List.range n).filterMap fun j => if listed.getD j false then (W6 all j).map fun d => (d, T j) else none) x = none := by
  cases hl : look ((List.range n).filterMap fun j => if listed.getD j false then (W6 all j).map fun d => (d, T j) else none) x with
  | none => rfl
  | some V =>
   obtain ⟨j, hj, hv⟩ := List.mem_filterMap.1 (look_mem hl)
   split at hv
   ·rename_i hjl
    obtain ⟨d, hd, he⟩ := Option.map_eq_some_iff.1 hv
    cases he
    exact absurd hd (hno j (List.mem_range.1 hj) hjl)
   ·cases hv
 have h2 : ((List.range n).any fun j => listed.getD j false && W6 all j == some x) = false := by
  rw [List.any_eq_false]
  intro j hj
  simp only [Bool.and_eq_true, beq_iff_eq, not_and]
  exact hno j (List.mem_range.1 hj)
 rw [h1, h2]
 simpa using h
theorem look_of_mem {A : Gam} {x : Nat} {T : Ty} (h : (x, T) ∈ A) : ∃ U, look A x = some U := by
 induction A with
 | nil => cases h
 | cons p A ih =>
  obtain ⟨j, U⟩ := p
  rw [T6]
  cases hb : Nat.beq j x with
  | true => exact ⟨U, rfl⟩
  | false =>
   cases h with
   | head => rw [Nat.beq_refl] at hb; cases hb
   | tail _ h => exact ih h
theorem known_new {all : List Oper} {n : Nat} {T : Nat → Ty} {listed : Array Bool} {x j : Nat} (hj : j < n) (hl : listed.getD j false = true) (hd : W6 all j = some x) (hdis : ∀ i, i < n → i ≠ j → W6 all i ≠ some x) : look (known all n T listed Γ) x = some (T j) := by
 unfold known
 rw [look_append]
 have hm : (x, T j) ∈ ((List.range n).filterMap fun j => if listed.getD j false then (W6 all j).map fun d => (d, T j) else none) :=
  List.mem_filterMap.2 ⟨j, List.mem_range.2 hj, by rw [hl, hd]; rfl⟩
 obtain ⟨U, hU⟩ := look_of_mem hm
 obtain ⟨i, hi, hv⟩ := List.mem_filterMap.1 (look_mem hU)
 split at hv
 ·obtain ⟨d, hd', he⟩ := Option.map_eq_some_iff.1 hv
  cases he
  by_cases hij : i = j
  ·subst hij; rw [hU]; rfl
  ·exact absurd hd' (hdis i (List.mem_range.1 hi) hij)
 ·cases hv
theorem RInv.known {all : List Oper} {n : Nat} {T : Nat → Ty} {listed : Array Bool} {a : Act} {w : World} (hi : RInv X H Γ all n T listed a w) : Sat X (known all n T listed Γ) H a w := by
 refine ⟨hi.size, hi.defers, hi.m0, hi.below, fun x U hU => ?_, hi.hp⟩
 unfold Go.Rt.known at hU
 rw [look_append, look_filter (p := fun y => !((List.range n).any fun j => listed.getD j false && W6 all j == some y))] at hU
 cases h1 : look ((List.range n).filterMap fun j => if listed.getD j false then (W6 all j).map fun d => (d, T j) else none) x with
 | some V =>
  rw [h1] at hU; cases hU
  obtain ⟨j, hj, hv⟩ := List.mem_filterMap.1 (look_mem h1)
  split at hv
  ·rename_i hjl
   obtain ⟨d, hd, he⟩ := Option.map_eq_some_iff.1 hv
   cases he
   exact hi.done j x (List.mem_range.1 hj) hjl hd
  ·cases hv
 | none =>
  rw [h1] at hU
  simp only [Option.none_or] at hU
  split at hU
  ·rename_i hp
   refine hi.old x U hU fun j hj hl hd => ?_
   simp only [Bool.not_eq_true', List.any_eq_false, Bool.and_eq_true, beq_iff_eq, not_and] at hp
   exact hp j (List.mem_range.2 hj) hl hd
  ·cases hU
theorem upon_mono1 {P : Program} {o : Oper} {a : Act} {K K' : Act → World → Prop} {Q Q' : Exit → Act → World → Prop} (hQ : ∀ e a w, Q e a w → e = .normal) (h : ∀ a w, K a w → K' a w) :
  ∀ r, o.upon P a K Q r → o.upon P a K' Q' r := by
 have n1 : ∀ c, ∀ a w, ¬ Q (.panic c) a w := fun c a w q => by have := hQ _ _ _ q; cases this
 have n2 : ¬ LetsOut Q := fun ⟨a, w, q⟩ => by have := hQ _ _ _ q; cases this
 intro r hr
 cases r with
 | ok n w' =>
  cases n <;> simp only [Oper.upon] at hr ⊢ <;>
   first
    | exact h _ _ hr
    | exact Calls.mono hr (fun e w'' he => by cases e <;> first | exact h _ _ he | exact (n1 _ _ _ he).elim | exact (n2 he).elim)
    | exact Rows.mono hr (fun _ _ he => h _ _ he)
    | exact hr.elim
 | halt x w' => cases x <;> simp only [Oper.upon] at hr ⊢ <;> first | exact (n1 _ _ _ hr).elim | exact hr.elim
def StTy (X : Cx) (Γ : Gam) (H H' : Hp) (ops : Array Oper) (o : Oper) : Prop := o.guard = none ∧ J X ops (fun e a w => e = .normal ∧ Sat X Γ H' a w) [o] Γ H
theorem StTy.wp {ops : Array Oper} {H' : Hp} {o : Oper} (h : StTy X Γ H H' ops o) {a : Act} {w : World} (hs : Sat X Γ H a w) {K : Act → World → Prop} (hK : ∀ a' w', Sat X Γ H' a' w' → K a' w') : o.wp X.P a w K Q := by
 have h1 := h.2 a w hs
 unfold wpN at h1
 rw [if_pos (V6 h.1 _)] at h1
 exact upon_mono1 (fun e a w q => q.1) (fun a' w' q => by unfold wpN at q; exact hK a' w' q.2) _ h1
theorem J.done {ops : Array Oper} {H' : Hp} {l : List Oper} (h : ∀ Q, JQ X Q .normal Γ H' → J X ops Q l Γ H) : J X ops (fun e a w => e = .normal ∧ Sat X Γ H' a w) l Γ H := h _ fun a w hs => ⟨rfl, hs⟩
section two
variable {all : List Oper} {n : Nat} {T : Nat → Ty} {G : Nat → Gam}
theorem ready_some {listed : Array Bool} (hokE : okEdges all = true) (hls : listed.size = all.length) {i : Nat} (hi : i < all.length) (hl : listed.getD i false = false) : Region.ready .any all.toArray listed ≠ [] := by
 have key : ∀ m i, i ≤ m → i < all.length → listed.getD i false = false → ∃ i, i ∈ Region.ready .any all.toArray listed := by
  intro m
  induction m with
  | zero =>
   intro i him hin hl
   refine ⟨i, mem_ready.2 ⟨by rw [R7 (by rw [hls]; omega) true false]; exact hl, all[i], by simp [hin], fun e he hbd => ?_⟩⟩
   have := okEdges_spec hokE (List.getElem?_eq_getElem hin) e he hbd
   omega
  | succ m ihm =>
   intro i him hin hl
   by_cases hex : ∃ k, k < i ∧ listed.getD k false = false
   ·obtain ⟨k, hk, hkl⟩ := hex
    exact ihm k (by omega) (by omega) hkl
   ·refine ⟨i, mem_ready.2 ⟨by rw [R7 (by rw [hls]; omega) true false]; exact hl, all[i], by simp [hin], fun e he hbd => ?_⟩⟩
    have hlt := okEdges_spec hokE (List.getElem?_eq_getElem hin) e he hbd
    cases hb : listed.getD e.on false with
    | true => rfl
    | false => exact absurd ⟨e.on, hlt, hb⟩ hex
 obtain ⟨j, hj⟩ := key i i (Nat.le_refl _) hi hl
 intro h; rw [h] at hj; cases hj
theorem RInv.step {listed : Array Bool} {a : Act} {w : World} (hi : RInv X H Γ all n T listed a w) (hG0 : G 0 = Γ) (hG : ∀ i, i < n → ∃ d, W6 all i = some d ∧ G (i + 1) = (d, T i) :: G i)
  (hok : ∀ i j, i < n → j < n → okPair all i j = true) {i d : Nat} (hin : i < n) {o : Oper} (ho : all[i]? = some o) (hun : listed.getD i false = false) (hready : ∀ e ∈ o.after, Region.binds .any e = true → listed.getD e.on false = true)
  (hd : o.dst = some d) (hdN : d < X.N) (hopok : OpOk X (G i) H all o (T i)) {K : Act → World → Prop} (hK : ∀ a' w', RInv X H Γ all n T (listed.setIfInBounds i true) a' w' → K a' w') : wpOp X.P all.toArray Q i K a w := by
 have hso : ∀ Γx, (∀ x U, x ∈ slotsOf o → look Γx x = some U → U.p (a.tmps.getD x undef) ⟨w, mask X.M0 H⟩) → SatOn X (slotsOf o) Γx H a w := fun Γx h =>
  ⟨hi.size, hi.defers, hi.m0, hi.below, fun x U hx hU => h x U hx hU, hi.hp⟩
 have hson := hso (G i) fun x U hx hU => hi.reads hG0 hG hok hin ho hun hready (List.mem_append.2 (.inl hx)) hU
 have ho2 : all.toArray[i]? = some o := by simpa using ho
 unfold wpOp
 simp only [ho2]
 rcases hopok with ⟨hgn, hop⟩ | ⟨g, b, t, c, T0, hgs, hst, htN, hlt, hT, hop⟩
 ·rw [if_pos (V6 hgn _)]
  refine .inl (wp_mono_false ?_ (hop a w hson))
  rintro a' w' ⟨v, rfl, hb, hv⟩
  rw [hd]
  exact hK _ _ (hi.next hok hin ho hd hdN hready hb hv)
 ·have hv : a.tmps.getD t undef = .bool c := hi.reads hG0 hG hok hin ho hun hready (List.mem_append.2 (.inr (by simp [guardSlot, hgs, hst]))) hlt
  have hy : yielded all.toArray a.tmps g = some c := by
   have hlt' : t < a.tmps.size := by rw [hi.size]; exact htN
   simp only [Array.getD_eq_getD_getElem?, Array.getElem?_eq_getElem hlt', Option.getD_some] at hv
   simp [yielded, hst, Array.getElem?_eq_getElem hlt', hv]
  rw [wanted_of hgs hy]
  by_cases hcb : c = b
  ·rw [if_pos (by simp [hcb])]
   refine .inl (wp_mono_false ?_ (hop hcb a w hson))
   rintro a' w' ⟨v, rfl, hb, hv'⟩
   rw [hd]
   exact hK _ _ (hi.next hok hin ho hd hdN hready hb (by rw [hT]; exact ⟨fun _ => hv', fun h => absurd hcb h⟩))
  ·rw [if_neg (by simp [hcb]), hd]
   exact hK _ _ (hi.next hok hin ho hd hdN hready (Below.refl _ _) (by rw [hT]; exact ⟨fun h => absurd h hcb, fun _ => rfl⟩))
theorem RInv.reads_last {listed : Array Bool} {a : Act} {w : World} (hi : RInv X H Γ all n T listed a w) (hG0 : G 0 = Γ) (hG : ∀ i, i < n → ∃ d, W6 all i = some d ∧ G (i + 1) = (d, T i) :: G i)
  (hok : ∀ i j, i < n → j < n → okPair all i j = true) (hokn : ∀ j, j < n → okPair all n j = true) {o : Oper} (ho : all[n]? = some o) (hready : ∀ e ∈ o.after, Region.binds .any e = true → listed.getD e.on false = true)
  {x : Nat} (hx : x ∈ readsOf all o) {U : Ty} (hU : look (G n) x = some U) : look (Go.Rt.known all n T listed Γ) x = some U := by
 rcases G_look hG n (Nat.le_refl _) x U hU with ⟨j, hj, hd, rfl⟩ | ⟨hno, hU0⟩
 ·have hd' := hd
  unfold W6 at hd'
  obtain ⟨oj, h1, h2⟩ := Option.bind_eq_some_iff.1 hd'
  obtain ⟨e, he, hb, hon⟩ := W4 ((okPair_read (hokn j hj) ho h1 h2 hx).1 hj)
  exact known_new hj (by rw [← hon]; exact hready e he hb) hd fun i hin hij => okPair_dst (hok j i hj hin) (Ne.symm hij) hd
 ·rw [hG0] at hU0
  exact known_old hU0 fun i hin _ => hno i hin
theorem region_run2 {H' : Hp} {fl : Nat → Bool} {os : Oper} (hokE : okEdges all = true) (hok : ∀ i j, i < n → j < n → okPair all i j = true) (hokn : ∀ j, j < n → okPair all n j = true) (hlen : all.length = n + 1)
  (hsucc : ∀ i, i < n → fl i = true ∨ ∃ j o, i < j ∧ j ≤ n ∧ all[j]? = some o ∧ backTo o i = true ∧ (j = n ∨ fl j = false))
  (hG0 : G 0 = Γ) (hG : ∀ i o, i < n → all[i]? = some o → ∃ d, o.dst = some d ∧ d < X.N ∧ G (i + 1) = (d, T i) :: G i ∧ OpOk X (G i) H all o (T i) ∧ (fl i = true → OpOk X (G i) H' all o (T i)))
  (hos : all[n]? = some os) (hst : ∀ Γx, (∀ x U, x ∈ readsOf all os → look (G n) x = some U → look Γx x = some U) → StTy X Γx H H' all.toArray os)
  (hk : ∀ a w, Sat X (G n) H' a w → Q .normal a w) :
  ∀ fuel listed a w, unl listed all.length ≤ fuel →
   ((RInv X H Γ all n T listed a w ∧ listed.getD n false = false) ∨ (RInv X H' Γ all n T listed a w ∧ listed.getD n false = true ∧ ∀ i, i < n → fl i = false → listed.getD i false = true)) → wpAny X.P .any all.toArray Q fuel listed a w := by
 have hG' : ∀ i, i < n → ∃ d, W6 all i = some d ∧ G (i + 1) = (d, T i) :: G i := fun i hi => by
  have hlt : i < all.length := by omega
  obtain ⟨d, h1, _, h2, _⟩ := hG i all[i] hi (List.getElem?_eq_getElem hlt)
  exact ⟨d, by simp [W6, List.getElem?_eq_getElem hlt, h1], h2⟩
 have hsz : ∀ {listed : Array Bool} {a : Act} {w : World}, ((RInv X H Γ all n T listed a w ∧ listed.getD n false = false) ∨ (RInv X H' Γ all n T listed a w ∧ listed.getD n false = true ∧ ∀ i, i < n → fl i = false → listed.getD i false = true)) → listed.size = all.length := by
  rintro listed a w (⟨h, _⟩ | ⟨h, _⟩) <;> exact h.lsize
 -- the end: nothing waits
 have fin : ∀ listed a w, ((RInv X H Γ all n T listed a w ∧ listed.getD n false = false) ∨ (RInv X H' Γ all n T listed a w ∧ listed.getD n false = true ∧ ∀ i, i < n → fl i = false → listed.getD i false = true)) →
   Region.ready .any all.toArray listed = [] → Q .normal a w := by
  intro listed a w hi hr
  have hall : ∀ i, i < all.length → listed.getD i false = true := fun i hil => by
   cases hb : listed.getD i false with
   | true => rfl
   | false => exact absurd hr (ready_some hokE (hsz hi) hil hb)
  rcases hi with ⟨_, hn⟩ | ⟨hi, _, _⟩
  ·rw [hall n (by omega)] at hn; cases hn
  ·exact hk a w (hi.fin hG0 hG' fun i hin => hall i (by omega))
 intro fuel
 induction fuel with
 | zero =>
  intro listed a w hu hi
  have hr : Region.ready .any all.toArray listed = [] := by
   cases hr : Region.ready .any all.toArray listed with
   | nil => rfl
   | cons j l =>
    have hj : j ∈ Region.ready .any all.toArray listed := by rw [hr]; exact .head _
    obtain ⟨hun, o, ho, _⟩ := mem_ready.1 hj
    have hjl : j < all.length := by have := (Array.getElem?_eq_some_iff.1 ho).1; simpa using this
    have hm : j ∈ (List.range all.length).filter fun i => !listed.getD i true := List.mem_filter.2 ⟨List.mem_range.2 hjl, by simp [hun]⟩
    have : 0 < unl listed all.length := List.length_pos_of_mem hm
    omega
  exact ⟨hr, fin listed a w hi hr⟩
 | succ fuel ih =>
  intro listed a w hu hi
  refine ⟨fun hr => fin listed a w hi hr, fun i hir => ?_⟩
  obtain ⟨hun, o, ho, hready⟩ := mem_ready.1 hir
  have ho' : all[i]? = some o := by simpa using ho
  have hil : i < all.length := (List.getElem?_eq_some_iff.1 ho').1
  have hls := hsz hi
  have hun' : listed.getD i false = false := by rw [R7 (by rw [hls]; omega) false true]; exact hun
  have hu' : unl (listed.setIfInBounds i true) all.length ≤ fuel := by
   have := unl_set hil hls hun
   omega
  rcases hi with ⟨hi, hn⟩ | ⟨hi, hn, hrest⟩
  ·rcases Nat.lt_or_ge i n with hin | hge
   ·obtain ⟨d, hd, hdN, hg, hopok, _⟩ := hG i o hin ho'
    exact hi.step hG0 hG' hok hin ho' hun' hready hd hdN hopok fun a' w' h => ih _ a' w' hu' (.inl ⟨h, by rw [R6 (by rw [hls]; exact hil), if_neg (by omega)]; exact hn⟩)
   ·have hieq : i = n := by omega
    subst hieq
    rw [hos] at ho'; cases ho'
    -- the store: all that comes ahead of it has run
    have hbef : ∀ m j, i - j ≤ m → j < i → fl j = false → listed.getD j false = true := by
     intro m
     induction m with
     | zero => intro j h1 h2; omega
     | succ m ihm =>
      intro j h1 h2 hf
      rcases hsucc j h2 with q | ⟨k, ok, hjk, hki, hok', hbk, hkf⟩
      ·rw [hf] at q; cases q
      obtain ⟨e, he, hbd, hon⟩ := W4 hbk
      rcases Nat.lt_or_ge k i with q | q
      ·have hkf' : fl k = false := by rcases hkf with h | h; omega; exact h
       have := hi.closed k ok hok' (ihm k (by omega) q hkf') e he hbd
       rw [hon] at this; exact this
      ·have hki : k = i := by omega
       subst hki
       rw [hos] at hok'; cases hok'
       have := hready e he hbd
       rw [hon] at this; exact this
    have hsat := hi.known
    have hty := hst _ fun x U hx hU => hi.reads_last hG0 hG' hok hokn hos hready hx hU
    unfold wpOp
    simp only [ho]
    rw [if_pos (V6 hty.1 _)]
    refine .inl (hty.wp hsat fun a' w' hs' => ?_)
    have hset : ∀ j, j < i → (listed.setIfInBounds i true).getD j false = listed.getD j false := fun j hj => by rw [R6 (by rw [hls]; exact hil), if_neg (by omega)]
    refine ih _ a' w' hu' (.inr ⟨⟨hs'.size, hs'.defers, hs'.m0, hs'.below, hs'.hp, by simp [hls], fun j oj hj hl e he hbd => ?_, fun j x hj hl hx => ?_, fun x U hU hno => ?_⟩, by rw [R6 (by rw [hls]; exact hil), if_pos rfl], fun j hj hf => by rw [hset j hj]; exact hbef (i - j) j (Nat.le_refl _) hj hf⟩)
    ·rw [R6 (by rw [hls]; exact hil)] at hl
     have hjl := (List.getElem?_eq_some_iff.1 hj).1
     by_cases hij : i = j
     ·subst hij
      rw [hos] at hj; cases hj
      have := hready e he hbd
      rw [R6 (by rw [hls]; exact hil)]
      split
      ·rfl
      ·exact this
     ·rw [if_neg hij] at hl
      have := hi.closed j oj hj hl e he hbd
      rw [R6 (by rw [hls]; exact hil)]
      split
      ·rfl
      ·exact this
    ·rw [hset j hj] at hl
     exact hs'.slots x _ (known_new hj hl hx fun k hk hkj => okPair_dst (hok j k hj hk) (Ne.symm hkj) hx)
    ·refine hs'.slots x U (known_old hU fun k hk hl => hno k hk ?_)
     rw [hset k hk]; exact hl
  ·rcases Nat.lt_or_ge i n with hin | hge
   ·obtain ⟨d, hd, hdN, hg, _, hopf⟩ := hG i o hin ho'
    have hf : fl i = true := by
     cases hb : fl i with
     | true => rfl
     | false => rw [hrest i hin hb] at hun'; cases hun'
    refine hi.step hG0 hG' hok hin ho' hun' hready hd hdN (hopf hf) fun a' w' h => ih _ a' w' hu' (.inr ⟨h, by rw [R6 (by rw [hls]; exact hil), if_neg (by omega)]; exact hn, fun j hj hfj => ?_⟩)
    rw [R6 (by rw [hls]; exact hil)]
    split
    ·rfl
    ·exact hrest j hj hfj
   ·have hieq : i = n := by omega
    subst hieq
    rw [hn] at hun'; cases hun'
end two
inductive TS (X : Cx) (H H' : Hp) (all : List Oper) (fl : Nat → Bool) : Nat → Gam → List Oper → Gam → Prop
 | nil {i : Nat} {Γ : Gam} : TS X H H' all fl i Γ [] Γ
 | cons {i : Nat} {Γ Γ' : Gam} {o : Oper} {rest : List Oper} {d : Nat} {T : Ty} (hd : o.dst = some d) (hN : d < X.N) (h : OpOk X Γ H all o T) (hf : fl i = true → OpOk X Γ H' all o T) (next : TS X H H' all fl (i + 1) ((d, T) :: Γ) rest Γ') : TS X H H' all fl i Γ (o :: rest) Γ'
theorem TS.op {H' : Hp} {all : List Oper} {fl : Nat → Bool} {i : Nat} {Γ Γ' : Gam} {o : Oper} {rest : List Oper} {d : Nat} {T : Ty} (h : R2 X Γ H o T) (hd : o.dst = some d) (hN : d < X.N) (hg : o.guard = none) (hf : fl i = false) (next : TS X H H' all fl (i + 1) ((d, T) :: Γ) rest Γ') : TS X H H' all fl i Γ (o :: rest) Γ' :=
 .cons hd hN (.inl ⟨hg, h⟩) (fun q => by rw [hf] at q; cases q) next
theorem TS.opf {H' : Hp} {all : List Oper} {fl : Nat → Bool} {i : Nat} {Γ Γ' : Gam} {o : Oper} {rest : List Oper} {d : Nat} {T : Ty} (h : ∀ H, R2 X Γ H o T) (hd : o.dst = some d) (hN : d < X.N) (hg : o.guard = none) (next : TS X H H' all fl (i + 1) ((d, T) :: Γ) rest Γ') : TS X H H' all fl i Γ (o :: rest) Γ' :=
 .cons hd hN (.inl ⟨hg, h H⟩) (fun _ => .inl ⟨hg, h H'⟩) next
theorem TS.seq {H' : Hp} {all : List Oper} {fl : Nat → Bool} {k : Nat} {Γ Γ' : Gam} {l : List Oper} (h : TS X H H' all fl k Γ l Γ') : ∃ (G : Nat → Gam) (T : Nat → Ty), G 0 = Γ ∧ G l.length = Γ' ∧
  ∀ i o, l[i]? = some o → ∃ d, o.dst = some d ∧ d < X.N ∧ G (i + 1) = (d, T i) :: G i ∧ OpOk X (G i) H all o (T i) ∧ (fl (k + i) = true → OpOk X (G i) H' all o (T i)) := by
 induction h with
 | nil => rename_i Γ; exact ⟨fun _ => Γ, fun _ => K5, rfl, rfl, fun i o h => by simp at h⟩
 | cons hd hN h hf _ ih =>
  rename_i k Γ Γ' o rest d T _
  obtain ⟨G, T', h0, h1, h2⟩ := ih
  refine ⟨fun i => match i with | 0 => Γ | i + 1 => G i, fun i => match i with | 0 => T | i + 1 => T' i, rfl, h1, fun i o' ho => ?_⟩
  cases i with
  | zero => simp at ho; subst ho; exact ⟨d, hd, hN, h0, h, hf⟩
  | succ i =>
   obtain ⟨d', q1, q2, q3, q4, q5⟩ := h2 i o' (by simpa using ho)
   exact ⟨d', q1, q2, q3, q4, fun q => q5 (by rw [show k + 1 + i = k + (i + 1) by omega]; exact q)⟩
def okR2 (all : List Oper) (n : Nat) (fl : Nat → Bool) : Bool :=
 okEdges all && ((List.range (n + 1)).all fun i => (List.range n).all fun j => okPair all i j) && Nat.beq all.length (n + 1) &&
 (List.range n).all fun i => fl i || (List.range (n + 1)).any fun j => Nat.blt i j && opAtB all j (backTo · i) && (Nat.beq j n || !fl j)
theorem JC.drawS {id : Nat} {l : List Oper} {Γ' : Gam} {H' : Hp} {os : Oper} (n : Nat) (fl : Nat → Bool) (hm : X.P.follows .mixedOrders = true) (hok : okR2 l n fl = true) (hos : l[n]? = some os) (ht : TS X H H' l fl 0 Γ (l.take n) Γ')
  (hst : ∀ Γx, (∀ x U, x ∈ readsOf l os → look Γ' x = some U → look Γx x = some U) → StTy X Γx H H' l.toArray os) (next : JQ X Q .normal Γ' H') : JC X (.region id l.toArray true) Q Γ H := by
 intro a w hs
 simp only [okR2, Bool.and_eq_true] at hok
 obtain ⟨⟨⟨h1, h2⟩, h3⟩, h4⟩ := hok
 have hlen := R0.1 h3
 obtain ⟨G, T, hG0, hGn, hG⟩ := ht.seq
 have hl2 : (l.take n).length = n := by simp; omega
 rw [hl2] at hGn
 refine wp_region_any hm ?_
 have hb : Below w.heap.size w { w with drawn := w.drawn + 1 } := (Below.refl _ w).drew
 have := region_run2 (Q := Q) (H' := H') (fl := fl) (os := os) h1 (fun i j hi hj => K9 (K9 h2 (by omega)) hj) (fun j hj => K9 (K9 h2 (by omega)) hj) hlen (fun i hi => ?_) hG0
  (fun i o hi ho => by have q := hG i o (by rw [List.getElem?_take, if_pos hi]; exact ho); rw [Nat.zero_add] at q; exact q) hos (fun Γx hx => hst Γx fun x U q1 q2 => hx x U q1 (hGn ▸ q2)) (fun a w hs => next a w (hGn ▸ hs)) l.length (Array.replicate l.length false) a _
  (by have := List.length_filter_le (fun i => !(Array.replicate l.length false).getD i true) (List.range l.length); simpa [unl] using this)
  (.inl ⟨RInv.start (hs.ext hb), by simp only [Array.getD_eq_getD_getElem?, Array.getElem?_replicate]; split <;> rfl⟩)
 ·simpa using this
 ·have h6 := K9 h4 hi
  simp only [Bool.or_eq_true] at h6
  rcases h6 with h6 | h6
  ·exact .inl h6
  ·obtain ⟨j, hj, hjj⟩ := List.any_eq_true.1 h6
   simp only [Bool.and_eq_true, Bool.or_eq_true, Bool.not_eq_true', R0] at hjj
   have hjl : j < l.length := by have := List.mem_range.1 hj; omega
   refine .inr ⟨j, l[j], nat_blt.1 hjj.1.1, by have := List.mem_range.1 hj; omega, List.getElem?_eq_getElem hjl, ?_, hjj.2⟩
   have := hjj.1.2
   simpa [opAtB, List.getElem?_eq_getElem hjl] using this
theorem OpT.moveS {Γ Γx : Gam} {R : List Nat} {x : Operand} {T : Ty} (hx : ∀ y U, y ∈ R → look Γ y = some U → look Γx y = some U) (h : OpT Γ x T) (hm : ∀ y ∈ T7 x, y ∈ R) : OpT Γx x T := by
 induction h with
 | tmp h => exact .tmp (hx _ _ (hm _ (by simp [T7])) h)
 | const h => exact .const h
 | func h => exact .func h
 | glob h => exact .glob h
 | sub _ hs ih => exact .sub (ih hm) hs
theorem OpT.move {Γ Γx : Gam} {all : List Oper} {o : Oper} {x : Operand} {T : Ty} (hx : ∀ y U, y ∈ readsOf all o → look Γ y = some U → look Γx y = some U) (h : OpT Γ x T) (hm : ((T7 x).all fun y => (readsOf all o).any (Nat.beq y)) = true) : OpT Γx x T :=
 .moveS hx h fun y hy => by
  have := List.all_eq_true.1 hm y hy
  obtain ⟨z, hz, hyz⟩ := List.any_eq_true.1 this
  rw [R0.1 hyz]; exact hz
end Go.Rt
namespace Go.Rt
open Go Go.RowKit
variable {X : Cx} {Q : Exit → Act → World → Prop} {Γ : Gam} {H : Hp} {r : Option Nat} {rest : List Oper} {ops : Array Oper}
def JL (X : Cx) (r : Option Nat) (ops : Array Oper) (Q : Exit → Act → World → Prop) (l : List Oper) (Γ : Gam) (H : Hp) : Prop := ∀ a w, Sat X Γ H a w → wpListIn (fenR r) 0 X.P ops Q l a w
theorem JL.nil (h : JQ X Q .normal Γ H) : JL X r ops Q [] Γ H := fun a w hs => h a w hs
theorem J.inRound {l : List Oper} (h : J X ops Q l Γ H) (hn : noDefB l = true := by rfl) : JL X r ops Q l Γ H := fun a w hs => wpN.inRound hn (h a w hs)
theorem JL.op {o : Oper} {d : Nat} {T : Ty} (h : R2 X Γ H o T) (hd : o.dst = some d) (hN : d < X.N) (hg : o.guard = none) (hn : noDefB [o] = true) (next : JL X r ops Q rest ((d, T) :: Γ) H) : JL X r ops Q (o :: rest) Γ H := by
 intro a w hs
 unfold wpListIn
 rw [if_pos (V6 hg _)]
 refine op_in (fun c e => ?_) (wp_mono_false ?_ (h a w (hs.on _)))
 ·simp only [noDefB, List.all_cons, Bool.and_eq_true, e] at hn; cases hn.1
 ·rintro a' w' ⟨v, rfl, hb, hv⟩
  rw [hd]
  exact next _ _ ((hs.ext hb).put hN hv)
theorem JL.weak {l : List Oper} {Γ' : Gam} {H' : Hp} (h : ∀ a w, Sat X Γ H a w → Sat X Γ' H' a w) (next : JL X r ops Q l Γ' H') : JL X r ops Q l Γ H := fun a w hs => next a w (h a w hs)
theorem JC.ofR {c : Code} (h : JCR X none c Q Γ H) : JC X c Q Γ H := fun a w hs => wpIn_wide.1 (h a w hs)
section any
variable {all : List Oper} {n : Nat} {T : Nat → Ty} {G : Nat → Gam}
theorem noDef_at {l : List Oper} (h : noDefB l = true) {i : Nat} {o : Oper} (ho : l[i]? = some o) : ∀ c, o.op ≠ .defer c := fun c e => by
 have := List.all_eq_true.1 h o (List.mem_of_getElem? ho)
 rw [e] at this; cases this
theorem wpAnyIn_end {listed : Array Bool} {a : Act} {w : World} (h : ∀ i, i < ops.size → listed.getD i true = true) (hQ : Q .normal a w) : ∀ fuel, wpAnyIn (fenR r) 0 X.P .any ops Q fuel listed a w := by
 have hr : Region.ready .any ops listed = [] := by
  cases hr : Region.ready .any ops listed with
  | nil => rfl
  | cons j l =>
   have hj : j ∈ Region.ready .any ops listed := by rw [hr]; exact .head _
   obtain ⟨h1, o, ho, _⟩ := mem_ready.1 hj
   have := h j (Array.getElem?_eq_some_iff.1 ho).1
   rw [this] at h1; cases h1
 intro fuel
 cases fuel with
 | zero => exact ⟨hr, hQ⟩
 | succ f => exact ⟨fun _ => hQ, by rw [hr]; intro i hi; cases hi⟩
theorem RInv.stepIn {listed : Array Bool} {a : Act} {w : World} (hi : RInv X H Γ all n T listed a w) (hG0 : G 0 = Γ) (hG : ∀ i, i < n → ∃ d, W6 all i = some d ∧ G (i + 1) = (d, T i) :: G i)
  (hok : ∀ i j, i < n → j < n → okPair all i j = true) {i d : Nat} (hin : i < n) {o : Oper} (ho : all[i]? = some o) (hnd : ∀ c, o.op ≠ .defer c) (hun : listed.getD i false = false) (hready : ∀ e ∈ o.after, Region.binds .any e = true → listed.getD e.on false = true)
  (hd : o.dst = some d) (hdN : d < X.N) (hopok : OpOk X (G i) H all o (T i)) {K : Act → World → Prop} (hK : ∀ a' w', RInv X H Γ all n T (listed.setIfInBounds i true) a' w' → K a' w') : wpOpIn (fenR r) 0 X.P all.toArray Q i K a w := by
 have hso : ∀ Γx, (∀ x U, x ∈ slotsOf o → look Γx x = some U → U.p (a.tmps.getD x undef) ⟨w, mask X.M0 H⟩) → SatOn X (slotsOf o) Γx H a w := fun Γx h =>
  ⟨hi.size, hi.defers, hi.m0, hi.below, fun x U hx hU => h x U hx hU, hi.hp⟩
 have hson := hso (G i) fun x U hx hU => hi.reads hG0 hG hok hin ho hun hready (List.mem_append.2 (.inl hx)) hU
 have ho2 : all.toArray[i]? = some o := by simpa using ho
 unfold wpOpIn
 simp only [ho2]
 rcases hopok with ⟨hgn, hop⟩ | ⟨g, b, t, c, T0, hgs, hst, htN, hlt, hT, hop⟩
 ·rw [if_pos (V6 hgn _)]
  refine op_in hnd (wp_mono_false ?_ (hop a w hson))
  rintro a' w' ⟨v, rfl, hb, hv⟩
  rw [hd]
  exact hK _ _ (hi.next hok hin ho hd hdN hready hb hv)
 ·have hv : a.tmps.getD t undef = .bool c := hi.reads hG0 hG hok hin ho hun hready (List.mem_append.2 (.inr (by simp [guardSlot, hgs, hst]))) hlt
  have hy : yielded all.toArray a.tmps g = some c := by
   have hlt' : t < a.tmps.size := by rw [hi.size]; exact htN
   simp only [Array.getD_eq_getD_getElem?, Array.getElem?_eq_getElem hlt', Option.getD_some] at hv
   simp [yielded, hst, Array.getElem?_eq_getElem hlt', hv]
  rw [wanted_of hgs hy]
  by_cases hcb : c = b
  ·rw [if_pos (by simp [hcb])]
   refine op_in hnd (wp_mono_false ?_ (hop hcb a w hson))
   rintro a' w' ⟨v, rfl, hb, hv'⟩
   rw [hd]
   exact hK _ _ (hi.next hok hin ho hd hdN hready hb (by rw [hT]; exact ⟨fun _ => hv', fun h => absurd hcb h⟩))
  ·rw [if_neg (by simp [hcb]), hd]
   exact ⟨fun _ _ => trivial, hK _ _ (hi.next hok hin ho hd hdN hready (Below.refl _ _) (by rw [hT]; exact ⟨fun h => absurd h hcb, fun _ => rfl⟩))⟩
theorem tail_runIn (hokE : okEdges all = true) (hch : ∀ q o, n < q → all[q]? = some o → backTo o (q - 1) = true) :
  ∀ m p fuel listed a w, all.length - p = m → n ≤ p → p ≤ all.length → m ≤ fuel → listed.size = all.length → (∀ i, i < p → listed.getD i false = true) → (∀ i, p ≤ i → i < all.length → listed.getD i false = false) →
   wpListIn (fenR r) 0 X.P all.toArray Q (all.drop p) a w → wpAnyIn (fenR r) 0 X.P .any all.toArray Q fuel listed a w := by
 intro m
 induction m with
 | zero =>
  intro p fuel listed a w hm hnp hpl hf hls h1 _ hw
  have hp : p = all.length := by omega
  subst hp
  rw [List.drop_length] at hw
  exact wpAnyIn_end (fun i hi => by rw [R7 (by rw [hls]; simpa using hi) true false]; exact h1 i (by simpa using hi)) hw fuel
 | succ m ih =>
  intro p fuel listed a w hm hnp hpl hf hls h1 h2 hw
  have hlt : p < all.length := by omega
  have hpr : p ∈ Region.ready .any all.toArray listed := mem_ready.2 ⟨by rw [R7 (by omega) true false]; exact h2 p (Nat.le_refl _) hlt, all[p], by simp [hlt], fun e he hb => h1 e.on (okEdges_spec hokE (List.getElem?_eq_getElem hlt) e he hb)⟩
  cases fuel with
  | zero => omega
  | succ fuel =>
   refine ⟨fun hr => by (rw [hr] at hpr; cases hpr), fun i hir => ?_⟩
   obtain ⟨hun, o, ho, hready⟩ := mem_ready.1 hir
   have ho' : all[i]? = some o := by simpa using ho
   have hil : i < all.length := (List.getElem?_eq_some_iff.1 ho').1
   have hip : i = p := by
    rcases Nat.lt_trichotomy i p with q | q | q
    ·rw [R7 (by omega) true false, h1 i q] at hun; cases hun
    ·exact q
    ·obtain ⟨e, he, hb, hon⟩ := W4 (hch i o (by omega) ho')
     have h3 := hready e he hb
     rw [hon, h2 (i - 1) (by omega) (by omega)] at h3; cases h3
   subst hip
   rw [List.drop_eq_getElem_cons hlt] at hw
   have hoo : all[i] = o := by rw [List.getElem?_eq_getElem hlt] at ho'; exact Option.some.inj ho'
   rw [hoo] at hw
   unfold wpListIn at hw
   have hgoal : wpOpIn (fenR r) 0 X.P all.toArray Q i (wpListIn (fenR r) 0 X.P all.toArray Q (all.drop (i + 1))) a w := by
    unfold wpOpIn
    simp only [ho]
    exact hw
   refine wpOpIn_mono (fun a' w' hq => ?_) hgoal
   refine ih (i + 1) fuel _ a' w' (by omega) (by omega) (by omega) (by omega) (by simp [hls]) (fun j hj => ?_) (fun j hj hjl => ?_) hq
   ·rw [R6 (by omega)]
    by_cases hij : i = j
    ·simp [hij]
    ·rw [if_neg hij]; exact h1 j (by omega)
   ·rw [R6 (by omega), if_neg (by omega)]; exact h2 j (by omega) hjl
theorem region_runIn (hnd : noDefB all = true) (hokE : okEdges all = true) (hok : ∀ i j, i < n → j < n → okPair all i j = true) (hnl : n ≤ all.length) (hsucc : all.length ≠ n → ∀ i, i < n → ∃ j o, i < j ∧ j ≤ n ∧ all[j]? = some o ∧ backTo o i = true)
  (hch : ∀ q o, n < q → all[q]? = some o → backTo o (q - 1) = true)
  (hG0 : G 0 = Γ) (hG : ∀ i o, i < n → all[i]? = some o → ∃ d, o.dst = some d ∧ d < X.N ∧ G (i + 1) = (d, T i) :: G i ∧ OpOk X (G i) H all o (T i))
  (hk : ∀ a w, Sat X (G n) H a w → wpListIn (fenR r) 0 X.P all.toArray Q (all.drop n) a w) :
  ∀ fuel listed a w, unl listed all.length ≤ fuel → RInv X H Γ all n T listed a w → (∀ q, n ≤ q → q < all.length → listed.getD q false = false) → wpAnyIn (fenR r) 0 X.P .any all.toArray Q fuel listed a w := by
 have hG' : ∀ i, i < n → ∃ d, W6 all i = some d ∧ G (i + 1) = (d, T i) :: G i := fun i hi => by
  have hlt : i < all.length := by omega
  obtain ⟨d, h1, _, h2, _⟩ := hG i all[i] hi (List.getElem?_eq_getElem hlt)
  exact ⟨d, by simp [W6, List.getElem?_eq_getElem hlt, h1], h2⟩
 have fin : ∀ fuel listed a w, unl listed all.length ≤ fuel → RInv X H Γ all n T listed a w → (∀ q, n ≤ q → q < all.length → listed.getD q false = false) → (∀ i, i < n → listed.getD i false = true) → wpAnyIn (fenR r) 0 X.P .any all.toArray Q fuel listed a w := by
  intro fuel listed a w hu hi htail hdone
  refine tail_runIn hokE hch (all.length - n) n fuel listed a w rfl (Nat.le_refl _) hnl ?_ hi.lsize hdone htail (hk a w (hi.fin hG0 hG' hdone))
  refine Nat.le_trans ?_ hu
  have hsub : ((List.range all.length).drop n).length ≤ unl listed all.length := by
   unfold unl
   have hs : ((List.range all.length).drop n).filter (fun i => !listed.getD i true) = (List.range all.length).drop n := by
    rw [List.filter_eq_self]
    intro q hq
    obtain ⟨k, hk, hkq⟩ := List.mem_iff_getElem.1 hq
    simp only [List.getElem_drop, List.getElem_range] at hkq
    simp only [List.length_drop, List.length_range] at hk
    have := htail q (by omega) (by omega)
    rw [R7 (by rw [hi.lsize]; omega) false true] at this
    simp [this]
   rw [← hs]
   exact ((List.drop_sublist n _).filter _).length_le
  simpa using hsub
 intro fuel
 induction fuel with
 | zero =>
  intro listed a w hu hi htail
  refine fin 0 listed a w hu hi htail fun i hi' => ?_
  cases hb : listed.getD i false with
  | true => rfl
  | false =>
   have hm : i ∈ (List.range all.length).filter fun i => !listed.getD i true := List.mem_filter.2 ⟨List.mem_range.2 (by omega), by rw [R7 (by rw [hi.lsize]; omega) true false, hb]; rfl⟩
   have : 0 < unl listed all.length := List.length_pos_of_mem hm
   omega
 | succ fuel ih =>
  intro listed a w hu hi htail
  by_cases hdone : ∀ i, i < n → listed.getD i false = true
  ·exact fin _ listed a w hu hi htail hdone
  obtain ⟨i0, hh⟩ := Classical.not_forall.1 hdone
  obtain ⟨hin0, hl0⟩ := Classical.not_imp.1 hh
  have hl0' : listed.getD i0 false = false := by cases hb : listed.getD i0 false with | false => rfl | true => exact absurd hb hl0
  refine ⟨fun hr => absurd hr (ready_some hokE hi.lsize (by omega) hl0'), fun i hir => ?_⟩
  obtain ⟨hun, o, ho, hready⟩ := mem_ready.1 hir
  have ho' : all[i]? = some o := by simpa using ho
  have hil : i < all.length := (List.getElem?_eq_some_iff.1 ho').1
  have hun' : listed.getD i false = false := by rw [R7 (by rw [hi.lsize]; omega) false true]; exact hun
  have hu' : unl (listed.setIfInBounds i true) all.length ≤ fuel := by
   have := unl_set hil hi.lsize hun
   omega
  have hin : i < n := by
   rcases Nat.lt_or_ge i n with q | q
   ·exact q
   ·exfalso
    have hne : all.length ≠ n := by omega
    have hsc := hsucc hne
    rcases Nat.lt_or_ge n i with q2 | q2
    ·obtain ⟨e, he, hbd, hon⟩ := W4 (hch i o q2 ho')
     have h3 := hready e he hbd
     rw [hon, htail (i - 1) (by omega) (by omega)] at h3; cases h3
    ·have hieq : i = n := by omega
     subst hieq
     refine hdone ?_
     have hb : ∀ m j, i - j ≤ m → j < i → listed.getD j false = true := by
      intro m
      induction m with
      | zero => intro j h1 h2; omega
      | succ m ihm =>
       intro j h1 h2
       obtain ⟨k, ok, hjk, hki, hok', hbk⟩ := hsc j h2
       obtain ⟨e, he, hbd, hon⟩ := W4 hbk
       rcases Nat.lt_or_ge k i with q | q
       ·have := hi.closed k ok hok' (ihm k (by omega) q) e he hbd
        rw [hon] at this; exact this
       ·have hki : k = i := by omega
        subst hki
        rw [ho'] at hok'; cases hok'
        have := hready e he hbd
        rw [hon] at this; exact this
     exact fun j hj => hb (i - j) j (Nat.le_refl _) hj
  obtain ⟨d, hd, hdN, hg, hopok⟩ := hG i o hin ho'
  exact hi.stepIn hG0 hG' hok hin ho' (noDef_at hnd ho') hun' hready hd hdN hopok fun a' w' h => ih _ a' w' hu' h fun q hq hql => by
   rw [R6 (by rw [hi.lsize]; exact hil), if_neg (by omega)]; exact htail q hq hql
end any
theorem JCR.drawAt {id : Nat} {l : List Oper} {Γ' : Gam} (n : Nat) (hm : X.P.follows .mixedOrders = true) (hok : okR l n = true) (hnd : noDefB l = true) (ht : TW X H l Γ (l.take n) Γ') (h : JL X r l.toArray Q (l.drop n) Γ' H) : JCR X r (.region id l.toArray true) Q Γ H := by
 intro a w hs
 obtain ⟨h1, h2, h3, h4, h5⟩ := okR_spec hok
 obtain ⟨G, T, hG0, hGn, hG⟩ := ht.seq
 have hlen : (l.take n).length = n := by simp; omega
 rw [hlen] at hGn
 refine wpIn_region_any hm ?_
 have hb : Below w.heap.size w { w with drawn := w.drawn + 1 } := (Below.refl _ w).drew
 have := region_runIn (Q := Q) (n := n) (r := r) hnd h1 h2 h3 (fun hne i hi => h4 hne i hi) h5 hG0 (fun i o hi ho => hG i o (by rw [List.getElem?_take, if_pos hi]; exact ho))
  (fun a w hs => h a w (hGn ▸ hs)) l.length (Array.replicate l.length false) a _
  (by have := List.length_filter_le (fun i => !(Array.replicate l.length false).getD i true) (List.range l.length); simpa [unl] using this) (RInv.start (hs.ext hb))
  (fun q _ hq => by simp [Array.getD_eq_getD_getElem?, hq])
 simpa using this
theorem JCR.draw {id : Nat} {l : List Oper} {Γ' : Gam} (hm : X.P.follows .mixedOrders = true) (hok : okR l l.length = true) (hnd : noDefB l = true) (ht : TW X H l Γ l Γ') (h : JQ X Q .normal Γ' H) : JCR X r (.region id l.toArray true) Q Γ H :=
 JCR.drawAt l.length hm hok hnd (by rwa [List.take_length]) (by rw [List.drop_length]; exact JL.nil h)
end Go.Rt
namespace Go.Rt
open Go Go.RowKit
variable {X : Cx} {Q : Exit → Act → World → Prop} {Γ : Gam} {H : Hp} {r : Option Nat} {rest : List Oper} {ops : Array Oper}
variable {dst : Option Tmp} {ty : TypeId} {pos : String} {af : Array Edge} {gd : Option (Nat × Bool)}
theorem vsP_up {s s' : St} (hl : Le s s') : ∀ {Ts : List Ty} {vs : List Value}, vsP Ts vs s → vsP Ts vs s'
 | [], [], _ => trivial
 | [], _ :: _, h => h.elim
 | _ :: _, [], h => h.elim
 | T :: _, _ :: _, h => ⟨T.up hl h.1, vsP_up hl h.2⟩
def tClo (f : FuncId) (Us : List Ty) : Ty := ⟨fun v s => ∃ cap : List Value, v = .func (.func f) #[] cap.toArray ∧ vsP Us cap s, fun hl ⟨cap, h, hv⟩ => ⟨cap, h, vsP_up hl hv⟩⟩
theorem ot_clo {f : FuncId} {xs : List Operand} {Us : List Ty} (hx : OpTs Γ xs Us) : R2 X Γ H ⟨dst, .makeFunc (.func f) #[] xs.toArray, ty, pos, af, gd⟩ (tClo f Us) :=
 V4 fun a w hs => by
  have hv := hx.ev hs (fun x hx => Y1 (by simp [Op.operands, hx]))
  exact ⟨.func (.func f) #[] (xs.map a.eval).toArray, w, by simp [execOp, Instr.makeFunc], Below.refl _ _, xs.map a.eval, rfl, hv⟩
def IterC (P : Program) (f : FuncId) (Us : List Ty) (n : Nat) (Ts : Nat → List Ty) : Prop :=
 ∀ (l : Nat) (W : World) (M : Nat → Prop) (J : Nat → World → Prop) (cap : List Value), (∀ k, M k → k < W.heap.size) → vsP Us cap ⟨W, M⟩ →
  (∀ k W1 W2, J k W1 → Below W1.heap.size W1 W2 → J k W2) → J 0 W →
  (∀ k W1 vs, k < n → J k W1 → (∀ b, M b → b < W1.heap.size) → vsP (Ts k) vs ⟨W1, M⟩ → YieldAt Fence.wide 0 P l vs.toArray W1 fun e W2 => e = .returned (.bool true) ∧ J (k + 1) W2 ∧ Le ⟨W1, M⟩ ⟨W2, M⟩) →
  Calls P f (#[.func (.yield l) #[] #[]] ++ cap.toArray) W fun e W2 => ∃ v, e = .returned v ∧ J n W2
theorem JL.yield {l d k : Nat} {fo : Operand} {xs : List Operand} {Ts : List Ty} {ats : Array TypeId} {J : Nat → World → Prop} {P : Program} {w0 : World} {M : Nat → Prop} {N : Nat} {Df : List Deferred}
  (hfo : OpT Γ fo (tIs (.func (.yield l) #[] #[]))) (hx : OpTs Γ xs Ts) (hup : ∀ k W1 W2, J k W1 → Below W1.heap.size W1 W2 → J k W2) (hJ : J k w0)
  (hy : ∀ W1 vs, J k W1 → (∀ b, M b → b < W1.heap.size) → vsP Ts vs ⟨W1, M⟩ → YieldAt Fence.wide 0 P l vs.toArray W1 fun e W2 => e = .returned (.bool true) ∧ J (k + 1) W2 ∧ Le ⟨W1, M⟩ ⟨W2, M⟩)
  (hN : d < N) (next : ∀ w1, J (k + 1) w1 → JL ⟨P, w1, M, [], N, Df⟩ none ops Q rest ((d, tIs (.bool true)) :: Γ) []) :
  JL ⟨P, w0, M, [], N, Df⟩ none ops Q (⟨some d, .call { callee := .value fo, args := xs.toArray, argTypes := ats }, ty, pos, af, none⟩ :: rest) Γ H := by
 intro a w hs
 unfold wpListIn
 rw [if_pos (V6 rfl _)]
 have h1 : a.eval fo = .func (.yield l) #[] #[] := hfo.ev (hs.on (T7 fo)) (fun _ h => h)
 have hv := hx.ev (hs.on (xs.flatMap T7)) (fun x hx i hi => List.mem_flatMap.2 ⟨x, hx, hi⟩)
 have hM : ∀ b, M b → b < w.heap.size := fun b hb => Nat.lt_of_lt_of_le (hs.m0 b hb).1 hs.below.size
 have hm : Le ⟨w, mask M H⟩ ⟨w, M⟩ := ⟨Nat.le_refl _, fun _ _ _ => rfl, fun _ _ h => .inl h⟩
 obtain ⟨fn, tmps, assign, body, hrun, hround⟩ := hy w _ (hup k _ _ hJ hs.below.below) hM (vsP_up hm hv)
 refine ⟨fun _ _ => trivial, ?_⟩
 rw [Oper.semAt_eq _ _ _ (fun c e => by cases e)]
 have hr : (execOp a.eval ⟨some d, .call { callee := .value fo, args := xs.toArray, argTypes := ats }, ty, pos, af, none⟩).run P w = .ok (.round l fn tmps assign body) w := by
  simp only [execOp, resolve, Deferred.ofValue, h1, invoke, Sem.run_bind, Sem.run_pure, Result.andThen_ok]
  simpa using hrun
 rw [hr]
 refine ⟨fun h => by simp [Fence.wide] at h, hround.mono ?_⟩
 rintro e W2 ⟨rfl, hJ2, hle⟩
 refine next W2 hJ2 _ _ (Sat.put (X := ⟨P, W2, M, [], N, Df⟩) (T := tIs (.bool true)) ⟨hs.size, hs.defers, fun b hb => ⟨(Nat.lt_of_lt_of_le (hM b hb) hle.size : b < W2.heap.size), by simp⟩, Kept.refl _ _, fun i T hi => ?_, ⟨fun e (he : e ∈ []) => by (cases he), List.Pairwise.nil⟩⟩ hN rfl)
 have hm2 : mask M [] = M := by funext b; simp [mask]
 show T.p _ ⟨W2, mask M []⟩
 rw [hm2]
 exact T.up (hm.trans hle) (hs.slots i T hi)
theorem JCR.loopY {c : Code} {P : Program} {w0 : World} {M : Nat → Prop} {N : Nat} {Df : List Deferred} (n : Nat) (Γk : Nat → Gam) (J : Nat → World → Prop) (hup : ∀ k W1 W2, J k W1 → Below W1.heap.size W1 W2 → J k W2) (h0 : J 0 w0)
  (hs0 : ∀ a w, Sat ⟨P, w0, M, [], N, Df⟩ Γ H a w → Sat ⟨P, w0, M, [], N, Df⟩ (Γk 0) [] a w)
  (round : ∀ k, k ≤ n → ∀ w0, J k w0 → JCR ⟨P, w0, M, [], N, Df⟩ none c (Exit.then (fun a w => k < n ∧ ∃ w1, J (k + 1) w1 ∧ Sat ⟨P, w1, M, [], N, Df⟩ (Γk (k + 1)) [] a w) Q) (Γk k) []) :
  JCR ⟨P, w0, M, [], N, Df⟩ none (.loop c) Q Γ H := by
 classical
 intro a w hs
 let I : Act → World → Prop := fun a w => ∃ m k, n - k = m ∧ k ≤ n ∧ ∃ w1, J k w1 ∧ Sat ⟨P, w1, M, [], N, Df⟩ (Γk k) [] a w
 let m : Act → World → Nat := fun a w => if h : I a w then Classical.choose (least h) else 0
 refine wpIn_loop I m ⟨_, 0, rfl, Nat.zero_le _, w0, h0, hs0 a w hs⟩ fun a w hI => ?_
 obtain ⟨⟨k, hk, hkn, w1, hJ, hsat⟩, _⟩ := Classical.choose_spec (least hI)
 have hm : m a w = Classical.choose (least hI) := dif_pos hI
 refine thenR_mono (fun a' w' ⟨hlt, w2, hJ2, hs'⟩ => ?_) (round k hkn w1 hJ a w hsat)
 have hI' : I a' w' := ⟨_, k + 1, rfl, hlt, w2, hJ2, hs'⟩
 refine ⟨hI', ?_⟩
 have hm' : m a' w' = Classical.choose (least hI') := dif_pos hI'
 have : Classical.choose (least hI') ≤ n - (k + 1) := (Classical.choose_spec (least hI')).2 _ ⟨k + 1, rfl, hlt, w2, hJ2, hs'⟩
 rw [hm, hm', ← hk]
 omega
theorem IterC.of {P : Program} {f N n : Nat} {fn : Func} {c : Code} {Us : List Ty} {Ts : Nat → List Ty} (hf : P.funcs[f]? = some fn) (hb : fn.body = some c) (hN : fn.ntmps = N) (hl : Us.length + 1 ≤ N)
  (h : ∀ (l : Nat) (w0 : World) (M : Nat → Prop) (J : Nat → World → Prop), (∀ k W1 W2, J k W1 → Below W1.heap.size W1 W2 → J k W2) → J 0 w0 →
   (∀ k W1 vs, k < n → J k W1 → (∀ b, M b → b < W1.heap.size) → vsP (Ts k) vs ⟨W1, M⟩ → YieldAt Fence.wide 0 P l vs.toArray W1 fun e W2 => e = .returned (.bool true) ∧ J (k + 1) W2 ∧ Le ⟨W1, M⟩ ⟨W2, M⟩) →
   JCR ⟨P, w0, M, [], N, []⟩ none c (bodyPost P fn fun e W2 => ∃ v, e = .returned v ∧ J n W2) (gam0 0 (tIs (.func (.yield l) #[] #[]) :: Us)) []) : IterC P f Us n Ts := by
 intro l w0 M J cap hM hcap hup h0 hy
 refine calls_of_wp hf hb (JC.ofR (h l w0 M J hup h0 hy) _ _ ⟨?_, rfl, fun k hk => ⟨hM k hk, by simp⟩, Kept.refl _ _, fun i T hi => ?_, ⟨fun e he => by (cases he), List.Pairwise.nil⟩⟩)
 ·have := hcap.length
  simp; omega
 ·have hvs : vsP (tIs (.func (.yield l) #[] #[]) :: Us) ((.func (.yield l) #[] #[]) :: cap) ⟨w0, M⟩ := ⟨rfl, hcap⟩
  obtain ⟨_, v, hv, hT⟩ := slots0 0 hvs i T hi
  have hM' : mask M [] = M := by funext k; simp [mask]
  show T.p _ ⟨w0, mask M []⟩
  rw [hM']
  have hlt : i < ((Value.func (.yield l) #[] #[]) :: cap).length := (List.getElem?_eq_some_iff.1 hv).1
  have : (#[Value.func (.yield l) #[] #[]] ++ cap.toArray ++ Array.replicate (fn.ntmps - (#[Value.func (.yield l) #[] #[]] ++ cap.toArray).size) undef).getD i undef = v := by
   rw [Array.getD_eq_getD_getElem?, Array.getElem?_append_left (by simp at hlt ⊢; omega)]
   simp at hv
   simp [hv]
  rw [this]; exact hT
theorem JQ.endY {fn : Func} {P : Program} {w0 : World} {M : Nat → Prop} {N n : Nat} {J : Nat → World → Prop} (hf : fn.results = #[]) (hup : ∀ k W1 W2, J k W1 → Below W1.heap.size W1 W2 → J k W2) (hJ : J n w0) :
  JQ ⟨P, w0, M, [], N, []⟩ (bodyPost P fn fun e W2 => ∃ v, e = .returned v ∧ J n W2) .normal Γ H := fun a w hs =>
 ⟨hs.defers, .tuple #[], results_none hf _ _ _, _, rfl, hup n _ _ hJ hs.below.below⟩
def gamP : List Tmp → List Ty → Gam → Gam
 | p :: ps, T :: Ts, Γ => gamP ps Ts ((p, T) :: Γ)
 | _, _, Γ => Γ
theorem Sat.params : ∀ {ps : List Tmp} {Ts : List Ty} {vs : List Value} {Γ : Gam} {a : Act} {w : World}, Sat X Γ H a w → (∀ p ∈ ps, p < X.N) → Ts.length = ps.length → vsP Ts vs ⟨w, mask X.M0 H⟩ →
  Sat X (gamP ps Ts Γ) H { tmps := (ps.zip vs).foldl (fun t (p, v) => t.setIfInBounds p v) a.tmps, defers := a.defers } w
 | [], [], [], _, _, _, h, _, _, _ => h
 | [], _ :: _, _, _, _, _, _, _, hl, _ => by simp at hl
 | _ :: _, [], _, _, _, _, _, _, hl, _ => by simp at hl
 | [], [], _ :: _, _, _, _, _, _, _, hv => hv.elim
 | _ :: _, _ :: _, [], _, _, _, _, _, _, hv => hv.elim
 | p :: ps, T :: Ts, v :: vs, Γ, a, w, h, hp, hl, hv => by
  have h2 := h.put (d := p) (hp p (.head _)) hv.1
  exact Sat.params (ps := ps) (Ts := Ts) (vs := vs) h2 (fun q hq => hp q (.tail _ hq)) (by simpa using hl) hv.2
structure Rb (X : Cx) (w1 : World) (M1 : Nat → Prop) (L1 : List Nat) (D : Nat) : Prop where
 kept : Kept X.L X.w0 w1
 lent : ∀ b ∈ L1, X.w0.heap.size ≤ b ∨ b ∈ X.L
 mask : ∀ k, X.M0 k → M1 k
 md : M1 D
 d0 : w1.heap[D]? = some (.deferred (some []))
 dge : X.w0.heap.size ≤ D
theorem mask_same {M0 : Nat → Prop} {H H' : Hp} (h : H'.map (·.b) = H.map (·.b)) : mask M0 H' = mask M0 H := by
 funext k
 have : ∀ H : Hp, (∃ e ∈ H, e.b = k) ↔ k ∈ H.map (·.b) := fun H => by simp [List.mem_map]
 simp only [mask, this, h]
theorem putObj_le {w : World} {M : Nat → Prop} {l : Nat} {o : Obj} (hl : M l) : Le ⟨w, M⟩ ⟨w.putObj l o, M⟩ :=
 ⟨by simp, fun k hk hm => World.putObj_heap_other (fun e => hm (e ▸ hl)), fun _ _ h => h⟩
def RoundC (P : Program) (N l : Nat) (assign body : Code) (Γ0 : Gam) (H0 H1 : Hp) : Prop :=
 ∀ w0 M0 L Q1,
  (∀ Γ1 Hb, (∀ w1 M1 L1 Q2, JQ ⟨P, w1, M1, L1, N, []⟩ Q2 .normal [] H1 → JCR ⟨P, w1, M1, L1, N, []⟩ (some l) body Q2 Γ1 Hb) → JQ ⟨P, w0, M0, L, N, []⟩ Q1 .normal Γ1 Hb) →
  JCR ⟨P, w0, M0, L, N, []⟩ (some l) assign Q1 Γ0 H0
theorem JC.rangeFunc {g : Operand} {ps : List Tmp} {assign body : Code} {f : FuncId} {Us : List Ty} {n : Nat} {Ts : Nat → List Ty} {Γ0 : Gam} (HH : Nat → Hp)
  (hg : OpT Γ0 g (tClo f Us)) (hf : fnB X.P f = true) (hit : IterC X.P f Us n Ts) (hDf : X.Df = [])
  (hs0 : ∀ a w, Sat X Γ H a w → Sat X Γ0 (HH 0) a w) (hbs : ∀ k, (HH k).map (·.b) = (HH 0).map (·.b)) (hplB : (ps.all fun p => Nat.blt p X.N) = true) (hTs : ∀ k, (Ts k).length = ps.length)
  (hround : ∀ k, k < n → ∀ l, RoundC X.P X.N l assign body (gamP ps (Ts k) Γ0) (HH k) (HH (k + 1)))
  (hdone : ∀ D w1 M1 L1, Rb X w1 M1 L1 D → JQ ⟨X.P, w1, M1, L1, X.N, [{ target := .collected D, args := #[] }]⟩ Q .normal Γ0 (HH n)) : JC X (.rangeFunc g ps.toArray assign body) Q Γ H := by
 have hpl : ∀ p ∈ ps, p < X.N := fun p hp => nat_blt.1 (List.all_eq_true.1 hplB p hp)
 intro a w hsat
 have hs := hs0 a w hsat
 obtain ⟨cap, hgv, hcap0⟩ := hg.ev (hs.on (T7 g)) (fun _ h => h)
 refine wpIn_wide.1 (wpIn_rangeFunc (n := 0) ?_)
 intro fn _
 obtain ⟨rec, hrec⟩ : ∃ rec : LoopState → Option Code → Loop, rec = fun st pe => { state := st, pending := pe, fn, tmps := a.tmps, params := ps.toArray, assign, body, defers := w.heap.size } := ⟨_, rfl⟩
 obtain ⟨W1, hW1⟩ : ∃ W1, (w.alloc (.deferred (some []))).alloc (.loop (rec .ready none)) = W1 := ⟨_, rfl⟩
 have hb1 : Below w.heap.size w W1 := by
  rw [← hW1]; exact ((Below.refl _ w).alloc (Nat.le_refl _) _).alloc (by simp) _
 have hL1 : W1.heap[w.heap.size + 1]? = some (.loop (rec .ready none)) := by
  rw [← hW1]; have := World.alloc_heap_new (w.alloc (.deferred (some []))) (.loop (rec .ready none)); rwa [World.size_alloc] at this
 have hK1 : W1.heap[w.heap.size]? = some (.deferred (some [])) := by
  rw [← hW1]; exact (Below.heap_alloc _ _ _ (by simp)).trans (World.alloc_heap_new w _)
 have hsz1 : W1.heap.size = w.heap.size + 2 := by rw [← hW1]; simp
 generalize hl : w.heap.size + 1 = l at *
 generalize hD : w.heap.size = D at *
 -- the blocks that a round may write
 let bs := (HH 0).map (·.b)
 let M0' : Nat → Prop := fun b => X.M0 b ∨ b = D ∨ b = l
 let M : Nat → Prop := mask M0' (HH 0)
 let XW : World → Cx := fun W => ⟨X.P, W, M0', bs, X.N, []⟩
 have hbsM : ∀ b ∈ bs, M b := fun b hb => by
  obtain ⟨e, he, rfl⟩ := List.mem_map.1 hb
  exact .inr ⟨e, he, rfl⟩
 have hMk : ∀ k, mask M0' (HH k) = M := fun k => mask_same (hbs k)
 have hbsw : ∀ b ∈ bs, b < D ∧ (X.w0.heap.size ≤ b ∨ b ∈ X.L) := fun b hb => by
  obtain ⟨e, he, rfl⟩ := List.mem_map.1 hb
  exact ⟨hD ▸ hs.hp.lt he, (hs.hp.1 e he).1⟩
 have hX0 : X.w0.heap.size ≤ D := hD ▸ hs.below.size
 have hM0' : ∀ b, M0' b → b < D + 2 ∧ b ∉ bs := fun b hb => by
  rcases hb with hb | rfl | rfl
  ·have h1 := hs.m0 b hb
   refine ⟨by omega, fun h2 => ?_⟩
   rcases (hbsw b h2).2 with q | q
   ·omega
   ·exact h1.2 q
  ·exact ⟨by omega, fun h2 => by have := (hbsw _ h2).1; omega⟩
  ·exact ⟨by omega, fun h2 => by have := (hbsw _ h2).1; omega⟩
 have hMl : M l := .inl (.inr (.inr rfl))
 have hblk : ∀ k e, e ∈ HH k → e.b ∈ bs := fun k e he => by
  have : e.b ∈ (HH k).map (·.b) := List.mem_map.2 ⟨e, he, rfl⟩
  rw [hbs k] at this; exact this
 let a0 : Act := { tmps := a.tmps, defers := [] }
 let J : Nat → World → Prop := fun k W => Sat (XW W) Γ0 (HH k) a0 W ∧ W.heap[l]? = some (.loop (rec .ready none)) ∧ W.heap[D]? = some (.deferred (some [])) ∧ Kept X.L X.w0 W
 have hup : ∀ k W1 W2, J k W1 → Below W1.heap.size W1 W2 → J k W2 := by
  rintro k W1 W2 ⟨h1, h2, h3, h4⟩ hb
  have h5 := h1.ext hb
  refine ⟨⟨h5.size, h5.defers, fun b hb' => ⟨Nat.lt_of_lt_of_le (h1.m0 b hb').1 hb.size, (h1.m0 b hb').2⟩, Kept.refl _ _, h5.slots, fun e he => ?_, h5.hp.2⟩,
   (hb.block l (Array.getElem?_eq_some_iff.1 h2).1).trans h2, (hb.block D (Array.getElem?_eq_some_iff.1 h3).1).trans h3, h4.ext hb⟩
  exact ⟨.inr (hblk k e he), (h5.hp.1 e he).2⟩
 have hle1 : Le ⟨w, mask X.M0 (HH 0)⟩ ⟨W1, M⟩ := ⟨by show w.heap.size ≤ W1.heap.size; omega, fun k hk _ => hb1.block k (by rw [← hD]; exact hk), fun k hk h => by
  have hk' : k < D := by rw [← hD]; exact hk
  rcases h with (h | h | h) | h
  ·exact .inl h
  ·omega
  ·omega
  ·exact .inr h⟩
 have hJ0 : J 0 W1 := by
  have h5 := hs.ext (w' := W1) (hD.symm ▸ hb1)
  refine ⟨⟨hs.size, rfl, fun b hb' => ⟨by have := (hM0' b hb').1; show b < W1.heap.size; omega, (hM0' b hb').2⟩, Kept.refl _ _, fun i T hi => T.up hle1 (hs.slots i T hi), fun e he => ?_, hs.hp.2⟩, hL1, hK1, h5.below⟩
  obtain ⟨_, cs, hc, hr⟩ := hs.hp.1 e he
  exact ⟨.inr (hblk 0 e he), cs, (hb1.block e.b (hbsw _ (hblk 0 e he)).1).trans hc, e.R.up hle1 hr⟩
 refine ⟨l, [{ target := .collected D, args := #[] }], W1, { target := .fn (.func f) cap.toArray, args := #[.func (.yield l) #[] #[]] }, W1, f, #[.func (.yield l) #[] #[]] ++ cap.toArray, W1, ?_, ?_, fun _ _ => trivial, ?_, fun h => by simp [Fence.wide] at h, ?_⟩
 ·have := run_enterLoop_outer (P := X.P) (w := w) fn a.tmps ps.toArray assign body
  rw [hD, hl] at this
  rw [← hW1, hrec]; exact this
 ·have : (resolve a.eval (rangeCall g l) 0).run X.P W1 = .ok { target := .fn (.func f) cap.toArray, args := #[.func (.yield l) #[] #[]] } W1 := by
   have e1 : a.eval (Operand.const (Value.func (Fn.yield l) #[] #[])) = Value.func (Fn.yield l) #[] #[] := rfl
   simp only [resolve, Deferred.ofValue, hgv, Sem.run_bind, Sem.run_pure, Result.andThen_ok]
   simp [Sem.run_pure, e1]
  exact this
 ·have := run_callFunc hf (#[Value.func (.yield l) #[] #[]] ++ cap.toArray) W1
  simp only [invoke]
  simpa using this
 refine CallsIn.mono (callsIn_wide.2 (hit l W1 M J cap (fun b hb => ?_) (vsP_up hle1 hcap0) hup hJ0 ?_)) ?_
 ·rcases hb with hb | ⟨e, he, rfl⟩
  ·have := (hM0' b hb).1; omega
  ·have := (hbsw _ (hblk 0 e he)).1; omega
 ·-- one round
  intro k W vs hk hJk hMW hvs
  obtain ⟨hsk, hl0, hd0, hkept⟩ := hJk
  have hmk : mask M0' (HH k) = M := hMk k
  have hy := run_yield (P := X.P) (args := vs.toArray) hl0 (by rw [hrec]; have := hvs.length; simp [this, hTs k])
  rw [hrec] at hy
  refine ⟨fn, _, assign, body, hy, roundIn_of_wpIn trivial ?_⟩
  have hs1 : Sat (XW W) (gamP ps (Ts k) Γ0) (HH k) { tmps := (ps.zip vs).foldl (fun t (p, v) => t.setIfInBounds p v) a.tmps, defers := [] } W :=
   Sat.params (vs := vs) hsk hpl (hTs k) (by show vsP (Ts k) vs ⟨W, mask M0' (HH k)⟩; rw [hmk]; exact hvs)
  have hlW : l < W.heap.size := (Array.getElem?_eq_some_iff.1 hl0).1
  have hdW : D < W.heap.size := (Array.getElem?_eq_some_iff.1 hd0).1
  have hlbs : l ∉ bs := (hM0' l (.inr (.inr rfl))).2
  have hdbs : D ∉ bs := (hM0' D (.inr (.inl rfl))).2
  have hne : D ≠ l := by omega
  have hMb : ∀ b, M b → b < W.heap.size := hMW
  have hasg := hround k hk l W M0' bs (Exit.then (fun a₁ w₁ => ∃ w₂, (Instr.beginRound l).run X.P w₁ = .ok () w₂ ∧ body.wpIn (fenR (some l)) 0 X.P (roundPost X.P l fun e W2 => e = .returned (.bool true) ∧ J (k + 1) W2 ∧ Le ⟨W, M⟩ ⟨W2, M⟩) a₁ w₂) (fun _ _ _ => False)) ?_ _ W hs1
  ·have e : (ps.toArray.zip vs.toArray).foldl (fun tmps (x : Tmp × Value) => tmps.setIfInBounds x.1 x.2) a.tmps = (ps.zip vs).foldl (fun t (x : Tmp × Value) => t.setIfInBounds x.1 x.2) a.tmps := by
    simp
   show assign.wpIn (fenR (some l)) 0 X.P _ { tmps := (ps.toArray.zip vs.toArray).foldl (fun tmps (x : Tmp × Value) => tmps.setIfInBounds x.1 x.2) a.tmps, defers := [] } W
   rw [e]; exact hasg
  ·intro Γ1 Hb hbody a₁ w₁ hs2
   have hk1 : Kept bs W w₁ := hs2.below
   have hl1 : w₁.heap[l]? = some (.loop (rec .ready none)) := (hk1.block l hlW hlbs).trans hl0
   have hd1 : w₁.heap[D]? = some (.deferred (some [])) := (hk1.block D hdW hdbs).trans hd0
   have hHb : ∀ e ∈ Hb, W.heap.size ≤ e.b ∨ e.b ∈ bs := fun e he => (hs2.hp.1 e he).1
   have hHbl : l ∉ Hb.map (·.b) := fun h => by
    obtain ⟨e, he, hel⟩ := List.mem_map.1 h
    rcases hHb e he with q | q
    ·rw [hel] at q; omega
    ·rw [hel] at q; exact hlbs q
   have hHbd : D ∉ Hb.map (·.b) := fun h => by
    obtain ⟨e, he, hel⟩ := List.mem_map.1 h
    rcases hHb e he with q | q
    ·rw [hel] at q; omega
    ·rw [hel] at q; exact hdbs q
   let bz : Obj := .loop { rec .ready none with state := .busy }
   let w₂ := w₁.putObj l bz
   have hl1s : l < w₁.heap.size := (Array.getElem?_eq_some_iff.1 hl1).1
   have hle2 : Le ⟨w₁, mask M0' Hb⟩ ⟨w₂, mask M0' Hb⟩ := putObj_le (.inl (.inr (.inr rfl)))
   refine ⟨w₂, run_beginRound hl1 (by rw [hrec]), hbody w₂ M0' (Hb.map (·.b)) _ ?_ a₁ w₂ ⟨hs2.size, hs2.defers, fun b hb => ?_, Kept.refl _ _, fun i T hi => T.up hle2 (hs2.slots i T hi), fun e he => ?_, hs2.hp.2⟩⟩
   ·-- the body's end
    intro a₃ w₃ hs3
    have hk3 : Kept (Hb.map (·.b)) w₂ w₃ := hs3.below
    have hl2 : w₂.heap[l]? = some bz := World.putObj_heap_same hl1s
    have hl2s : l < w₂.heap.size := (Array.getElem?_eq_some_iff.1 hl2).1
    have hl3 : w₃.heap[l]? = some bz := (hk3.block l hl2s hHbl).trans hl2
    have hd2 : w₂.heap[D]? = some (.deferred (some [])) := (World.putObj_heap_other hne).trans hd1
    have hd3 : w₃.heap[D]? = some (.deferred (some [])) := (hk3.block D (Array.getElem?_eq_some_iff.1 hd2).1 hHbd).trans hd2
    have her := run_endRound (P := X.P) none hl3
    let w₄ := w₃.putObj l (.loop (rec .ready none))
    have her' : (Instr.endRound l none).run X.P w₃ = .ok (.bool true) w₄ := by
     show _ = Result.ok (Value.bool true) (w₃.putObj l (.loop (rec .ready none)))
     rw [her]; subst hrec; rfl
    have hl3s : l < w₃.heap.size := (Array.getElem?_eq_some_iff.1 hl3).1
    have hsz4 : W.heap.size ≤ w₄.heap.size := by
     have q1 := hk1.size
     have q2 := hk3.size
     have q3 : w₂.heap.size = w₁.heap.size := World.putObj_size
     have q4 : w₄.heap.size = w₃.heap.size := World.putObj_size
     omega
    have hblock : ∀ b, b < W.heap.size → b ∉ bs → b ≠ l → w₄.heap[b]? = W.heap[b]? := fun b hb hbb hbl => by
     have q1 : w₁.heap[b]? = W.heap[b]? := hk1.block b hb hbb
     have q2 : w₂.heap[b]? = w₁.heap[b]? := World.putObj_heap_other hbl
     have hbs2 : b < w₂.heap.size := by have := hk1.size; have q3 : w₂.heap.size = w₁.heap.size := World.putObj_size; omega
     have q3 : w₃.heap[b]? = w₂.heap[b]? := hk3.block b hbs2 fun h => by
      obtain ⟨e, he, hel⟩ := List.mem_map.1 h
      rcases hHb e he with q | q
      ·rw [hel] at q; omega
      ·rw [hel] at q; exact hbb q
     have q4 : w₄.heap[b]? = w₃.heap[b]? := World.putObj_heap_other hbl
     exact q4.trans (q3.trans (q2.trans q1))
    have hle : Le ⟨W, M⟩ ⟨w₄, M⟩ := ⟨hsz4, fun b hb hm => hblock b hb (fun h => hm (hbsM b h)) (fun h => hm (h ▸ hMl)), fun _ _ h => h⟩
    have hle3 : Le ⟨w₃, mask M0' (HH (k + 1))⟩ ⟨w₄, mask M0' (HH (k + 1))⟩ := putObj_le (.inl (.inr (.inr rfl)))
    refine ⟨.bool true, w₄, her', rfl, ⟨⟨hsk.size, rfl, fun b hb => ⟨?_, (hM0' b hb).2⟩, Kept.refl _ _, fun i T hi => ?_, fun e he => ?_, hs3.hp.2⟩, World.putObj_heap_same hl3s, (World.putObj_heap_other hne).trans hd3, ?_⟩, hle⟩
    ·exact Nat.lt_of_lt_of_le (hMW b (.inl hb)) hsz4
    ·have q := hsk.slots i T hi
     have e1 : mask (XW W).M0 (HH k) = M := hmk
     have e2 : mask (XW w₄).M0 (HH (k + 1)) = M := hMk (k + 1)
     rw [e1] at q
     rw [e2]
     exact T.up hle q
    ·obtain ⟨_, cs, hc, hr⟩ := hs3.hp.1 e he
     refine ⟨.inr (hblk (k + 1) e he), cs, ?_, e.R.up hle3 hr⟩
     have hel : e.b ≠ l := fun h => by
      have q := hblk (k + 1) e he
      rw [h] at q; exact hlbs q
     exact (World.putObj_heap_other hel).trans hc
    ·refine ⟨?_, ?_, ?_, Nat.le_trans hkept.size hsz4, fun b hb hbL => ?_⟩
     ·exact hk3.os.trans (hk1.os.trans hkept.os)
     ·exact hk3.tape.trans (hk1.tape.trans hkept.tape)
     ·exact hk3.output.trans (hk1.output.trans hkept.output)
     ·refine (hblock b (Nat.lt_of_lt_of_le hb hkept.size) (fun h => ?_) (by omega)).trans (hkept.block b hb hbL)
      rcases (hbsw b h).2 with q | q
      ·omega
      ·exact hbL q
   ·refine ⟨?_, fun h => ?_⟩
    ·have q1 : b < W.heap.size := hMW b (.inl hb)
     have q2 := hk1.size
     have q3 : w₂.heap.size = w₁.heap.size := World.putObj_size
     show b < w₂.heap.size
     omega
    ·obtain ⟨e, he, hel⟩ := List.mem_map.1 h
     have q1 : b < W.heap.size := hMW b (.inl hb)
     rcases hHb e he with q | q
     ·rw [hel] at q; omega
     ·rw [hel] at q; exact (hM0' b hb).2 q
   ·obtain ⟨_, cs, hc, hr⟩ := hs2.hp.1 e he
    refine ⟨.inr (List.mem_map.2 ⟨e, he, rfl⟩), cs, ?_, e.R.up hle2 hr⟩
    exact (World.putObj_heap_other (fun h => hHbl (List.mem_map.2 ⟨e, he, h⟩))).trans hc
 ·-- behind the iterator
  rintro e W2 ⟨v, rfl, hsn, hl2, hd2, hkept⟩
  have hend := run_endLoop (P := X.P) hl2 (by rw [hrec]; simp)
  have hl2s : l < W2.heap.size := (Array.getElem?_eq_some_iff.1 hl2).1
  have hne : D ≠ l := by omega
  refine ⟨none, _, by rw [hrec] at hend; exact hend, ?_⟩
  show Q .normal { tmps := a.tmps, defers := [{ target := .collected D, args := #[] }] ++ a.defers } _
  generalize hob : Obj.loop _ = ob
  have hle : Le ⟨W2, mask M0' (HH n)⟩ ⟨W2.putObj l ob, mask M0' (HH n)⟩ := putObj_le (.inl (.inr (.inr rfl)))
  refine hdone D (W2.putObj l ob) M0' bs ⟨⟨hkept.os, hkept.tape, hkept.output, by simp; exact hkept.size, fun b (hb : b < X.w0.heap.size) hbL => (World.putObj_heap_other (by omega)).trans (hkept.block b hb hbL)⟩,
   fun b hb => (hbsw b hb).2, fun k hk => .inl hk, .inr (.inl rfl), (World.putObj_heap_other hne).trans hd2, hX0⟩ _ _
   ⟨hsat.size, by simp [hsat.defers, hDf], fun b hb => ⟨?_, (hM0' b hb).2⟩, Kept.refl _ _, fun i T hi => T.up hle (hsn.slots i T hi), fun e he => ?_, hsn.hp.2⟩
  ·have q1 := (hM0' b hb).1
   show b < (W2.putObj l ob).heap.size
   simp; omega
  ·obtain ⟨_, cs, hc, hr⟩ := hsn.hp.1 e he
   refine ⟨.inr (hblk n e he), cs, ?_, e.R.up hle hr⟩
   have hel : e.b ≠ l := fun h => by
    have q := hblk n e he
    rw [h] at q; exact (hM0' l (.inr (.inr rfl))).2 q
   exact (World.putObj_heap_other hel).trans hc
theorem ResT.ctx {X' : Cx} {v : ResultVar} {T : Ty} (h : ResT X Γ H v T) (hP : X'.P = X.P) : ResT X' Γ H v T := by
 cases h with
 | tmp h => exact .tmp h
 | scal h he hs hR => exact .scal h he (hP ▸ hs) hR
 | agg h he hs hR => exact .agg h he (hP ▸ hs) hR
variable {fn : Func} {w1 : World} {M1 : Nat → Prop} {L1 : List Nat} {D : Nat}
theorem mark_done {a : Act} {w : World} {R : Ending → World → Prop} {N : Nat} (hrb : Rb X w1 M1 L1 D) (hs : Sat ⟨X.P, w1, M1, L1, N, [{ target := .collected D, args := #[] }]⟩ Γ H a w)
  (h : ∀ w', Kept X.L X.w0 w' → Sat ⟨X.P, w', M1, H.map (·.b), N, [{ target := .collected D, args := #[] }]⟩ Γ H a w' → ∃ v, (results fn a.tmps).run X.P w' = .ok v w' ∧ R (.returned v) w') :
  bodyPostM Fence.wide 0 X.P fn R .ret a w ∧ bodyPostM Fence.wide 0 X.P fn R .normal a w := by
 have hdL : D ∉ L1 := (hs.m0 D hrb.md).2
 have hD1 : D < w1.heap.size := (Array.getElem?_eq_some_iff.1 hrb.d0).1
 have hd : w.heap[D]? = some (.deferred (some [])) := (hs.below.block D hD1 hdL).trans hrb.d0
 have hHb : ∀ e ∈ H, w1.heap.size ≤ e.b ∨ e.b ∈ L1 := fun e he => (hs.hp.1 e he).1
 have hne : ∀ e ∈ H, e.b ≠ D := fun e he hel => by
  rcases hHb e he with q | q
  ·rw [hel] at q; omega
  ·rw [hel] at q; exact hdL q
 have hle : Le ⟨w, mask M1 H⟩ ⟨w.putObj D (.deferred none), mask M1 H⟩ := putObj_le (.inl hrb.md)
 have hkept : Kept X.L X.w0 (w.putObj D (.deferred none)) := by
  refine ⟨hs.below.os.trans hrb.kept.os, hs.below.tape.trans hrb.kept.tape, hs.below.output.trans hrb.kept.output, ?_, fun b hb hbL => ?_⟩
  ·have q1 := hrb.kept.size
   have q2 : w1.heap.size ≤ w.heap.size := hs.below.size
   simp; omega
  ·have hb1 : b < w1.heap.size := Nat.lt_of_lt_of_le hb hrb.kept.size
   have hbD : b ≠ D := by have := hrb.dge; omega
   have hb2 : b ∉ L1 := fun h => by
    rcases hrb.lent b h with q | q
    ·omega
    ·exact hbL q
   exact (World.putObj_heap_other hbD).trans ((hs.below.block b hb1 hb2).trans (hrb.kept.block b hb hbL))
 have hs' : Sat ⟨X.P, w.putObj D (.deferred none), M1, H.map (·.b), N, [{ target := .collected D, args := #[] }]⟩ Γ H a (w.putObj D (.deferred none)) := by
  refine ⟨hs.size, hs.defers, fun b hb => ⟨?_, fun hm => ?_⟩, Kept.refl _ _, fun i T hi => T.up hle (hs.slots i T hi), fun e he => ?_, hs.hp.2⟩
  ·have q1 : b < w1.heap.size := (hs.m0 b hb).1
   have q2 : w1.heap.size ≤ w.heap.size := hs.below.size
   show b < (w.putObj D (.deferred none)).heap.size
   simp; omega
  ·obtain ⟨e, he, hel⟩ := List.mem_map.1 hm
   have q1 := hs.m0 b hb
   rcases hHb e he with q | q
   ·have q1' : b < w1.heap.size := q1.1
    omega
   ·rw [hel] at q; exact q1.2 q
  ·obtain ⟨_, cs, hc, hr⟩ := hs.hp.1 e he
   exact ⟨.inr (List.mem_map.2 ⟨e, he, rfl⟩), cs, (World.putObj_heap_other (hne e he)).trans hc, e.R.up hle hr⟩
 obtain ⟨v, hr, hR⟩ := h _ hkept hs'
 have hl : LeavesInM Fence.wide 0 X.P fn a.tmps R a.defers .returning w := by
  rw [hs.defers]
  exact ⟨(fun q => by cases q), .inl ⟨D, _, rfl, run_takeDeferred hd, v, hr, hR⟩⟩
 exact ⟨hl, hl⟩
theorem JQ.retM1 {N : Nat} {v : ResultVar} {T : Ty} (hrb : Rb X w1 M1 L1 D) (hf : fn.results = #[v]) (h : ResT ⟨X.P, w1, M1, L1, N, [{ target := .collected D, args := #[] }]⟩ Γ H v T) :
  JQ ⟨X.P, w1, M1, L1, N, [{ target := .collected D, args := #[] }]⟩ (bodyPostM Fence.wide 0 X.P fn (Post X T)) .ret Γ H ∧ JQ ⟨X.P, w1, M1, L1, N, [{ target := .collected D, args := #[] }]⟩ (bodyPostM Fence.wide 0 X.P fn (Post X T)) .normal Γ H := by
 have key : ∀ a w, Sat ⟨X.P, w1, M1, L1, N, [{ target := .collected D, args := #[] }]⟩ Γ H a w → bodyPostM Fence.wide 0 X.P fn (Post X T) .ret a w ∧ bodyPostM Fence.wide 0 X.P fn (Post X T) .normal a w := fun a w hs =>
  mark_done hrb hs fun w' hk hs' => by
   obtain ⟨u, hr, hT⟩ := (h.ctx (X' := ⟨X.P, w', M1, H.map (·.b), N, [{ target := .collected D, args := #[] }]⟩) rfl).run hs'
   exact ⟨u, by rw [results_eq, hf]; simp [hr], u, rfl, hk, T.up (show Le ⟨w', Go.Rt.mask M1 H⟩ ⟨w', X.M0⟩ from ⟨Nat.le_refl _, fun _ _ _ => rfl, fun k _ hk => Or.inl (hrb.mask k hk)⟩) hT⟩
 exact ⟨fun a w hs => (key a w hs).1, fun a w hs => (key a w hs).2⟩
theorem JQ.retML1 {N b : Nat} {bt : TypeId} {R R' : CTy} {v : ResultVar} {T : Ty} (hrb : Rb X w1 M1 L1 D) (hf : fn.results = #[v]) (hb : (⟨b, bt, R⟩ : HEnt) ∈ H) (hR : ∀ cs s, R.p cs s → R'.p cs s) (h : ResT ⟨X.P, w1, M1, L1, N, [{ target := .collected D, args := #[] }]⟩ Γ H v T) :
  JQ ⟨X.P, w1, M1, L1, N, [{ target := .collected D, args := #[] }]⟩ (bodyPostM Fence.wide 0 X.P fn (PostL X b bt R' T)) .ret Γ H ∧ JQ ⟨X.P, w1, M1, L1, N, [{ target := .collected D, args := #[] }]⟩ (bodyPostM Fence.wide 0 X.P fn (PostL X b bt R' T)) .normal Γ H := by
 have key : ∀ a w, Sat ⟨X.P, w1, M1, L1, N, [{ target := .collected D, args := #[] }]⟩ Γ H a w → bodyPostM Fence.wide 0 X.P fn (PostL X b bt R' T) .ret a w ∧ bodyPostM Fence.wide 0 X.P fn (PostL X b bt R' T) .normal a w := fun a w hs =>
  mark_done hrb hs fun w' hk hs' => by
   obtain ⟨u, hr, hT⟩ := (h.ctx (X' := ⟨X.P, w', M1, H.map (·.b), N, [{ target := .collected D, args := #[] }]⟩) rfl).run hs'
   obtain ⟨_, cs, hc, hr2⟩ := hs'.hp.1 _ hb
   have hl : Le ⟨w', Go.Rt.mask M1 H⟩ ⟨w', fun k => X.M0 k ∨ k = b⟩ := ⟨Nat.le_refl _, fun _ _ _ => rfl, fun k _ hk => by
    rcases hk with hk | rfl
    ·exact Or.inl (hrb.mask k hk)
    ·exact Or.inr ⟨_, hb, rfl⟩⟩
   exact ⟨u, by rw [results_eq, hf]; simp [hr], u, cs, rfl, hk, hc, R'.up hl (hR _ _ hr2), T.up hl hT⟩
 exact ⟨fun a w hs => (key a w hs).1, fun a w hs => (key a w hs).2⟩
theorem JQ.retM1_ret {N : Nat} {v : ResultVar} {T : Ty} (hrb : Rb X w1 M1 L1 D) (hf : fn.results = #[v]) (h : ResT ⟨X.P, w1, M1, L1, N, [{ target := .collected D, args := #[] }]⟩ Γ H v T) : JQ ⟨X.P, w1, M1, L1, N, [{ target := .collected D, args := #[] }]⟩ (bodyPostM Fence.wide 0 X.P fn (Post X T)) .ret Γ H := (JQ.retM1 hrb hf h).1
theorem JQ.retML1_ret {N b : Nat} {bt : TypeId} {R R' : CTy} {v : ResultVar} {T : Ty} (hrb : Rb X w1 M1 L1 D) (hf : fn.results = #[v]) (hb : (⟨b, bt, R⟩ : HEnt) ∈ H) (hR : ∀ cs s, R.p cs s → R'.p cs s) (h : ResT ⟨X.P, w1, M1, L1, N, [{ target := .collected D, args := #[] }]⟩ Γ H v T) : JQ ⟨X.P, w1, M1, L1, N, [{ target := .collected D, args := #[] }]⟩ (bodyPostM Fence.wide 0 X.P fn (PostL X b bt R' T)) .ret Γ H := (JQ.retML1 hrb hf hb hR h).1
theorem Ctr.ofM {P : Program} {f N : Nat} {fn : Func} {c : Code} {Ts : List Ty} {T : Ty} (hf : P.funcs[f]? = some fn) (hb : fn.body = some c) (hN : fn.ntmps = N) (hl : Ts.length ≤ N)
  (h : ∀ w0 M0, JC ⟨P, w0, M0, [], N, []⟩ c (bodyPostM Fence.wide 0 P fn (Post ⟨P, w0, M0, [], N, []⟩ T)) (gam0 0 Ts) []) : Ctr P f Ts T := by
 intro w0 M0 hM vs hvs
 refine Calls.mono (callsIn_wide.1 (callsIn_of_wp_marks (n := 0) (R := Post ⟨P, w0, M0, [], N, []⟩ T) hf hb trivial (wpIn_wide.2 ?_))) fun e w' ⟨v, h1, h2, h3⟩ => ⟨v, h1, h2.below, h3⟩
 subst hN
 refine h w0 M0 _ _ ⟨?_, rfl, fun k hk => ⟨hM k hk, by simp⟩, Kept.refl _ _, fun i T hi => ?_, ⟨fun e he => by (cases he), List.Pairwise.nil⟩⟩
 ·have := hvs.length
  simp; omega
 ·obtain ⟨_, v, hv, hT⟩ := slots0 0 hvs i T hi
  have hM' : mask M0 [] = M0 := by funext k; simp [mask]
  show T.p _ ⟨w0, mask M0 []⟩
  rw [hM']
  have hlt : i < vs.length := (List.getElem?_eq_some_iff.1 hv).1
  have : (vs.toArray ++ Array.replicate (fn.ntmps - vs.toArray.size) undef).getD i undef = v := by
   rw [Array.getD_eq_getD_getElem?, Array.getElem?_append_left (by simpa using hlt)]
   simp at hv
   simp [hv]
  rw [this]; exact hT
theorem CtrL.ofM {P : Program} {f N : Nat} {fn : Func} {c : Code} {Ts : List Ty} {b : Nat} {bt : TypeId} {R R' : CTy} {T : Ty} (hf : P.funcs[f]? = some fn) (hb : fn.body = some c) (hN : fn.ntmps = N) (hl : Ts.length ≤ N)
  (h : ∀ w0 M0, JC ⟨P, w0, M0, [b], N, []⟩ c (bodyPostM Fence.wide 0 P fn (PostL ⟨P, w0, M0, [b], N, []⟩ b bt R' T)) (gam0 0 Ts) [⟨b, bt, R⟩]) : CtrL P f Ts b bt R R' T := by
 intro w0 M0 hM hMb cs hcs hR vs hvs
 have hMe : (fun k => (M0 k ∧ k ≠ b) ∨ k = b) = M0 := by
  funext k
  by_cases hk : k = b
  ·subst hk; simp [hMb]
  ·simp [hk]
 refine Calls.mono (callsIn_wide.1 (callsIn_of_wp_marks (n := 0) (R := PostL ⟨P, w0, fun k => M0 k ∧ k ≠ b, [b], N, []⟩ b bt R' T) hf hb trivial (wpIn_wide.2 ?_))) fun e w' ⟨v, cs', h1, h2, h3, h4, h5⟩ => ⟨v, cs', h1, h2, h3, by rw [← hMe]; exact h4, by rw [← hMe]; exact h5⟩
 subst hN
 have hM' : mask (fun k => M0 k ∧ k ≠ b) [⟨b, bt, R⟩] = M0 := by
  funext k
  refine propext ⟨fun h => ?_, fun h => ?_⟩
  ·rcases h with h | ⟨e, he, rfl⟩
   ·exact h.1
   ·cases he with
    | head => exact hMb
    | tail _ he => cases he
  ·by_cases hk : k = b
   ·exact .inr ⟨_, .head _, hk.symm⟩
   ·exact .inl ⟨h, hk⟩
 refine h w0 (fun k => M0 k ∧ k ≠ b) _ _ ⟨?_, rfl, fun k hk => ⟨hM k hk.1, by simpa using hk.2⟩, Kept.refl _ _, fun i T hi => ?_, ⟨fun e he => ?_, List.pairwise_singleton ..⟩⟩
 ·have := hvs.length
  simp; omega
 ·obtain ⟨_, v, hv, hT⟩ := slots0 0 hvs i T hi
  show T.p _ ⟨w0, mask (fun k => M0 k ∧ k ≠ b) [⟨b, bt, R⟩]⟩
  rw [hM']
  have hlt : i < vs.length := (List.getElem?_eq_some_iff.1 hv).1
  have : (vs.toArray ++ Array.replicate (fn.ntmps - vs.toArray.size) undef).getD i undef = v := by
   rw [Array.getD_eq_getD_getElem?, Array.getElem?_append_left (by simpa using hlt)]
   simp at hv
   simp [hv]
  rw [this]; exact hT
 ·cases he with
  | head =>
   refine ⟨.inr (.head _), cs, hcs, ?_⟩
   show R.p cs.toList ⟨w0, mask (fun k => M0 k ∧ k ≠ b) [⟨b, bt, R⟩]⟩
   rw [hM']; exact hR
  | tail _ he => cases he
end Go.Rt
namespace Go.Rt
open Go Go.RowKit
variable {X : Cx} {ops : Array Oper} {Q : Exit → Act → World → Prop} {rest : List Oper} {Γ : Gam} {H : Hp}
variable {dst : Option Tmp} {ty : TypeId} {pos : String} {af : Array Edge} {gd : Option (Nat × Bool)}
def stB (P : Program) (t : TypeId) : Bool := match P.underlying t with
 | some .string => true
 | _ => false
theorem ot_indexS {t : TypeId} {x y : Operand} {k : IntKind} {n : Int} {s : ByteArray} {c : UInt8} {m : Int} (hx : OpT Γ x (tIs (.string s))) (hy : OpT Γ y (tIs (.int k n))) (ht : stB X.P t = true) (h0 : 0 ≤ n) (hc : s[n.toNat]? = some c) (hm : (c.toNat : Int) = m) :
  R2 X Γ H ⟨dst, .index t x y, ty, pos, af, gd⟩ (tIs (.int .u8 m)) :=
 V4 fun a w hs => by
  have h1 : a.eval x = .string s := hx.ev hs (Y1 (by simp [Op.operands]))
  have h2 : a.eval y = .int k n := hy.ev hs (Y1 (by simp [Op.operands]))
  have hu : X.P.underlying t = some .string := by
   unfold stB at ht
   split at ht
   ·assumption
   ·cases ht
  refine ⟨.int .u8 m, w, ?_, Below.refl _ _, rfl⟩
  subst hm
  simp [execOp, h1, h2, Instr.index, asIntOf, run_underlying hu, h0, hc]
theorem JC.label {l : Nat} (h : JQ X Q .normal Γ H) : JC X (.label l) Q Γ H := fun a w hs => wp_label (h a w hs)
theorem cRow_take {α : Type} {E : Enc α} {xs : List α} {cap n : Nat} : ∀ cs s, (Y5 E xs cap).p cs s → (Y5 E (xs.take n) cap).p cs s := fun cs s ⟨h1, h2, h3⟩ =>
 ⟨by simp; omega, h2, fun i x hx => by
  rw [List.getElem?_take] at hx
  split at hx
  ·exact h3 i x hx
  ·cases hx⟩
def tab8 (s : ByteArray) : Bool := (List.range 256).all fun i => match s[i]? with
 | some c => Nat.beq c.toNat (bl8 i)
 | none => false
theorem ot_indexS8 {t : TypeId} {x y : Operand} {k : IntKind} {n : Nat} {s : ByteArray} (hx : OpT Γ x (tIs (.string s))) (hs : tab8 s = true) (hy : OpT Γ y (tIs (.int k ((n : Nat) : Int)))) (ht : stB X.P t = true) (hn : n < 256) :
  R2 X Γ H ⟨dst, .index t x y, ty, pos, af, gd⟩ (tIs (.int .u8 ((bl8 n : Nat) : Int))) := by
 have h1 := List.all_eq_true.1 hs n (List.mem_range.2 hn)
 split at h1
 ·rename_i c hc
  exact ot_indexS hx hy ht (by omega) (by simpa using hc) (by rw [R0.1 h1])
 ·cases h1
theorem row_shl {O : List Nat} {n c : Nat} {cs : List Value} {s : St} (hd : U7 O) (hv : val O = n) (h : (Y5 X8 O c).p cs s) : (Y5 X8 (dig n) c).p cs s := by
 obtain ⟨m, hm⟩ := trim_pre O
 rw [W7 hd, hv] at hm
 rw [hm]; exact cRow_take cs s h
theorem vsP_at {s : St} : ∀ {Ts : List Ty} {vs : List Value} {i : Nat} {T : Ty}, vsP Ts vs s → Ts[i]? = some T → ∃ v, T.p v s
 | [], _, _, _, _, h => by simp at h
 | _ :: _, [], _, _, h, _ => h.elim
 | _ :: _, v :: _, 0, _, h, hi => by simp at hi; subst hi; exact ⟨v, h.1⟩
 | _ :: _, _ :: _, i + 1, _, h, hi => vsP_at h.2 (by simpa using hi)
theorem CtrO.know {P : Program} {f : FuncId} {Ts : List Ty} {bt : TypeId} {n c : Nat} {R : Nat → CTy} {φ : Prop} (i : Nat) {Ti : Ty} (hi : Ts[i]? = some Ti) (h : ∀ v s, Ti.p v s → φ) (hc : φ → CtrO P f Ts bt n c R) : CtrO P f Ts bt n c R := fun w0 M0 hM vs hvs => by
 obtain ⟨v, hv⟩ := vsP_at hvs hi
 exact hc (h _ _ hv) w0 M0 hM vs hvs
theorem opv_add {t t2 : Nat} {tt yt : TypeId} {k : IntKind} {x y r : Int} (h : look Γ t = some (tIs (.int k x))) (h2 : look Γ t2 = some (tIs (.int k y))) (hw : k.wrap (x + y) = r) : OpV X Γ ⟨dst, .binOp .add tt (.tmp t) (.tmp t2) yt, ty, pos, af, gd⟩ (.int k r) := fun a ha w => by
 have h1 : a.eval (.tmp t) = .int k x := ha t _ h
 have h3 : a.eval (.tmp t2) = .int k y := ha t2 _ h2
 subst hw
 simp [execOp, h1, h3, eqGuard, binOp, Op.intArith]
theorem opv_addc {t : Nat} {tt yt : TypeId} {k : IntKind} {x y r : Int} (h : look Γ t = some (tIs (.int k x))) (hw : k.wrap (x + y) = r) : OpV X Γ ⟨dst, .binOp .add tt (.tmp t) (.const (.int k y)) yt, ty, pos, af, gd⟩ (.int k r) := fun a ha w => by
 have h1 : a.eval (.tmp t) = .int k x := ha t _ h
 have h2 : a.eval (.const (.int k y)) = .int k y := rfl
 subst hw
 simp [execOp, h1, h2, eqGuard, binOp, Op.intArith]
end Go.Rt
namespace Go.Rt
open Go Go.RowKit
theorem bsx : (∀ a b : Bool, ((a && b) = true) = (a = true ∧ b = true)) ∧ (∀ a b : Bool, ((a || b) = true) = (a = true ∨ b = true)) ∧ (∀ b : Bool, ((!b) = true) = (b = false)) ∧ (∀ b : Bool, ((!b) = false) = (b = true)) ∧
  (∀ a b : Bool, (a && b) = false ↔ a = false ∨ b = false) ∧ (∀ a b : Bool, (a || b) = false ↔ a = false ∧ b = false) ∧ ((!true) = false) ∧ ((!false) = true) ∧
  (∀ (p : Prop) [Decidable p], (decide p = true) = p) ∧ (∀ (p : Prop) [Decidable p], decide p = false ↔ ¬ p) ∧ (∀ {α : Type} [BEq α] [LawfulBEq α] {a b : α}, (a == b) = true ↔ a = b) ∧ (∀ {α : Type} [BEq α] [LawfulBEq α] {a b : α}, (a == b) = false ↔ a ≠ b) ∧
  (∀ a b : Bool, (!a) = b ↔ a = !b) :=
 ⟨Bool.and_eq_true, Bool.or_eq_true, fun b => by cases b <;> simp, fun b => by cases b <;> simp, fun a b => by cases a <;> cases b <;> simp, fun a b => by cases a <;> cases b <;> simp, rfl, rfl,
  fun p _ => decide_eq_true_eq, fun p _ => decide_eq_false_iff_not, beq_iff_eq, beq_eq_false_iff_ne, fun a b => Bool.not_eq_eq_eq_not⟩
variable {X : Cx} {Γ : Gam} {H : Hp}
variable {dst : Option Tmp} {ty : TypeId} {pos : String} {af : Array Edge} {gd : Option (Nat × Bool)}
def opOk (N : Nat) (o : Oper) : Option Nat := match o.guard, o.dst with
 | none, some d => if Nat.blt d N = true then some d else none
 | _, _ => none
theorem opOk_spec {N d : Nat} {o : Oper} (h : opOk N o = some d) : o.dst = some d ∧ d < N ∧ o.guard = none := by
 unfold opOk at h
 split at h
 ·rename_i hg hd
  split at h
  ·rename_i hb
   injection h with h; subst h
   exact ⟨hd, ltN hb, hg⟩
  ·cases h
 ·cases h
section short
variable {ops : Array Oper} {rest all : List Oper} {Q : Exit → Act → World → Prop} {Γ' : Gam} {u : Oper} {d : Nat} {T : Ty} {x : Operand}
theorem J.o (h : R2 X Γ H u T) (hc : opOk X.N u = some d) (next : J X ops Q rest ((d, T) :: Γ) H) : J X ops Q (u :: rest) Γ H :=
 let ⟨h1, h2, h3⟩ := opOk_spec hc; J.op h h1 h2 h3 next
theorem J.m (h : OpT Γ x T) (hc : opOk X.N ⟨dst, .move x, ty, pos, af, gd⟩ = some d) (next : J X ops Q rest ((d, T) :: Γ) H) : J X ops Q (⟨dst, .move x, ty, pos, af, gd⟩ :: rest) Γ H := J.o (Y0 h) hc next
theorem J.a (h : OpT Γ x T) (hc : opOk X.N ⟨dst, .assign x, ty, pos, af, gd⟩ = some d) (next : J X ops Q rest ((d, T) :: Γ) H) : J X ops Q (⟨dst, .assign x, ty, pos, af, gd⟩ :: rest) Γ H := J.o (Y2 h) hc next
theorem TW.o (h : R2 X Γ H u T) (hc : opOk X.N u = some d) (next : TW X H all ((d, T) :: Γ) rest Γ') : TW X H all Γ (u :: rest) Γ' :=
 let ⟨h1, h2, h3⟩ := opOk_spec hc; TW.op h h1 h2 h3 next
theorem TW.m (h : OpT Γ x T) (hc : opOk X.N ⟨dst, .move x, ty, pos, af, gd⟩ = some d) (next : TW X H all ((d, T) :: Γ) rest Γ') : TW X H all Γ (⟨dst, .move x, ty, pos, af, gd⟩ :: rest) Γ' := TW.o (Y0 h) hc next
end short
end Go.Rt
namespace Go.Rt
open Go Go.RowKit Go.ChangeShapes Go.WideShapes Go.ChangeAt
theorem kept_below {w w' : World} (h : Below w.heap.size w w') (may : MemPlace → Prop) : w.keptBut w' may := by
 refine ⟨h.os, h.output, fun i hi => ?_⟩
 rw [h.block i hi]
 cases w.heap[i]? with
 | none => rfl
 | some o => cases o <;> first | exact ⟨rfl, rfl, rfl, fun _ _ => rfl⟩ | exact .inr ⟨rfl, rfl⟩ | rfl
theorem post_below {H : Type} {enc : TypeId × Value → H} {P : Program} {f : Func} {s : ChangeSpec} {apart fresh handsOn again : Bool} {W W' : World} {args : Array Value} {v : Value} {ds gs : List (DataW H)} {before pa pv : List MemPlace}
  (hW : DataW.Whole enc P f.params.toList s.vars apart W args.toList ds gs before) (hb : Below W.heap.size W W')
  (hres : ∀ (b : Nat) (sp : Nat → Bool) (hd : Bool), DataW.TrodAll enc P W' b sp hd f.resultTypes.toList (v.resultList f.resultTypes.size) (s.fn H (ds ++ gs)).results [])
  (hargs : ∀ sp : Nat → Bool, (∀ p ∈ before, sp p.block = true) → DataW.TrodAll enc P W' 0 sp true f.params.toList args.toList (s.fn H (ds ++ gs)).args pa)
  (hvars : ∀ sp : Nat → Bool, (∀ p ∈ before, sp p.block = true) → DataW.TrodVars enc P W' sp s.vars (s.fn H (ds ++ gs)).vars pv) (hps : before = pa ++ pv)
  (hok : ∀ (j : Nat) (t : TypeId) (r : Value), f.resultTypes[j]? = some t → (v.resultList f.resultTypes.size)[j]? = some r → Value.okWide P W' .any 0 t r) : s.post enc P f apart fresh handsOn again W args v W' := by
 have hlt := hW.lt
 have all : ∀ p ∈ before, (fun _ : Nat => true) p.block = true := fun _ _ => rfl
 have own : ∀ p ∈ before, (fun b => decide (b < W.heap.size)) p.block = true := fun p hp => by simpa using hlt p hp
 have e1 : ([] : List MemPlace) ++ pa ++ pv = before := by simp [hps]
 refine ⟨ds, gs, before, [], pa, pv, hW, hres _ _ _, hargs _ own, hvars _ own, kept_below hb _, fun _ => ⟨hok, _, _, before, ⟨[] ++ pa, pv, trodAll_append (hargs _ all) (hres _ _ _), hvars _ all, e1.symm, ?_, ?_⟩, fun p hp _ => hp⟩⟩
 ·obtain ⟨_, _, _, _, _, hz, _⟩ := hW
  intro b off hp
  have h1 := hz b off hp
  have h2 : b < W.heap.size := hlt _ hp
  unfold World.frozen? at h1 ⊢
  rw [hb.block b h2]; exact h1
 ·obtain ⟨_, _, _, _, _, _, hn⟩ := hW
  exact hn
end Go.Rt
namespace Go.Rt
open Go Go.RowKit Go.ChangeShapes Go.WideShapes
structure PolTy (P : Program) (tP tI tL tN tZ tB tU : TypeId) : Prop where
 p : ∃ f0 f1 f2 : Field, P.underlying tP = some (.struct #[f0, f1, f2]) ∧ f0.type = tZ ∧ f0.offset = 0 ∧ f1.type = tI ∧ f1.offset = 1 ∧ f2.type = tL ∧ f2.offset = 3
 i : ∃ g0 g1 : Field, P.underlying tI = some (.struct #[g0, g1]) ∧ g0.type = tB ∧ g0.offset = 0 ∧ g1.type = tN ∧ g1.offset = 1
 l : P.underlying tL = some (.slice tP)
 n : P.underlying tN = some (.slice tU)
 z : P.underlying tZ = some (.int .i64)
 b : P.underlying tB = some .bool
 u : P.underlying tU = some (.int .u32)
 cP : P.cellsOf tP = 4
 cI : P.cellsOf tI = 2
 cL : P.cellsOf tL = 1
 cN : P.cellsOf tN = 1
 cZ : P.cellsOf tZ = 1
 cB : P.cellsOf tB = 1
 cU : P.cellsOf tU = 1
section bring
variable {H : Type} {enc : TypeId × Value → H} {P : Program} {w : World} {sp : Nat → Bool} {held : Bool} {fuel : Nat} {cs : List Value} {x : DataW H × List MemPlace}
variable {tP tI tL tN tZ tB tU : TypeId}
abbrev stW (w : World) : St := ⟨w, fun _ => False⟩
def natOf : Value → Nat
 | .int _ k => k.toNat
 | _ => 0
theorem spot_none {a : Addr} {v : Value} (h : w.cell? a = some v) : a = ⟨a.block, a.off, none⟩ := by
 obtain ⟨b, o, s⟩ := a
 unfold World.cell? at h
 split at h
 ·split at h
  ·cases h
  ·rename_i q
   have : s = none := by cases s <;> simp_all
   rw [this]
 ·cases h
instance : Inhabited Pol := ⟨p0⟩
theorem bringN (T : PolTy P tP tI tL tN tZ tB tU) (h : DataW.trod enc P w 0 sp held fuel tN cs = some x) : ∃ v ds, cs = [v] ∧ v.oneCell' = true ∧ slP X8 ds v (stW w) ∧ U7 ds := by
 rcases Deep.open_slice1 T.n T.cU h with ⟨rfl, rfl⟩ | ⟨a, len, cap, m, n, V, D, Pl, rfl, hb, hl, hc, hm, rfl, hx⟩
 ·exact ⟨_, [], rfl, rfl, Q9 _ _, fun d hd => by cases hd⟩
 ·have hml : len ≤ m := by rw [hm]; split <;> omega
  have hV : ∀ i, i < len → ∃ k : Nat, V i = .int .u32 k ∧ k < 4294967296 := fun i hi => by
   obtain ⟨k, h1, _, h3⟩ := DataW.trod_int T.u (hx i (by omega)).2
   have hb := bounds_u32 h3
   refine ⟨k.toNat, ?_, by omega⟩
   simp at h1
   rw [h1]; congr 1; omega
  refine ⟨_, (List.range len).map fun i => natOf (V i), rfl, rfl, ⟨some a, len, cap, rfl, by simp, hl, fun hne => ?_⟩, fun d hd => ?_⟩
  ·have hl0 : 0 < len := by
    rcases Nat.eq_zero_or_pos len with q | q
    ·subst q; exact absurd rfl hne
    ·exact q
   have h0 := (hx 0 (by omega)).1
   rw [show a.add 0 = a from rfl] at h0
   have ha := spot_none h0
   refine ⟨a.block, a.off, by rw [← ha], fun i d hd => ?_⟩
   have hi : i < len := by
    have := (List.getElem?_eq_some_iff.1 hd).1
    simpa using this
   obtain ⟨k, h1, h2⟩ := hV i hi
   have hdk : d = k := by
    rw [List.getElem?_map, List.getElem?_range hi] at hd
    simp only [Option.map_some, Option.some.injEq] at hd
    rw [← hd, h1]; show ((k : Nat) : Int).toNat = k; omega
   subst hdk
   refine ⟨[.int .u32 d], ⟨rfl, h2⟩, fun j u hu => ⟨?_, fun h => h⟩⟩
   have hj : j = 0 := by
    have := (List.getElem?_eq_some_iff.1 hu).1
    simp at this; exact this
   subst hj
   simp at hu
   subst hu
   have hc := (hx i (by omega)).1
   rw [ha, add_plain, h1] at hc
   show w.cell? ⟨a.block, a.off + i * 1 + 0, none⟩ = _
   rw [Nat.mul_one, Nat.add_zero]; exact hc
  ·obtain ⟨i, hi, rfl⟩ := List.mem_map.1 hd
   obtain ⟨k, h1, h2⟩ := hV i (List.mem_range.1 hi)
   show natOf (V i) < _
   rw [h1]; show ((k : Nat) : Int).toNat < 4294967296; omega
theorem bringI (T : PolTy P tP tI tL tN tZ tB tU) (h : DataW.trod enc P w 0 sp held fuel tI cs = some x) : ∃ c : Z, cellsP (zT c) cs (stW w) ∧ U7 c.abs := by
 obtain ⟨g0, g1, hu, e0, o0, e1, o1⟩ := T.i
 obtain ⟨xs, n, rfl, rfl, hl, hlen, hf⟩ := DataW.trod_struct hu h
 rw [T.cI] at hl
 match cs, hl with
 | [a, b], _ =>
  have h0 := hf 0 g0 rfl
  have h1 := hf 1 g1 rfl
  rw [e0, o0, T.cB] at h0
  rw [e1, o1, T.cN] at h1
  have hs : xs.length = 2 := hlen
  rw [List.getElem?_eq_getElem (by omega)] at h0 h1
  obtain ⟨q, hq, _⟩ := DataW.trod_bool T.b h0
  obtain ⟨v, ds, hv, h1c, hsl, hd⟩ := bringN T h1
  simp at hq hv
  subst hq; subst hv
  exact ⟨⟨q, ds⟩, ⟨rfl, rfl, hsl, h1c, trivial⟩, hd⟩
end bring
end Go.Rt
