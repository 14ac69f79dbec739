/- The logic of the walks, and the plain mathematics, part 4: how a program logic for the model steps through code, and what the functions compute. Conditions: those of each theorem. -/
import Derived.Test.YtcbnpddeiaccbaaL3
set_option linter.unusedVariables false
set_option linter.unusedSimpArgs false
namespace Go.Rt
open Go Go.RowKit
variable {X : Cx} {ops : Array Oper} {Q : Exit → Act → World → Prop} {rest : List Oper} {Γ : Gam} {H : Hp}
section gp
variable {all : List Oper} {n : Nat} {T : Nat → Ty} {G : Nat → Gam}
def GPok (all : List Oper) (T : Nat → Ty) (G : Nat → Gam) (n : Nat) : Prop := ∀ i, i < n → (∃ d, dstAt all i = some d ∧ G (i + 1) = (d, T i) :: G i) ∨ (dstAt all i = none ∧ G (i + 1) = G i)
theorem GPok.look (hG : GPok all T G n) : ∀ i, i ≤ n → ∀ x U, Rt.look (G i) x = some U → (∃ j, j < i ∧ dstAt all j = some x ∧ U = T j) ∨ ((∀ j, j < i → dstAt all j ≠ some x) ∧ Rt.look (G 0) x = some U) := by
 intro i
 induction i with
 | zero => intro _ x U h; exact .inr ⟨fun j hj => by omega, h⟩
 | succ i ih =>
  intro hi x U h
  rcases hG i (by omega) with ⟨d, hd, hg⟩ | ⟨hd, hg⟩
  ·rw [hg, look_cons] at h
   cases hb : Nat.beq d x with
   | true =>
    rw [hb] at h; cases h
    exact .inl ⟨i, by omega, by rw [hd, nat_beq.1 hb], rfl⟩
   | false =>
    rw [hb] at h
    have hne : d ≠ x := fun e => by rw [e, Nat.beq_refl] at hb; cases hb
    rcases ih (by omega) x U h with ⟨j, h1, h2, h3⟩ | ⟨h1, h2⟩
    ·exact .inl ⟨j, by omega, h2, h3⟩
    ·refine .inr ⟨fun j hj => ?_, h2⟩
     rcases Nat.lt_or_ge j i with q | q
     ·exact h1 j q
     ·have : j = i := by omega
      subst this
      rw [hd]; exact fun e => hne (by simpa using e)
  ·rw [hg] at h
   rcases ih (by omega) x U h with ⟨j, h1, h2, h3⟩ | ⟨h1, h2⟩
   ·exact .inl ⟨j, by omega, h2, h3⟩
   ·refine .inr ⟨fun j hj => ?_, h2⟩
    rcases Nat.lt_or_ge j i with q | q
    ·exact h1 j q
    ·have : j = i := by omega
     subst this
     rw [hd]; exact fun e => by cases e
theorem RInv.readsP {listed : Array Bool} {a : Act} {w : World} (hi : RInv X H Γ all n T listed a w) (hG0 : G 0 = Γ) (hG : GPok all T G n) (hok : ∀ i j, i < n → j < n → okPair all i j = true) {i : Nat} (hin : i < n) {o : Oper} (ho : all[i]? = some o) (hun : listed.getD i false = false) (hready : ∀ e ∈ o.after, Region.binds .any e = true → listed.getD e.on false = true)
  {x : Nat} (hx : x ∈ readsOf all o) {U : Ty} (hU : Rt.look (G i) x = some U) : U.p (a.tmps.getD x undef) ⟨w, mask X.M0 H⟩ := by
 have wr : ∀ j, j < n → dstAt all j = some x → ∃ oj, all[j]? = some oj ∧ oj.dst = some x := fun j _ hj => by
  unfold dstAt at hj
  obtain ⟨oj, h1, h2⟩ := Option.bind_eq_some_iff.1 hj
  exact ⟨oj, h1, h2⟩
 rcases hG.look i (by omega) x U hU with ⟨j, hj, hd, rfl⟩ | ⟨hno, hU0⟩
 ·obtain ⟨oj, h1, h2⟩ := wr j (by omega) hd
  obtain ⟨e, he, hb, hon⟩ := backTo_spec ((okPair_read (hok i j hin (by omega)) ho h1 h2 hx).1 hj)
  exact hi.done j x (by omega) (by rw [← hon]; exact hready e he hb) hd
 ·rw [hG0] at hU0
  refine hi.old x U hU0 fun j hjn hl hd => ?_
  rcases Nat.lt_trichotomy j i with q | q | q
  ·exact hno j q hd
  ·subst q; rw [hun] at hl; cases hl
  ·obtain ⟨oj, h1, h2⟩ := wr j hjn hd
   obtain ⟨e, he, hb, hon⟩ := backTo_spec ((okPair_read (hok i j hin hjn) ho h1 h2 hx).2 q)
   have := hi.closed j oj h1 hl e he hb
   rw [hon, hun] at this; cases this
theorem RInv.finP {listed : Array Bool} {a : Act} {w : World} (hi : RInv X H Γ all n T listed a w) (hG0 : G 0 = Γ) (hG : GPok all T G n) (hl : ∀ i, i < n → listed.getD i false = true) : Sat X (G n) H a w := by
 refine ⟨hi.size, hi.defers, hi.m0, hi.below, fun x U hU => ?_, hi.hp⟩
 rcases hG.look n (Nat.le_refl _) x U hU with ⟨j, hj, hd, rfl⟩ | ⟨hno, hU0⟩
 ·exact hi.done j x hj (hl j hj) hd
 ·rw [hG0] at hU0
  exact hi.old x U hU0 fun j hj _ => hno j hj
theorem RInv.stepP {listed : Array Bool} {a : Act} {w : World} (hi : RInv X H Γ all n T listed a w) (hG0 : G 0 = Γ) (hG : GPok all T G n) (hok : ∀ i j, i < n → j < n → okPair all i j = true) {i d : Nat} (hin : i < n) {o : Oper} (ho : all[i]? = some o) (hun : listed.getD i false = false) (hready : ∀ e ∈ o.after, Region.binds .any e = true → listed.getD e.on false = true)
  (hd : o.dst = some d) (hdN : d < X.N) (hgn : o.guard = none) (hop : OpTy X (G i) H o (T i)) {K : Act → World → Prop} (hK : ∀ a' w', RInv X H Γ all n T (listed.setIfInBounds i true) a' w' → K a' w') : wpOp X.P all.toArray Q i K a w := by
 have hson : SatOn X (slotsOf o) (G i) H a w := ⟨hi.size, hi.defers, hi.m0, hi.below, fun x U hx hU => hi.readsP hG0 hG hok hin ho hun hready (List.mem_append.2 (.inl hx)) hU, hi.hp⟩
 have ho2 : all.toArray[i]? = some o := by simpa using ho
 unfold wpOp
 simp only [ho2]
 rw [if_pos (wanted_none hgn _)]
 refine .inl (wp_mono_false ?_ (hop a w hson))
 rintro a' w' ⟨v, rfl, hb, hv⟩
 rw [hd]
 exact hK _ _ (hi.next hok hin ho hd hdN hready hb hv)
end gp
inductive TP (X : Cx) (H : Hp) (al : Nat → Bool) (n : Nat) (Γn : Gam) : Nat → Gam → List Oper → List Ty → Gam → Prop
 | nil {i : Nat} {Γ : Gam} : TP X H al n Γn i Γ [] [] Γ
 | op {i d : Nat} {Γ Γ' : Gam} {o : Oper} {rest : List Oper} {T : Ty} {Ts : List Ty} (h : OpTy X Γ H o T) (hd : o.dst = some d) (hN : d < X.N) (hg : o.guard = none) (hi : Nat.beq i n = false) (next : TP X H al n Γn (i + 1) ((d, T) :: Γ) rest Ts Γ') : TP X H al n Γn i Γ (o :: rest) (T :: Ts) Γ'
 | skip {i d : Nat} {Γ Γ' : Gam} {o : Oper} {rest : List Oper} {T : Ty} {Ts : List Ty} (hd : o.dst = some d) (hf : al i = false) (hi : Nat.beq i n = false) (next : TP X H al n Γn (i + 1) ((d, T) :: Γ) rest Ts Γ') : TP X H al n Γn i Γ (o :: rest) (T :: Ts) Γ'
 | skip0 {i : Nat} {Γ Γ' : Gam} {o : Oper} {rest : List Oper} {T : Ty} {Ts : List Ty} (hd : o.dst = none) (hf : al i = false) (hi : Nat.beq i n = false) (next : TP X H al n Γn (i + 1) Γ rest Ts Γ') : TP X H al n Γn i Γ (o :: rest) (T :: Ts) Γ'
 | at {d : Nat} {Γ' : Gam} {o : Oper} {rest : List Oper} {T : Ty} {Ts : List Ty} (hd : o.dst = some d) (hf : al n = false) (next : TP X H al n Γn (n + 1) ((d, T) :: Γn) rest Ts Γ') : TP X H al n Γn n Γn (o :: rest) (T :: Ts) Γ'
 | at0 {Γ' : Gam} {o : Oper} {rest : List Oper} {T : Ty} {Ts : List Ty} (hd : o.dst = none) (hf : al n = false) (next : TP X H al n Γn (n + 1) Γn rest Ts Γ') : TP X H al n Γn n Γn (o :: rest) (T :: Ts) Γ'
def tyAt (Ts : List Ty) (i : Nat) : Ty := Ts.getD i tAny
theorem TP.seq {al : Nat → Bool} {n k : Nat} {Γn Γ Γ' : Gam} {l : List Oper} {Ts : List Ty} (h : TP X H al n Γn k Γ l Ts Γ') : ∃ G : Nat → Gam, G 0 = Γ ∧ G l.length = Γ' ∧ Ts.length = l.length ∧
  ∀ i o, l[i]? = some o → ((∃ d, o.dst = some d ∧ G (i + 1) = (d, tyAt Ts i) :: G i) ∨ (o.dst = none ∧ G (i + 1) = G i)) ∧ (al (k + i) = true → o.guard = none ∧ OpTy X (G i) H o (tyAt Ts i) ∧ ∃ d, o.dst = some d ∧ d < X.N) ∧ (k + i = n → G i = Γn) := by
 induction h with
 | nil => rename_i i Γ; exact ⟨fun _ => Γ, rfl, rfl, rfl, fun i o h => by simp at h⟩
 | op h hd hN hg hi _ ih =>
  rename_i j d Γ Γ' o rest T Ts _
  obtain ⟨G, h0, h1, hl, h2⟩ := ih
  refine ⟨fun i => match i with | 0 => Γ | i + 1 => G i, rfl, h1, by simp [hl], fun i o' ho => ?_⟩
  cases i with
  | zero => simp at ho; subst ho; exact ⟨.inl ⟨d, hd, h0⟩, fun _ => ⟨hg, h, d, hd, hN⟩, fun e => (by rw [nat_beq.2 (show j = n from e)] at hi; cases hi)⟩
  | succ i =>
   have := h2 i o' (by simpa using ho)
   rw [show j + 1 + i = j + (i + 1) by omega] at this
   exact this
 | skip hd hf hi _ ih =>
  rename_i j d Γ Γ' o rest T Ts _
  obtain ⟨G, h0, h1, hl, h2⟩ := ih
  refine ⟨fun i => match i with | 0 => Γ | i + 1 => G i, rfl, h1, by simp [hl], fun i o' ho => ?_⟩
  cases i with
  | zero => simp at ho; subst ho; exact ⟨.inl ⟨d, hd, h0⟩, fun q => (by rw [Nat.add_zero, hf] at q; cases q), fun e => (by rw [nat_beq.2 (show j = n from e)] at hi; cases hi)⟩
  | succ i =>
   have := h2 i o' (by simpa using ho)
   rw [show j + 1 + i = j + (i + 1) by omega] at this
   exact this
 | skip0 hd hf hi _ ih =>
  rename_i j Γ Γ' o rest T Ts _
  obtain ⟨G, h0, h1, hl, h2⟩ := ih
  refine ⟨fun i => match i with | 0 => Γ | i + 1 => G i, rfl, h1, by simp [hl], fun i o' ho => ?_⟩
  cases i with
  | zero => simp at ho; subst ho; exact ⟨.inr ⟨hd, h0⟩, fun q => (by rw [Nat.add_zero, hf] at q; cases q), fun e => (by rw [nat_beq.2 (show j = n from e)] at hi; cases hi)⟩
  | succ i =>
   have := h2 i o' (by simpa using ho)
   rw [show j + 1 + i = j + (i + 1) by omega] at this
   exact this
 | «at» hd hf _ ih =>
  rename_i d Γ' o rest T Ts _
  obtain ⟨G, h0, h1, hl, h2⟩ := ih
  refine ⟨fun i => match i with | 0 => Γn | i + 1 => G i, rfl, h1, by simp [hl], fun i o' ho => ?_⟩
  cases i with
  | zero => simp at ho; subst ho; exact ⟨.inl ⟨d, hd, h0⟩, fun q => (by rw [Nat.add_zero, hf] at q; cases q), fun _ => rfl⟩
  | succ i =>
   have := h2 i o' (by simpa using ho)
   rw [show n + 1 + i = n + (i + 1) by omega] at this
   exact this
 | at0 hd hf _ ih =>
  rename_i Γ' o rest T Ts _
  obtain ⟨G, h0, h1, hl, h2⟩ := ih
  refine ⟨fun i => match i with | 0 => Γn | i + 1 => G i, rfl, h1, by simp [hl], fun i o' ho => ?_⟩
  cases i with
  | zero => simp at ho; subst ho; exact ⟨.inr ⟨hd, h0⟩, fun q => (by rw [Nat.add_zero, hf] at q; cases q), fun _ => rfl⟩
  | succ i =>
   have := h2 i o' (by simpa using ho)
   rw [show n + 1 + i = n + (i + 1) by omega] at this
   exact this
def RP (X : Cx) (Q : Exit → Act → World → Prop) (all : List Oper) (Γ : Gam) (H : Hp) (Ts : List Ty) (dn un : Nat → Bool) : Prop :=
 ∀ fuel listed a w, unl listed all.length ≤ fuel → RInv X H Γ all all.length (tyAt Ts) listed a w → (∀ i, i < all.length → dn i = true → listed.getD i false = true) → (∀ i, i < all.length → un i = true → listed.getD i false = false) → wpAny X.P .any all.toArray Q fuel listed a w
def okAll (all : List Oper) : Bool := okEdges all && (List.range all.length).all fun i => (List.range all.length).all fun j => okPair all i j
theorem RP.last {all : List Oper} {Ts : List Ty} {dn un al : Nat → Bool} {Γn Γ' : Gam} (hok : okAll all = true) (hal : ((List.range all.length).all fun i => (dn i || al i) && !un i) = true) (ht : TP X H al all.length Γn 0 Γ all Ts Γ') (hk : JQ X Q .normal Γ' H) : RP X Q all Γ H Ts dn un := by
 simp only [okAll, Bool.and_eq_true] at hok
 have hokP : ∀ i j, i < all.length → j < all.length → okPair all i j = true := fun i j hi hj => range_all (range_all hok.2 hi) hj
 obtain ⟨G, hG0, hGn, _, hG⟩ := ht.seq
 have hGO : GPok all (tyAt Ts) G all.length := fun i hi => by
  rcases (hG i all[i] (List.getElem?_eq_getElem hi)).1 with ⟨d, h1, h2⟩ | ⟨h1, h2⟩
  ·exact .inl ⟨d, by simp [dstAt, List.getElem?_eq_getElem hi, h1], h2⟩
  ·exact .inr ⟨by simp [dstAt, List.getElem?_eq_getElem hi, h1], h2⟩
 have fin : ∀ listed a w, RInv X H Γ all all.length (tyAt Ts) listed a w → Region.ready .any all.toArray listed = [] → Q .normal a w := by
  intro listed a w hi hr
  have hall : ∀ i, i < all.length → listed.getD i false = true := fun i hil => by
   cases hb : listed.getD i false with
   | true => rfl
   | false => exact absurd hr (ready_some hok.1 hi.lsize hil hb)
  exact hk a w (hGn ▸ hi.finP hG0 hGO hall)
 intro fuel
 induction fuel with
 | zero =>
  intro listed a w hu hi hd hun'
  have hr : Region.ready .any all.toArray listed = [] := by
   cases hr : Region.ready .any all.toArray listed with
   | nil => rfl
   | cons j l =>
    have hj : j ∈ Region.ready .any all.toArray listed := by rw [hr]; exact .head _
    obtain ⟨hun, o, ho, _⟩ := mem_ready.1 hj
    have hjl : j < all.length := by have := (Array.getElem?_eq_some_iff.1 ho).1; simpa using this
    have hm : j ∈ (List.range all.length).filter fun i => !listed.getD i true := List.mem_filter.2 ⟨List.mem_range.2 hjl, by simp [hun]⟩
    have : 0 < unl listed all.length := List.length_pos_of_mem hm
    omega
  exact ⟨hr, fin listed a w hi hr⟩
 | succ fuel ih =>
  intro listed a w hu hi hd hun'
  refine ⟨fun hr => fin listed a w hi hr, fun i hir => ?_⟩
  obtain ⟨hun, o, ho, hready⟩ := mem_ready.1 hir
  have ho' : all[i]? = some o := by simpa using ho
  have hil : i < all.length := (List.getElem?_eq_some_iff.1 ho').1
  have huni : listed.getD i false = false := by rw [getD_both (by rw [hi.lsize]; omega) false true]; exact hun
  have hu' : unl (listed.setIfInBounds i true) all.length ≤ fuel := by
   have := unl_set hil hi.lsize hun
   omega
  have hali : al i = true := by
   have h := range_all hal hil
   simp only [Bool.and_eq_true, Bool.or_eq_true] at h
   rcases h.1 with h | h
   ·rw [hd i hil h] at huni; cases huni
   ·exact h
  have hGi := (hG i o ho').2.1
  rw [Nat.zero_add] at hGi
  obtain ⟨hgn, hop, d, hdd, hdN⟩ := hGi hali
  refine hi.stepP hG0 hGO hokP hil ho' huni hready hdd hdN hgn hop fun a' w' h => ih _ a' w' hu' h (fun j hj q => ?_) (fun j hj q => ?_)
  ·rw [getD_set (by rw [hi.lsize]; exact hil)]
   split
   ·rfl
   ·exact hd j hj q
  ·have h := range_all hal hj
   simp only [Bool.and_eq_true, q, Bool.not_true] at h
   cases h.2
def Agree (late : Nat → Bool) : Nat → List Ty → List Ty → Prop
 | _, [], [] => True
 | i, A :: As, B :: Bs => (late i = true ∨ A = B) ∧ Agree late (i + 1) As Bs
 | _, _, _ => False
theorem Agree.spec {late : Nat → Bool} : ∀ {k : Nat} {As Bs : List Ty}, Agree late k As Bs → ∀ i, late (k + i) = false → tyAt As i = tyAt Bs i
 | _, [], [], _, i, _ => rfl
 | _, [], _ :: _, h, _, _ => h.elim
 | _, _ :: _, [], h, _, _ => h.elim
 | k, A :: As, B :: Bs, h, 0, hl => by
  rcases h.1 with q | q
  ·rw [Nat.add_zero] at hl; rw [hl] at q; cases q
  ·exact q
 | k, A :: As, B :: Bs, h, i + 1, hl => by
  have := h.2.spec i (by rw [show k + 1 + i = k + (i + 1) by omega]; exact hl)
  exact this
def okStep (all : List Oper) (C : Nat → Bool) (dn un al : Nat → Bool) : Bool :=
 ((List.range all.length).any C) && ((List.range all.length).all fun i => !C i || un i) &&
 ((List.range all.length).all fun i => !(al i && un i)) &&
 (List.range all.length).all fun i => dn i || al i || C i || (List.range i).any fun j => opAtB all i (backTo · j) && (C j || !(dn j || al j))
def okNext (all : List Oper) (n : Nat) (dn un dn' un' : Nat → Bool) : Bool :=
 ((List.range all.length).all fun i => !un' i || (un i && !Nat.beq i n)) &&
 (List.range all.length).all fun i => !dn' i || Nat.beq i n || dn i || (List.range (n + 1)).any fun j => Nat.blt i j && opAtB all j (backTo · i) && (Nat.beq j n || dn' j)
def putG (d : Option Nat) (T : Ty) (Γ : Gam) : Gam := match d with
 | some d => (d, T) :: Γ
 | none => Γ
def OneStep (X : Cx) (Q : Exit → Act → World → Prop) (all : List Oper) (Γ : Gam) (H : Hp) (Ts : List Ty) (dn un al : Nat → Bool) (Γn : Gam) (n : Nat) : Prop :=
 ∃ (ι : Type) (Hb : ι → Hp) (Tb : ι → List Ty) (dn' un' : Nat → Bool) (os : Oper), all[n]? = some os ∧ os.guard = none ∧ (∀ k, Agree (fun i => Nat.beq i n || !(dn i || al i)) 0 Ts (Tb k)) ∧ okNext all n dn un dn' un' = true ∧
  (∀ Γx, (∀ x U, x ∈ readsOf all os → look Γn x = some U → look Γx x = some U) → J X all.toArray (fun e a w => e = .normal ∧ ∃ k, Sat X (putG os.dst (tyAt (Tb k) n) Γx) (Hb k) a w) [os] Γx H) ∧
  ∀ k, RP X Q all Γ (Hb k) (Tb k) dn' un'
theorem OneStep.mk {ι : Type} {Hb : ι → Hp} {Tb : ι → List Ty} {all : List Oper} {Ts : List Ty} {dn un al : Nat → Bool} {Γn : Gam} {n : Nat} {os : Oper} (dn' un' : Nat → Bool) (hos : all[n]? = some os) (hg : os.guard = none) (hag : ∀ k, Agree (fun i => Nat.beq i n || !(dn i || al i)) 0 Ts (Tb k)) (hnx : okNext all n dn un dn' un' = true)
  (hop : ∀ Γx, (∀ x U, x ∈ readsOf all os → look Γn x = some U → look Γx x = some U) → J X all.toArray (fun e a w => e = .normal ∧ ∃ k, Sat X (putG os.dst (tyAt (Tb k) n) Γx) (Hb k) a w) [os] Γx H) (next : ∀ k, RP X Q all Γ (Hb k) (Tb k) dn' un') : OneStep X Q all Γ H Ts dn un al Γn n :=
 ⟨ι, Hb, Tb, dn', un', os, hos, hg, hag, hnx, hop, next⟩
theorem RP.cands {all : List Oper} {Ts : List Ty} {dn un al : Nat → Bool} {G : Nat → Gam} (C : Nat → Bool) (hok : okAll all = true) (hst : okStep all C dn un al = true) (hG0 : G 0 = Γ) (hGO : GPok all (tyAt Ts) G all.length)
  (hG : ∀ i o, all[i]? = some o → al i = true → o.guard = none ∧ OpTy X (G i) H o (tyAt Ts i) ∧ ∃ d, o.dst = some d ∧ d < X.N)
  (hC : ∀ n, n < all.length → C n = true → OneStep X Q all Γ H Ts dn un al (G n) n) : RP X Q all Γ H Ts dn un := by
 simp only [okAll, Bool.and_eq_true] at hok
 have hokP : ∀ i j, i < all.length → j < all.length → okPair all i j = true := fun i j hi hj => range_all (range_all hok.2 hi) hj
 simp only [okStep, Bool.and_eq_true] at hst
 obtain ⟨⟨⟨s1, s2⟩, s3⟩, s4⟩ := hst
 obtain ⟨n0, hn0, hC0⟩ := List.any_eq_true.1 s1
 have hn0 := List.mem_range.1 hn0
 have hCun : ∀ j, j < all.length → C j = true → un j = true := fun j hj q => by
  have h := range_all s2 hj
  rw [q] at h; simpa using h
 intro fuel
 induction fuel with
 | zero =>
  intro listed a w hu hi hd hun
  have hm : n0 ∈ (List.range all.length).filter fun i => !listed.getD i true := List.mem_filter.2 ⟨List.mem_range.2 hn0, by rw [getD_both (by rw [hi.lsize]; omega) true false, hun n0 hn0 (hCun n0 hn0 hC0)]; rfl⟩
  have : 0 < unl listed all.length := List.length_pos_of_mem hm
  omega
 | succ fuel ih =>
  intro listed a w hu hi hd hun
  have hCn : ∀ j, C j = true → listed.getD j false = false := fun j q => by
   rcases Nat.lt_or_ge j all.length with h | h
   ·exact hun j h (hCun j h q)
   ·rw [Array.getD_eq_getD_getElem?, Array.getElem?_eq_none (by rw [hi.lsize]; exact h)]; rfl
  refine ⟨fun hr => absurd hr (ready_some hok.1 hi.lsize hn0 (hCn n0 hC0)), fun i hir => ?_⟩
  obtain ⟨hunl, o, ho, hready⟩ := mem_ready.1 hir
  have ho' : all[i]? = some o := by simpa using ho
  have hil : i < all.length := (List.getElem?_eq_some_iff.1 ho').1
  have hls := hi.lsize
  have huni : listed.getD i false = false := by rw [getD_both (by rw [hls]; omega) false true]; exact hunl
  have hu' : unl (listed.setIfInBounds i true) all.length ≤ fuel := by
   have := unl_set hil hls hunl
   omega
  have hset : ∀ j, (listed.setIfInBounds i true).getD j false = if i = j then true else listed.getD j false := fun j => by rw [getD_set (by rw [hls]; exact hil)]
  -- an operation that hangs on the n-th
  have dep : ∀ j oj, j < all.length → all[j]? = some oj → dn j = false → al j = false → C j = false → ∃ k, k < j ∧ backTo oj k = true ∧ (C k = true ∨ (dn k = false ∧ al k = false)) := fun j oj hj hoj q1 q2 q3 => by
   have h := range_all s4 hj
   simp only [q1, q2, q3, Bool.false_or] at h
   obtain ⟨k, hk, hkk⟩ := List.any_eq_true.1 h
   simp only [Bool.and_eq_true, Bool.or_eq_true, nat_beq, Bool.not_eq_true', Bool.or_eq_false_iff] at hkk
   exact ⟨k, List.mem_range.1 hk, by have := hkk.1; simpa [opAtB, hoj] using this, hkk.2⟩
  have late : ∀ m j, j ≤ m → j < all.length → dn j = false → al j = false → C j = false → listed.getD j false = false := by
   intro m
   induction m with
   | zero =>
    intro j q0 q1 q2 q3 q4
    obtain ⟨k, k1, _⟩ := dep j all[j] q1 (List.getElem?_eq_getElem q1) q2 q3 q4
    omega
   | succ m ihm =>
    intro j q0 q1 q2 q3 q4
    cases hb : listed.getD j false with
    | false => rfl
    | true =>
     obtain ⟨k, k1, k2, k3⟩ := dep j all[j] q1 (List.getElem?_eq_getElem q1) q2 q3 q4
     obtain ⟨e, he, hbd, hon⟩ := backTo_spec k2
     have hc := hi.closed j all[j] (List.getElem?_eq_getElem q1) hb e he hbd
     rw [hon] at hc
     rcases k3 with k3 | k3
     ·rw [hCn k k3] at hc; cases hc
     ·cases e2 : C k with
      | true => rw [hCn k e2] at hc; cases hc
      | false => rw [ihm k (by omega) (by omega) k3.1 k3.2 e2] at hc; cases hc
  cases hin : C i with
  | true =>
   obtain ⟨ι, Hb, Tb, dn', un', os, hos, hg, hag, hnx, hop, next⟩ := hC i hil hin
   simp only [okNext, Bool.and_eq_true] at hnx
   obtain ⟨s5, s6⟩ := hnx
   have hnn := hCn i hin
   rw [hos] at ho'
   have eo := Option.some.inj ho'
   subst eo
   have hsat := hi.known
   have hrd : ∀ x U, x ∈ readsOf all os → look (G i) x = some U → look (Go.Rt.known all all.length (tyAt Ts) listed Γ) x = some U := fun x U hx hU => by
    rcases hGO.look i (by omega) x U hU with ⟨j, hj, hd', rfl⟩ | ⟨hno, hU0⟩
    ·obtain ⟨oj, q1, q2⟩ := Option.bind_eq_some_iff.1 hd'
     obtain ⟨e, he, hb, hon⟩ := backTo_spec ((okPair_read (hokP i j hil (by omega)) hos q1 q2 hx).1 hj)
     exact known_new (by omega) (by rw [← hon]; exact hready e he hb) hd' fun k hkl hkj => okPair_dst (hokP j k (by omega) hkl) (Ne.symm hkj) hd'
    ·rw [hG0] at hU0
     refine known_old hU0 fun j hjl hl hd' => ?_
     rcases Nat.lt_trichotomy j i with q | q | q
     ·exact hno j q hd'
     ·subst q; rw [hnn] at hl; cases hl
     ·obtain ⟨oj, q1, q2⟩ := Option.bind_eq_some_iff.1 hd'
      obtain ⟨e, he, hb, hon⟩ := backTo_spec ((okPair_read (hokP i j hil hjl) hos q1 q2 hx).2 q)
      have := hi.closed j oj q1 hl e he hb
      rw [hon, hnn] at this; cases this
   have hty := hop _ hrd a w hsat
   unfold wpN at hty
   rw [if_pos (wanted_none hg _)] at hty
   unfold wpOp
   simp only [ho]
   rw [if_pos (wanted_none hg _)]
   refine .inl (upon_mono1 (fun e a w q => q.1) (fun a' w' q => ?_) _ hty)
   unfold wpN at q
   obtain ⟨_, k, hs'⟩ := q
   have hne : ∀ x, dstAt all i ≠ some x → ∀ U, look (Go.Rt.known all all.length (tyAt Ts) listed Γ) x = some U → U.p (a'.tmps.getD x undef) ⟨w', mask X.M0 (Hb k)⟩ := fun x hx U hU => by
    refine hs'.slots x U ?_
    have hdo : dstAt all i = os.dst := by simp [dstAt, hos]
    rw [hdo] at hx
    cases hd' : os.dst with
    | none => exact hU
    | some d =>
     rw [hd'] at hx
     show look ((d, _) :: _) x = some U
     rw [look_cons]
     have : Nat.beq d x = false := by
      cases hb : Nat.beq d x with
      | false => rfl
      | true => exact absurd (by rw [nat_beq.1 hb]) hx
     rw [this]; exact hU
   have hearly : ∀ j, j < all.length → j ≠ i → listed.getD j false = true → dn j = true ∨ al j = true := fun j hj hji hl => by
    cases h1 : dn j with
    | true => exact .inl rfl
    | false =>
     cases h2 : al j with
     | true => exact .inr rfl
     | false =>
      cases h3 : C j with
      | true => rw [hCn j h3] at hl; cases hl
      | false => rw [late j j (Nat.le_refl _) hj h1 h2 h3] at hl; cases hl
   refine next k _ _ a' w' hu' ⟨hs'.size, hs'.defers, hs'.m0, hs'.below, hs'.hp, by simp [hls], fun j oj hj hl e he hbd => ?_, fun j x hj hl hx => ?_, fun x U hU hno => ?_⟩ (fun j hj q => ?_) (fun j hj q => ?_)
   ·rw [hset] at hl ⊢
    by_cases hij : i = j
    ·subst hij
     rw [hos] at hj; cases hj
     split
     ·rfl
     ·exact hready e he hbd
    ·rw [if_neg hij] at hl
     split
     ·rfl
     ·exact hi.closed j oj hj hl e he hbd
   ·by_cases hji : j = i
    ·subst hji
     have hdo : dstAt all j = os.dst := by simp [dstAt, hos]
     rw [hdo] at hx
     have := hs'.slots x (tyAt (Tb k) j) (by rw [hx]; show look ((x, _) :: _) x = _; rw [look_cons, Nat.beq_refl]; rfl)
     exact this
    ·rw [hset, if_neg (Ne.symm hji)] at hl
     have hag' := (hag k).spec j (by
      rw [Nat.zero_add]
      have hb : Nat.beq j i = false := by cases hb : Nat.beq j i with
       | false => rfl
       | true => exact absurd (nat_beq.1 hb) hji
      rcases hearly j hj hji hl with h | h <;> simp [hb, h])
     rw [← hag']
     exact hne x (fun e => okPair_dst (hokP j i hj hil) hji hx e) _ (known_new hj hl hx fun m hm hmj => okPair_dst (hokP j m hj hm) (Ne.symm hmj) hx)
   ·refine hne x (fun e => hno i hil (by rw [hset, if_pos rfl]) e) _ (known_old hU fun m hm hl => hno m hm ?_)
    rw [hset]; split
    ·rfl
    ·exact hl
   ·-- what must have run by now
    have key : ∀ m j, i - j ≤ m → j < all.length → dn' j = true → (listed.setIfInBounds i true).getD j false = true := by
     intro m
     induction m with
     | zero =>
      intro j q0 hj q
      have h := range_all s6 hj
      simp only [q, Bool.not_true, Bool.false_or, Bool.or_eq_true, nat_beq] at h
      rw [hset]
      rcases h with (h | h) | h
      ·rw [if_pos h.symm]
      ·split
       ·rfl
       ·exact hd j hj h
      ·obtain ⟨k', hk', hkk⟩ := List.any_eq_true.1 h
       simp only [Bool.and_eq_true, nat_blt] at hkk
       have := List.mem_range.1 hk'; omega
     | succ m ihm =>
      intro j q0 hj q
      have h := range_all s6 hj
      simp only [q, Bool.not_true, Bool.false_or, Bool.or_eq_true, nat_beq] at h
      rw [hset]
      rcases h with (h | h) | h
      ·rw [if_pos h.symm]
      ·split
       ·rfl
       ·exact hd j hj h
      ·obtain ⟨k', hk', hkk⟩ := List.any_eq_true.1 h
       simp only [Bool.and_eq_true, nat_blt, Bool.or_eq_true, nat_beq] at hkk
       have hkl := List.mem_range.1 hk'
       have hkal : k' < all.length := by omega
       obtain ⟨e, he, hbd, hon⟩ := backTo_spec (o := all[k']) (i := j) (by have := hkk.1.2; simpa [opAtB, List.getElem?_eq_getElem hkal] using this)
       split
       ·rfl
       ·rename_i hij
        by_cases e2 : k' = i
        ·subst e2
         have e3 : all[k'] = os := by have := List.getElem?_eq_getElem hkal; rw [hos] at this; exact (Option.some.inj this).symm
         have := hready e (e3 ▸ he) hbd
         rw [hon] at this; exact this
        ·have hl := ihm k' (by omega) hkal (hkk.2.resolve_left e2)
         rw [hset, if_neg (Ne.symm e2)] at hl
         have := hi.closed k' all[k'] (List.getElem?_eq_getElem hkal) hl e he hbd
         rw [hon] at this; exact this
    exact key (i - j) j (Nat.le_refl _) hj q
   ·have h := range_all s5 hj
    simp only [q, Bool.not_true, Bool.false_or, Bool.and_eq_true, Bool.not_eq_true'] at h
    rw [hset, if_neg (fun e => by rw [nat_beq.2 e.symm] at h; cases h.2)]
    exact hun j hj h.1
  | false =>
   have hali : al i = true := by
    cases h1 : al i with
    | true => rfl
    | false =>
     cases h2 : dn i with
     | true => rw [hd i hil h2] at huni; cases huni
     | false =>
      obtain ⟨k, k1, k2, k3⟩ := dep i o hil ho' h2 h1 hin
      obtain ⟨e, he, hbd, hon⟩ := backTo_spec k2
      have hc := hready e he hbd
      rw [hon] at hc
      cases e2 : C k with
      | true => rw [hCn k e2] at hc; cases hc
      | false =>
       have := k3.resolve_left (by rw [e2]; decide)
       rw [late k k (Nat.le_refl _) (by omega) this.1 this.2 e2] at hc; cases hc
   obtain ⟨hgn, hopi, d, hdd, hdN⟩ := hG i o ho' hali
   refine hi.stepP hG0 hGO hokP hil ho' huni hready hdd hdN hgn hopi fun a' w' h => ih _ a' w' hu' h (fun j hj q => ?_) (fun j hj q => ?_)
   ·rw [hset]
    split
    ·rfl
    ·exact hd j hj q
   ·rw [hset, if_neg (fun e => ?_)]
    ·exact hun j hj q
    ·subst e
     have h := range_all s3 hil
     rw [hali, q] at h; cases h
theorem TP.cand {al : Nat → Bool} {n : Nat} {Γn Γ' : Gam} {all : List Oper} {Ts : List Ty} (ht : TP X H al n Γn 0 Γ all Ts Γ') : ∃ G : Nat → Gam, G 0 = Γ ∧ GPok all (tyAt Ts) G all.length ∧ (∀ i o, all[i]? = some o → al i = true → o.guard = none ∧ OpTy X (G i) H o (tyAt Ts i) ∧ ∃ d, o.dst = some d ∧ d < X.N) ∧ (n < all.length → G n = Γn) := by
 obtain ⟨G, hG0, hGn, _, hG⟩ := ht.seq
 refine ⟨G, hG0, fun i hi => ?_, fun i o ho ha => ?_, fun hn => (hG n all[n] (List.getElem?_eq_getElem hn)).2.2 (Nat.zero_add n)⟩
 ·rcases (hG i all[i] (List.getElem?_eq_getElem hi)).1 with ⟨d, h1, h2⟩ | ⟨h1, h2⟩
  ·exact .inl ⟨d, by simp [dstAt, List.getElem?_eq_getElem hi, h1], h2⟩
  ·exact .inr ⟨by simp [dstAt, List.getElem?_eq_getElem hi, h1], h2⟩
 ·have := (hG i o ho).2.1
  rw [Nat.zero_add] at this
  exact this ha
theorem RP.step {all : List Oper} {Ts : List Ty} {dn un al : Nat → Bool} {Γn Γ' : Gam} (n : Nat) (hok : okAll all = true) (hst : okStep all (Nat.beq · n) dn un al = true) (ht : TP X H al n Γn 0 Γ all Ts Γ') (next : OneStep X Q all Γ H Ts dn un al Γn n) : RP X Q all Γ H Ts dn un := by
 obtain ⟨G, g0, g1, g2, g3⟩ := ht.cand
 refine RP.cands (Nat.beq · n) hok hst g0 g1 g2 fun m hm hb => ?_
 have := nat_beq.1 hb
 subst this
 rw [g3 hm]; exact next
theorem RP.two {all : List Oper} {Ts : List Ty} {dn un al : Nat → Bool} {Γn Γ' : Gam} (n m : Nat) (hok : okAll all = true) (hst : okStep all (fun i => Nat.beq i n || Nat.beq i m) dn un al = true) (ht : TP X H al n Γn 0 Γ all Ts Γ')
  (next : OneStep X Q all Γ H Ts dn un al [] n) (next2 : OneStep X Q all Γ H Ts dn un al [] m) : RP X Q all Γ H Ts dn un := by
 obtain ⟨G, g0, g1, g2, g3⟩ := ht.cand
 have weak : ∀ {k : Nat} {Γn : Gam}, OneStep X Q all Γ H Ts dn un al [] k → OneStep X Q all Γ H Ts dn un al Γn k := fun ⟨ι, Hb, Tb, dn', un', os, h1, h2, h3, h4, h5, h6⟩ => ⟨ι, Hb, Tb, dn', un', os, h1, h2, h3, h4, fun Γx _ => h5 Γx (fun x U _ hU => (by cases hU)), h6⟩
 refine RP.cands _ hok hst g0 g1 g2 fun k hk hb => ?_
 simp only [Bool.or_eq_true] at hb
 rcases hb with hb | hb
 ·have := nat_beq.1 hb
  subst this; exact weak next
 ·have := nat_beq.1 hb
  subst this; exact weak next2
theorem mem_swap {e e1 e2 : HEnt} (h : e ∈ e1 :: e2 :: H) : e ∈ e2 :: e1 :: H := by
 simp only [List.mem_cons] at h ⊢
 rcases h with h | h | h
 ·exact .inr (.inl h)
 ·exact .inl h
 ·exact .inr (.inr h)
theorem Sat.swap {e1 e2 : HEnt} {a : Act} {w : World} (h : Sat X Γ (e1 :: e2 :: H) a w) : Sat X Γ (e2 :: e1 :: H) a w := by
 have hm : mask X.M0 (e1 :: e2 :: H) = mask X.M0 (e2 :: e1 :: H) := by
  funext k
  refine propext ⟨fun h => ?_, fun h => ?_⟩
  ·rcases h with h | ⟨e, he, h⟩
   ·exact .inl h
   ·exact .inr ⟨e, mem_swap he, h⟩
  ·rcases h with h | ⟨e, he, h⟩
   ·exact .inl h
   ·exact .inr ⟨e, mem_swap he, h⟩
 refine ⟨h.size, h.defers, h.m0, h.below, fun i T hi => hm ▸ h.slots i T hi, fun e he => ?_, ?_⟩
 ·obtain ⟨q1, cs, q2, q3⟩ := h.hp.1 e (mem_swap he)
  exact ⟨q1, cs, q2, hm ▸ q3⟩
 ·have := h.hp.2
  simp only [List.map_cons, List.pairwise_cons, List.mem_cons, forall_eq_or_imp] at this ⊢
  exact ⟨⟨fun e => this.1.1 e.symm, this.2.1⟩, this.1.2, this.2.2⟩
theorem JC.drawP {id : Nat} {l : List Oper} {Ts : List Ty} {un : Nat → Bool} (hm : X.P.follows .mixedOrders = true) (hns : Region.noSelect l.toArray = true) (h : RP X Q l Γ H Ts (fun _ => false) un) : JC X (.region id l.toArray true) Q Γ H := by
 intro a w hs
 refine wp_region_any hm ?_
 have hb : Below w.heap.size w { w with drawn := w.drawn + 1 } := (Below.refl _ w).drew
 have hl0 : ∀ i, (Array.replicate l.length false).getD i false = false := fun i => by simp only [Array.getD_eq_getD_getElem?, Array.getElem?_replicate]; split <;> rfl
 have := h l.length (Array.replicate l.length false) a { w with drawn := w.drawn + 1 }
  (by have := List.length_filter_le (fun i => !(Array.replicate l.length false).getD i true) (List.range l.length); simpa [unl] using this)
  (RInv.start (hs.ext hb)) (fun i _ q => by cases q) (fun i _ _ => hl0 i)
 simpa using this
theorem J.midP {ι : Type} {Hb : ι → Hp} {Tb : ι → List Ty} {d : Option Nat} {n : Nat} {l : List Oper} {Γ' : Gam} (k : ι) (hΓ : Γ' = putG d (tyAt (Tb k) n) Γ) : J X l.toArray (fun e a w => e = .normal ∧ ∃ k, Sat X (putG d (tyAt (Tb k) n) Γ) (Hb k) a w) [] Γ' (Hb k) := fun a w hs => by
 subst hΓ; unfold wpN; exact ⟨rfl, k, hs⟩
theorem tm_at {t : Tm} {i : Nat} {n : Int} (h : n.toNat = i) (hi : i < 4) : ∀ cs s, (cDrop (cEnc encTm t) 2).p cs s → ∃ v, cs[n.toNat]? = some v ∧ (tIs (.int .i64 (t.exp.at i))).p v s := by
 subst h
 rintro cs s ⟨ds, ⟨_, hc⟩, rfl⟩
 have h2 : (tmT t)[2 + n.toNat]? = some (tIs (.int .i64 (t.exp.at n.toNat))) := by
  generalize n.toNat = i at hi
  match i, hi with
  | 0, _ => rfl
  | 1, _ => rfl
  | 2, _ => rfl
  | 3, _ => rfl
 obtain ⟨v, h3, h4⟩ := cTs_ld h2 ds s hc
 exact ⟨v, by rw [List.getElem?_drop]; exact h3, h4⟩
end Go.Rt
namespace Go.Rt
open Go Go.RowKit Go.ChangeShapes Go.WideShapes
structure TermTy (P : Program) (tS tT tM tZ : TypeId) (tI : TypeId) : Prop where
 s : P.underlying tS = some (.slice tT)
 t : ∃ g0 g1 : Field, P.underlying tT = some (.struct #[g0, g1]) ∧ g0.type = tI ∧ g0.offset = 0 ∧ g1.type = tM ∧ g1.offset = 2
 m : P.underlying tM = some (.array 4 tZ)
 cS : P.cellsOf tS = 1
 cT : P.cellsOf tT = 6
 cM : P.cellsOf tM = 4
section bring
variable {H : Type} {enc : TypeId × Value → H} {P : Program} {w : World} {sp : Nat → Bool} {held : Bool} {fuel : Nat} {cs : List Value} {x : DataW H × List MemPlace}
variable {tP tI tL tN tZ tB tU tS tT tM : TypeId}
theorem bringM (T : PolTy P tP tI tL tN tZ tB tU) (S : TermTy P tS tT tM tZ tI) (h : DataW.trod enc P w 0 sp held fuel tM cs = some x) : ∃ m : Mo, cellsP (moT m) cs (stW w) := by
 obtain ⟨xs, m, _, _, hl, hlen, hx⟩ := DataW.trod_array S.m h
 rw [S.cM] at hl
 match cs, hl with
 | [a, b, c, d], _ =>
  have g : ∀ i, i < 4 → ∃ n, [[a], [b], [c], [d]][i]? = some [.int .i64 n] := fun i hi => by
   have h1 := hx i hi
   rw [T.cZ, List.getElem?_eq_getElem (by omega), Nat.mul_one] at h1
   obtain ⟨n, h2, _, h3⟩ := DataW.trod_int T.z h1
   refine ⟨n, ?_⟩
   match i, hi with
   | 0, _ => simpa using h2
   | 1, _ => simpa using h2
   | 2, _ => simpa using h2
   | 3, _ => simpa using h2
  obtain ⟨n0, e0⟩ := g 0 (by decide)
  obtain ⟨n1, e1⟩ := g 1 (by decide)
  obtain ⟨n2, e2⟩ := g 2 (by decide)
  obtain ⟨n3, e3⟩ := g 3 (by decide)
  simp at e0 e1 e2 e3
  subst e0; subst e1; subst e2; subst e3
  exact ⟨⟨n0, n1, n2, n3⟩, rfl, rfl, rfl, rfl, rfl, rfl, rfl, rfl, trivial⟩
theorem bringT (T : PolTy P tP tI tL tN tZ tB tU) (S : TermTy P tS tT tM tZ tI) (h : DataW.trod enc P w 0 sp held fuel tT cs = some x) : ∃ t : Tm, encTm.C t cs (stW w) ∧ Digs t.coef.abs := by
 obtain ⟨g0, g1, hu, e0, o0, e1, o1⟩ := S.t
 obtain ⟨xs, n, rfl, rfl, hl, hlen, hf⟩ := DataW.trod_struct hu h
 rw [S.cT] at hl
 match cs, hl with
 | [a, b, c, d, e, f], _ =>
  have h0 := hf 0 g0 rfl
  have h1 := hf 1 g1 rfl
  rw [e0, o0, T.cI] at h0
  rw [e1, o1, S.cM] at h1
  have hs : xs.length = 2 := hlen
  rw [List.getElem?_eq_getElem (by omega)] at h0 h1
  obtain ⟨z, hz, hd⟩ := bringI T h0
  obtain ⟨m, hm⟩ := bringM T S h1
  have hz' : cellsP (zT z) [a, b] (stW w) := hz
  have hm' : cellsP (moT m) [c, d, e, f] (stW w) := hm
  exact ⟨⟨z, m⟩, ⟨rfl, hz'.1, hz'.2.1, hz'.2.2.1, hz'.2.2.2.1, hm'⟩, hd⟩
theorem bring_terms (T : PolTy P tP tI tL tN tZ tB tU) (S : TermTy P tS tT tM tZ tI) {r : Reach} {b0 : Nat} {v : Value} {d : DataW H} {ps : List MemPlace} (hval : Value.okWide P w r b0 tS v) (h : DataW.Trod enc P w 0 sp held tS v d ps) :
  ∃ ts : List Tm, (tSl encTm ts).p v (stW w) ∧ ∀ t ∈ ts, Digs t.coef.abs := by
 obtain ⟨fuel, hf⟩ := h
 rcases DataW.trod_slice S.s hf with ⟨hd, _⟩ | ⟨ad, len, cap, elems, rest, n', rfl, hd, _, _, hlc, _, hel, hx, _, _⟩
 ·have hv : v = .slice none 0 0 := by
   obtain ⟨a, n, c, rfl⟩ := okWide_slice S.s hval
   simpa [Value.cells] using hd
  subst hv
  exact ⟨[], slP_nil _ _, fun t ht => by cases ht⟩
 ·have hv : v = .slice (some ad) len cap := by
   obtain ⟨a, n, c, rfl⟩ := okWide_slice S.s hval
   simpa [Value.cells] using hd
  subst hv
  have hx' : ∀ i, i < len → ∃ q : Tm, (∃ cs', w.cells? 0 (ad.add (i * 6)) 6 = some cs' ∧ encTm.C q cs' (stW w)) ∧ Digs q.coef.abs := fun i hi => by
   have h3 := hx i hi
   rw [S.cT, List.getElem?_eq_getElem (by omega)] at h3
   obtain ⟨cs', h4, h5⟩ := Option.bind_eq_some_iff.1 h3
   obtain ⟨q, hq1, hq2⟩ := bringT T S h5
   exact ⟨q, ⟨cs', h4, hq1⟩, hq2⟩
  haveI : Inhabited Tm := ⟨t0⟩
  obtain ⟨F, hF⟩ := Deep.choose_lt (α := Tm) hx'
  refine ⟨(List.range len).map F, ⟨some ad, len, cap, rfl, by simp, hlc, fun hne => ?_⟩, fun p hp => ?_⟩
  ·have hl0 : 0 < len := by
    rcases Nat.eq_zero_or_pos len with q | q
    ·subst q; exact absurd rfl hne
    ·exact q
   obtain ⟨⟨cs0, hc0, _⟩, _⟩ := hF 0 hl0
   obtain ⟨_, hl4, hcell⟩ := World.cells?_some hc0
   have h00 := hcell 0 (by decide)
   rw [List.getElem?_eq_getElem (by omega)] at h00
   have ha : ad = ⟨ad.block, ad.off, none⟩ := spot_none (a := ad) (by simpa [Addr.add] using h00)
   refine ⟨ad.block, ad.off, by rw [← ha], fun i p hp => ?_⟩
   have hi : i < len := by
    have := (List.getElem?_eq_some_iff.1 hp).1
    simpa using this
   have hpF : p = F i := by
    rw [List.getElem?_map, List.getElem?_range hi] at hp
    simp only [Option.map_some, Option.some.injEq] at hp
    exact hp.symm
   subst hpF
   obtain ⟨⟨cs', hc', hC⟩, _⟩ := hF i hi
   obtain ⟨_, hl', hcell'⟩ := World.cells?_some hc'
   refine ⟨cs', hC, fun j u hu => ⟨?_, fun h => h⟩⟩
   have hj := (List.getElem?_eq_some_iff.1 hu).1
   have h6 := hcell' j (by omega)
   rw [ha, add_plain, add_plain, hu] at h6
   exact h6
  ·obtain ⟨i, hi, rfl⟩ := List.mem_map.1 hp
   exact (hF i (List.mem_range.1 hi)).2
end bring
section z2
variable {X : Cx} {Γ : Gam} {H : Hp}
variable {dst : Option Tmp} {ty : TypeId} {pos : String} {af : Array Edge} {gd : Option (Nat × Bool)}
end z2
section bring2
variable {H : Type} {enc : TypeId × Value → H} {P : Program} {w : World} {sp : Nat → Bool} {held : Bool}
variable {tP tI tL tN tZ tB tU : TypeId}
end bring2
section fieldV
variable {X : Cx} {Γ : Gam} {H : Hp}
variable {dst : Option Tmp} {ty : TypeId} {pos : String} {af : Array Edge} {gd : Option (Nat × Bool)}
theorem ot_fieldV {α : Type} {n : Nat} {F : α → List Ty} {z : α} {t f off ft : Nat} {x : Operand} {T : Ty} (hx : OpT Γ x (tV (encF n F) z)) (hf : fdB X.P t f = some (off, ft)) (hsc : scalB X.P ft = true) (hT : (F z)[off]? = some T) :
  OpTy X Γ H ⟨dst, .field t x f, ty, pos, af, gd⟩ T :=
 ot_field_scal (R := cEnc (encF n F) z) (.sub hx fun v s h => by
  obtain ⟨h1, h2⟩ := h
  cases v with
  | agg a => exact ⟨a.toList, by simp, h2⟩
  | _ => exact absurd h1 (by simp [Value.isAgg, encF])) hf hsc fun cs s h => cTs_ld hT cs s h.2
end fieldV
end Go.Rt
namespace Go.Rt
open Go Go.RowKit
variable {X : Cx} {ops : Array Oper} {Q : Exit → Act → World → Prop} {rest all : List Oper} {Γ Γ' : Gam} {H : Hp} {u : Oper} {T : Ty} {d n : Nat}
variable {dst : Option Tmp} {ty : TypeId} {pos : String} {af : Array Edge} {gd : Option (Nat × Bool)}
theorem OpT.t (h : look Γ n = some T) : OpT Γ (.tmp n) T := .tmp h
theorem J.M (h : look Γ n = some T) (hc : opOk X.N ⟨dst, .move (.tmp n), ty, pos, af, gd⟩ = some d) (next : J X ops Q rest ((d, T) :: Γ) H) : J X ops Q (⟨dst, .move (.tmp n), ty, pos, af, gd⟩ :: rest) Γ H := J.m (.tmp h) hc next
theorem J.A (h : look Γ n = some T) (hc : opOk X.N ⟨dst, .assign (.tmp n), ty, pos, af, gd⟩ = some d) (next : J X ops Q rest ((d, T) :: Γ) H) : J X ops Q (⟨dst, .assign (.tmp n), ty, pos, af, gd⟩ :: rest) Γ H := J.a (.tmp h) hc next
theorem TW.M (h : look Γ n = some T) (hc : opOk X.N ⟨dst, .move (.tmp n), ty, pos, af, gd⟩ = some d) (next : TW X H all ((d, T) :: Γ) rest Γ') : TW X H all Γ (⟨dst, .move (.tmp n), ty, pos, af, gd⟩ :: rest) Γ' := TW.m (.tmp h) hc next
theorem J.e {c : Code} {Q' : Exit → Act → World → Prop} (h : JC X c Q Γ H) : J X ops (Exit.then (c.wp X.P Q) Q') [] Γ H := J.nil (JQ.then_normal h)
theorem JC.g {id : Nat} {l : List Oper} {y : Code} (h : J X l.toArray (Exit.then (y.wp X.P Q) Q) l Γ H) : JC X (.seq (.region id l.toArray false) y) Q Γ H := JC.seq (JC.region h)
abbrev zP : List Ty := [tIs (.int .i64 (0)), tIs (.bool (false)), tSl encD ([]), tSl encP ([])]
def AllS (Γ : Gam) : Gam → Prop
 | [] => True
 | (i, T) :: r => OpT Γ (.tmp i) T ∧ AllS Γ r
theorem sub_l : ∀ {Γ' : Gam}, AllS Γ Γ' → ∀ a w, Sat X Γ H a w → Sat X Γ' H a w
 | [], _ => sub_nil
 | (i, T) :: r, h => sub_cons h.1 (sub_l h.2)
theorem HSub.k {e : HEnt} {H H' : Hp} (h : HSub H H') : HSub (e :: H) (e :: H') := .keep (fun _ _ h => h) h
abbrev pT (p : Pol) : List Ty := [tIs (.int .i64 p.lv), tIs (.bool p.c.neg), tSl encD p.c.abs, tSl encP p.cs]
abbrev iT (z : Z) : List Ty := [tIs (.bool z.neg), tSl encD z.abs]
end Go.Rt
