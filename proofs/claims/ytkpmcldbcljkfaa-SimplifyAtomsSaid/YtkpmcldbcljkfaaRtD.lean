/- The logic of the walks, part D: a statement whose order is open. Each operation but a last one is typed once, in the order of the text; what is found holds in whatever order they run. Conditions: none; nothing of a program stands here. -/
import Derived.Test.YtkpmcldbcljkfaaRtC
set_option linter.unusedVariables false
set_option linter.unusedSimpArgs false
namespace Go.Rt
open Go Go.RowKit

variable {X : Cx} {Q : Exit → Act → World → Prop} {rest : List Oper} {Γ : Gam} {H : Hp}

/-- Operation i comes before o. -/
def backTo (o : Oper) (i : Nat) : Bool := o.after.toList.any fun e => Region.binds .any e && Nat.beq e.on i

def guardSlot (all : List Oper) (o : Oper) : List Nat := match o.guard with
  | some (g, _) => ((all[g]?).bind (·.dst)).toList
  | none => []
def readsOf (all : List Oper) (o : Oper) : List Nat := slotsOf o ++ guardSlot all o
def dstAt (all : List Oper) (i : Nat) : Option Nat := (all[i]?).bind (·.dst)

def opAtB (all : List Oper) (i : Nat) (p : Oper → Bool) : Bool := match all[i]? with
  | some o => p o
  | none => true

def okEdges (all : List Oper) : Bool := (List.range all.length).all fun i => opAtB all i fun o => o.after.toList.all fun e => !Region.binds .any e || Nat.blt e.on i
def okPair (all : List Oper) (i j : Nat) : Bool :=
  (Nat.beq i j || !(match dstAt all i, dstAt all j with | some a, some b => Nat.beq a b | _, _ => false)) &&
  opAtB all i fun oi => opAtB all j fun oj => match oj.dst with
    | some x => !(readsOf all oi).any (Nat.beq x) || ((!Nat.blt j i || backTo oi j) && (!Nat.blt i j || backTo oj i))
    | none => true
/-- The first n operations run in whatever order; the others come behind them, one by one. -/
def okR (all : List Oper) (n : Nat) : Bool :=
  okEdges all && ((List.range n).all fun i => (List.range n).all fun j => okPair all i j) && Nat.ble n all.length &&
  (Nat.beq all.length n || (List.range n).all fun i => (List.range (n + 1)).any fun j => Nat.blt i j && opAtB all j (backTo · i)) &&
  (List.range all.length).all fun q => !Nat.blt n q || opAtB all q (backTo · (q - 1))

theorem range_all {n : Nat} {p : Nat → Bool} (h : (List.range n).all p = true) {i : Nat} (hi : i < n) : p i = true := List.all_eq_true.1 h i (List.mem_range.2 hi)

theorem nat_beq {a b : Nat} : Nat.beq a b = true ↔ a = b := ⟨Nat.eq_of_beq_eq_true, fun h => h ▸ Nat.beq_refl _⟩
theorem nat_blt {a b : Nat} : Nat.blt a b = true ↔ a < b := by simp [Nat.blt, Nat.lt_iff_add_one_le]

section spec
variable {all : List Oper} {n : Nat}

theorem backTo_spec {o : Oper} {i : Nat} (h : backTo o i = true) : ∃ e ∈ o.after, Region.binds .any e = true ∧ e.on = i := by
  obtain ⟨e, he, h2⟩ := List.any_eq_true.1 h
  simp only [Bool.and_eq_true] at h2
  exact ⟨e, by simpa using he, h2.1, nat_beq.1 h2.2⟩

theorem okEdges_spec (h : okEdges all = true) {i : Nat} {o : Oper} (hi : all[i]? = some o) : ∀ e ∈ o.after, Region.binds .any e = true → e.on < i := by
  intro e he hb
  have hlt := (List.getElem?_eq_some_iff.1 hi).1
  have h1 := range_all h hlt
  simp only [opAtB, hi] at h1
  have h2 := List.all_eq_true.1 h1 e (by simpa using he)
  rw [hb] at h2
  simpa using h2

theorem okPair_dst {i j : Nat} (h : okPair all i j = true) (hne : i ≠ j) {d : Nat} (hi : dstAt all i = some d) : dstAt all j ≠ some d := by
  intro hj
  simp only [okPair, Bool.and_eq_true, hi, hj] at h
  have h1 := h.1
  simp only [Bool.or_eq_true, nat_beq, hne, false_or, Nat.beq_refl] at h1
  cases h1

theorem okPair_read {i j x : Nat} {oi oj : Oper} (h : okPair all i j = true) (hi : all[i]? = some oi) (hj : all[j]? = some oj) (hx : oj.dst = some x) (hr : x ∈ readsOf all oi) :
    (j < i → backTo oi j = true) ∧ (i < j → backTo oj i = true) := by
  simp only [okPair, Bool.and_eq_true, opAtB, hi, hj, hx] at h
  have h2 := h.2
  have h3 : (readsOf all oi).any (Nat.beq x) = true := List.any_eq_true.2 ⟨x, hr, Nat.beq_refl _⟩
  rw [h3] at h2
  simp only [Bool.not_true, Bool.false_or, Bool.and_eq_true, Bool.or_eq_true, Bool.not_eq_true'] at h2
  refine ⟨fun hl => ?_, fun hl => ?_⟩
  · rcases h2.1 with q | q
    · rw [nat_blt.2 hl] at q; cases q
    · exact q
  · rcases h2.2 with q | q
    · rw [nat_blt.2 hl] at q; cases q
    · exact q
end spec

/-- The operation is fine for T, whatever its guard says. -/
def OpOk (X : Cx) (Γ : Gam) (H : Hp) (all : List Oper) (o : Oper) (T : Ty) : Prop :=
  (o.guard = none ∧ OpTy X Γ H o T) ∨
  (∃ g b t c T0, o.guard = some (g, b) ∧ (all[g]?).bind (·.dst) = some t ∧ t < X.N ∧ look Γ t = some (tIs (.bool c)) ∧ T = tIf (c = b) T0 ∧ (c = b → OpTy X Γ H o T0))

/-- The operations of a region, typed in the order of the text. -/
inductive TW (X : Cx) (H : Hp) (all : List Oper) : Gam → List Oper → Gam → Prop
  | nil {Γ : Gam} : TW X H all Γ [] Γ
  | cons {Γ Γ' : Gam} {o : Oper} {rest : List Oper} {d : Nat} {T : Ty} (hd : o.dst = some d) (hN : d < X.N) (h : OpOk X Γ H all o T) (next : TW X H all ((d, T) :: Γ) rest Γ') : TW X H all Γ (o :: rest) Γ'

theorem TW.op {all : List Oper} {Γ Γ' : Gam} {o : Oper} {rest : List Oper} {d : Nat} {T : Ty} (h : OpTy X Γ H o T) (hd : o.dst = some d) (hN : d < X.N) (hg : o.guard = none) (next : TW X H all ((d, T) :: Γ) rest Γ') : TW X H all Γ (o :: rest) Γ' :=
  .cons hd hN (.inl ⟨hg, h⟩) next
theorem TW.opg {all : List Oper} {Γ Γ' : Gam} {o : Oper} {rest : List Oper} {d g t : Nat} {b c : Bool} {T : Ty} (hg : o.guard = some (g, b)) (hs : (all[g]?).bind (·.dst) = some t) (ht : look Γ t = some (tIs (.bool c))) (htN : t < X.N) (h : c = b → OpTy X Γ H o T)
    (hd : o.dst = some d) (hN : d < X.N) (next : TW X H all ((d, tIf (c = b) T) :: Γ) rest Γ') : TW X H all Γ (o :: rest) Γ' :=
  .cons hd hN (.inr ⟨g, b, t, c, T, hg, hs, htN, ht, rfl, h⟩) next

theorem TW.seq {all : List Oper} {Γ Γ' : Gam} {l : List Oper} (h : TW X H all Γ l Γ') : ∃ (G : Nat → Gam) (T : Nat → Ty), G 0 = Γ ∧ G l.length = Γ' ∧
    ∀ i o, l[i]? = some o → ∃ d, o.dst = some d ∧ d < X.N ∧ G (i + 1) = (d, T i) :: G i ∧ OpOk X (G i) H all o (T i) := by
  induction h with
  | nil => rename_i Γ; exact ⟨fun _ => Γ, fun _ => tAny, rfl, rfl, fun i o h => by simp at h⟩
  | cons hd hN h _ ih =>
    rename_i Γ Γ' o rest d T _
    obtain ⟨G, T', h0, h1, h2⟩ := ih
    refine ⟨fun i => match i with | 0 => Γ | i + 1 => G i, fun i => match i with | 0 => T | i + 1 => T' i, rfl, h1, fun i o' ho => ?_⟩
    cases i with
    | zero => simp at ho; subst ho; exact ⟨d, hd, hN, h0, h⟩
    | succ i => exact h2 i o' (by simpa using ho)

theorem G_look {n : Nat} {G : Nat → Gam} {T : Nat → Ty} {all : List Oper} (hG : ∀ i, i < n → ∃ d, dstAt all i = some d ∧ G (i + 1) = (d, T i) :: G i) : ∀ i, i ≤ n → ∀ x U, look (G i) x = some U →
    (∃ j, j < i ∧ dstAt all j = some x ∧ U = T j) ∨ ((∀ j, j < i → dstAt all j ≠ some x) ∧ look (G 0) x = some U) := by
  intro i
  induction i with
  | zero => intro _ x U h; exact .inr ⟨fun j hj => by omega, h⟩
  | succ i ih =>
    intro hi x U h
    obtain ⟨d, hd, hg⟩ := hG i (by omega)
    rw [hg, look_cons] at h
    cases hb : Nat.beq d x with
    | true =>
      rw [hb] at h; cases h
      exact .inl ⟨i, by omega, by rw [hd, nat_beq.1 hb], rfl⟩
    | false =>
      rw [hb] at h
      have hne : d ≠ x := fun e => by rw [e, Nat.beq_refl] at hb; cases hb
      rcases ih (by omega) x U h with ⟨j, h1, h2, h3⟩ | ⟨h1, h2⟩
      · exact .inl ⟨j, by omega, h2, h3⟩
      · refine .inr ⟨fun j hj => ?_, h2⟩
        rcases Nat.lt_or_ge j i with q | q
        · exact h1 j q
        · have : j = i := by omega
          subst this
          rw [hd]; exact fun e => hne (by simpa using e)

/-- Where a region's run stands: which operations have run, and what is known. -/
structure RInv (X : Cx) (H : Hp) (Γ : Gam) (all : List Oper) (n : Nat) (T : Nat → Ty) (listed : Array Bool) (a : Act) (w : World) : Prop where
  size : a.tmps.size = X.N
  defers : a.defers = X.Df
  m0 : ∀ k, X.M0 k → k < X.w0.heap.size ∧ k ∉ X.L
  below : Kept X.L X.w0 w
  hp : hpOk X H w
  lsize : listed.size = all.length
  closed : ∀ (i : Nat) (o : Oper), all[i]? = some o → listed.getD i false = true → ∀ e ∈ o.after, Region.binds .any e = true → listed.getD e.on false = true
  done : ∀ i x, i < n → listed.getD i false = true → dstAt all i = some x → (T i).p (a.tmps.getD x undef) ⟨w, mask X.M0 H⟩
  old : ∀ x U, look Γ x = some U → (∀ i, i < n → listed.getD i false = true → dstAt all i ≠ some x) → U.p (a.tmps.getD x undef) ⟨w, mask X.M0 H⟩

def unl (listed : Array Bool) (N : Nat) : Nat := ((List.range N).filter fun i => !listed.getD i true).length

theorem filter_lt {α : Type} {p q : α → Bool} (hpq : ∀ x, p x = true → q x = true) : ∀ {l : List α} {x : α}, x ∈ l → p x = false → q x = true → (l.filter p).length < (l.filter q).length
  | [], _, h, _, _ => by cases h
  | y :: l, x, h, hp, hq => by
    have le : ∀ l : List α, (l.filter p).length ≤ (l.filter q).length := by
      intro l
      induction l with
      | nil => exact Nat.le_refl _
      | cons z l ih =>
        simp only [List.filter_cons]
        cases hz : p z with
        | true => simp [hpq z hz, ih]
        | false =>
          cases hz2 : q z with
          | true => simp; omega
          | false => simp [ih]
    cases h with
    | head =>
      have := le l
      simp only [List.filter_cons, hp, hq, if_true]
      simp; omega
    | tail _ h =>
      have := filter_lt hpq h hp hq
      simp only [List.filter_cons]
      cases hy : p y with
      | true => simp [hpq y hy]; exact this
      | false =>
        cases hy2 : q y with
        | true => simp; omega
        | false => simp; exact this

theorem getD_set {l : Array Bool} {i j : Nat} {d : Bool} (hi : i < l.size) : (l.setIfInBounds i true).getD j d = if i = j then true else l.getD j d := by
  simp only [Array.getD_eq_getD_getElem?]
  by_cases h : i = j
  · subst h; simp [hi]
  · rw [Array.getElem?_setIfInBounds_ne h, if_neg h]

theorem getD_both {l : Array Bool} {i : Nat} (hi : i < l.size) (d d' : Bool) : l.getD i d = l.getD i d' := by simp [Array.getD_eq_getD_getElem?, hi]

theorem unl_set {l : Array Bool} {i N : Nat} (hi : i < N) (hN : l.size = N) (hl : l.getD i true = false) : unl (l.setIfInBounds i true) N < unl l N := by
  refine filter_lt (x := i) (fun x hx => ?_) (List.mem_range.2 hi) ?_ ?_
  · rw [getD_set (by omega)] at hx
    by_cases h : i = x
    · simp [h] at hx
    · simpa [h] using hx
  · rw [getD_set (by omega)]; simp
  · simp [hl]

theorem wpAny_all {P : Program} {ops : Array Oper} {listed : Array Bool} {a : Act} {w : World} (h : ∀ i, i < ops.size → listed.getD i true = true) (hQ : Q .normal a w) : ∀ fuel, wpAny P .any ops Q fuel listed a w := by
  have hr : Region.ready .any ops listed = [] := by
    cases hr : Region.ready .any ops listed with
    | nil => rfl
    | cons j l =>
      have hj : j ∈ Region.ready .any ops listed := by rw [hr]; exact .head _
      obtain ⟨h1, o, ho, _⟩ := mem_ready.1 hj
      have := h j (Array.getElem?_eq_some_iff.1 ho).1
      rw [this] at h1; cases h1
  intro fuel
  cases fuel with
  | zero => exact ⟨hr, hQ⟩
  | succ f => exact ⟨fun _ => hQ, by rw [hr]; intro i hi; cases hi⟩

section main
variable {all : List Oper} {n : Nat} {T : Nat → Ty} {G : Nat → Gam}

theorem RInv.start {a : Act} {w : World} (hs : Sat X Γ H a w) : RInv X H Γ all n T (Array.replicate all.length false) a w :=
  have hf : ∀ i, (Array.replicate all.length false).getD i false = false := fun i => by
    simp only [Array.getD_eq_getD_getElem?, Array.getElem?_replicate]; split <;> rfl
  ⟨hs.size, hs.defers, hs.m0, hs.below, hs.hp, by simp, fun i o _ h => by (rw [hf] at h; cases h), fun i x _ h => by (rw [hf] at h; cases h), fun x U hU _ => hs.slots x U hU⟩

/-- What an operation reads is there when it may run. -/
theorem RInv.reads {listed : Array Bool} {a : Act} {w : World} (hi : RInv X H Γ all n T listed a w) (hG0 : G 0 = Γ) (hG : ∀ i, i < n → ∃ d, dstAt all i = some d ∧ G (i + 1) = (d, T i) :: G i)
    (hok : ∀ i j, i < n → j < n → okPair all i j = true) {i : Nat} (hin : i < n) {o : Oper} (ho : all[i]? = some o) (hun : listed.getD i false = false) (hready : ∀ e ∈ o.after, Region.binds .any e = true → listed.getD e.on false = true)
    {x : Nat} (hx : x ∈ readsOf all o) {U : Ty} (hU : look (G i) x = some U) : U.p (a.tmps.getD x undef) ⟨w, mask X.M0 H⟩ := by
  have wr : ∀ j, j < n → dstAt all j = some x → ∃ oj, all[j]? = some oj ∧ oj.dst = some x := fun j _ hj => by
    unfold dstAt at hj
    obtain ⟨oj, h1, h2⟩ := Option.bind_eq_some_iff.1 hj
    exact ⟨oj, h1, h2⟩
  rcases G_look hG i (by omega) x U hU with ⟨j, hj, hd, rfl⟩ | ⟨hno, hU0⟩
  · obtain ⟨oj, h1, h2⟩ := wr j (by omega) hd
    obtain ⟨e, he, hb, hon⟩ := backTo_spec ((okPair_read (hok i j hin (by omega)) ho h1 h2 hx).1 hj)
    exact hi.done j x (by omega) (by rw [← hon]; exact hready e he hb) hd
  · rw [hG0] at hU0
    refine hi.old x U hU0 fun j hjn hl hd => ?_
    rcases Nat.lt_trichotomy j i with q | q | q
    · exact hno j q hd
    · subst q; rw [hun] at hl; cases hl
    · obtain ⟨oj, h1, h2⟩ := wr j hjn hd
      obtain ⟨e, he, hb, hon⟩ := backTo_spec ((okPair_read (hok i j hin hjn) ho h1 h2 hx).2 q)
      have := hi.closed j oj h1 hl e he hb
      rw [hon, hun] at this; cases this

/-- The state behind one operation. -/
theorem RInv.next {listed : Array Bool} {a : Act} {w w' : World} (hi : RInv X H Γ all n T listed a w) (hok : ∀ i j, i < n → j < n → okPair all i j = true) {i d : Nat} (hin : i < n) {o : Oper} (ho : all[i]? = some o) (hd : o.dst = some d) (hdN : d < X.N)
    (hready : ∀ e ∈ o.after, Region.binds .any e = true → listed.getD e.on false = true) {v : Value} (hb : Below w.heap.size w w') (hv : (T i).p v ⟨w', mask X.M0 H⟩) :
    RInv X H Γ all n T (listed.setIfInBounds i true) (a.put (some d) v) w' := by
  have hlt : i < listed.size := by rw [hi.lsize]; exact (List.getElem?_eq_some_iff.1 ho).1
  have hdi : dstAt all i = some d := by simp [dstAt, ho, hd]
  have hput : ∀ x, d ≠ x → (a.put (some d) v).tmps.getD x undef = a.tmps.getD x undef := fun x hne => by
    rw [getD_put (by rw [hi.size]; exact hdN)]
    have : Nat.beq d x = false := by
      cases hb : Nat.beq d x with
      | false => rfl
      | true => exact absurd (nat_beq.1 hb) hne
    rw [this]; rfl
  have hput0 : (a.put (some d) v).tmps.getD d undef = v := by
    rw [getD_put (by rw [hi.size]; exact hdN), Nat.beq_refl]; rfl
  refine ⟨(size_put _ _ _).trans hi.size, (defers_put _ _ _).trans hi.defers, hi.m0, hi.below.ext hb, hi.hp.ext hb, by simp [hi.lsize], fun j oj hj hl e he hbd => ?_, fun j x hj hl hx => ?_, fun x U hU hno => ?_⟩
  · rw [getD_set hlt]
    rw [getD_set hlt] at hl
    by_cases hon : i = e.on
    · simp [hon]
    · rw [if_neg hon]
      by_cases hij : i = j
      · subst hij; rw [ho] at hj; cases hj; exact hready e he hbd
      · rw [if_neg hij] at hl; exact hi.closed j oj hj hl e he hbd
  · rw [getD_set hlt] at hl
    by_cases hij : i = j
    · subst hij
      rw [hdi] at hx; cases hx
      rw [hput0]; exact hv
    · rw [if_neg hij] at hl
      have hne : d ≠ x := fun e => by subst e; exact okPair_dst (hok i j hin hj) hij hdi hx
      rw [hput x hne]
      exact (T j).up (Le.below _ hb) (hi.done j x hj hl hx)
  · have hne : d ≠ x := fun e => by
      subst e
      exact hno i hin (by rw [getD_set hlt]; simp) hdi
    rw [hput x hne]
    refine U.up (Le.below _ hb) (hi.old x U hU fun j hj hl => hno j hj ?_)
    rw [getD_set hlt]
    by_cases hij : i = j
    · simp [hij]
    · rw [if_neg hij]; exact hl

/-- At the end the frame is as the typing says. -/
theorem RInv.fin {listed : Array Bool} {a : Act} {w : World} (hi : RInv X H Γ all n T listed a w) (hG0 : G 0 = Γ) (hG : ∀ i, i < n → ∃ d, dstAt all i = some d ∧ G (i + 1) = (d, T i) :: G i) (hl : ∀ i, i < n → listed.getD i false = true) : Sat X (G n) H a w := by
  refine ⟨hi.size, hi.defers, hi.m0, hi.below, fun x U hU => ?_, hi.hp⟩
  rcases G_look hG n (Nat.le_refl _) x U hU with ⟨j, hj, hd, rfl⟩ | ⟨hno, hU0⟩
  · exact hi.done j x hj (hl j hj) hd
  · rw [hG0] at hU0
    exact hi.old x U hU0 fun j hj _ => hno j hj

/-- The operations that come one by one. -/
theorem tail_run (hokE : okEdges all = true) (hch : ∀ q o, n < q → all[q]? = some o → backTo o (q - 1) = true) :
    ∀ m p fuel listed a w, all.length - p = m → n ≤ p → p ≤ all.length → m ≤ fuel → listed.size = all.length → (∀ i, i < p → listed.getD i false = true) → (∀ i, p ≤ i → i < all.length → listed.getD i false = false) →
      wpList X.P all.toArray Q (all.drop p) a w → wpAny X.P .any all.toArray Q fuel listed a w := by
  intro m
  induction m with
  | zero =>
    intro p fuel listed a w hm hnp hpl hf hls h1 _ hw
    have hp : p = all.length := by omega
    subst hp
    rw [List.drop_length] at hw
    exact wpAny_all (fun i hi => by rw [getD_both (by rw [hls]; simpa using hi) true false]; exact h1 i (by simpa using hi)) hw fuel
  | succ m ih =>
    intro p fuel listed a w hm hnp hpl hf hls h1 h2 hw
    have hlt : p < all.length := by omega
    have hpr : p ∈ Region.ready .any all.toArray listed := mem_ready.2 ⟨by rw [getD_both (by omega) true false]; exact h2 p (Nat.le_refl _) hlt, all[p], by simp [hlt], fun e he hb => h1 e.on (okEdges_spec hokE (List.getElem?_eq_getElem hlt) e he hb)⟩
    cases fuel with
    | zero => omega
    | succ fuel =>
      refine ⟨fun hr => by (rw [hr] at hpr; cases hpr), fun i hir => ?_⟩
      obtain ⟨hun, o, ho, hready⟩ := mem_ready.1 hir
      have ho' : all[i]? = some o := by simpa using ho
      have hil : i < all.length := (List.getElem?_eq_some_iff.1 ho').1
      have hip : i = p := by
        rcases Nat.lt_trichotomy i p with q | q | q
        · rw [getD_both (by omega) true false, h1 i q] at hun; cases hun
        · exact q
        · obtain ⟨e, he, hb, hon⟩ := backTo_spec (hch i o (by omega) ho')
          have h3 := hready e he hb
          rw [hon, h2 (i - 1) (by omega) (by omega)] at h3; cases h3
      subst hip
      rw [List.drop_eq_getElem_cons hlt] at hw
      have hoo : all[i] = o := by rw [List.getElem?_eq_getElem hlt] at ho'; exact Option.some.inj ho'
      rw [hoo] at hw
      unfold wpList at hw
      have hgoal : wpOp X.P all.toArray Q i (wpList X.P all.toArray Q (all.drop (i + 1))) a w := by
        unfold wpOp
        simp only [ho]
        exact hw
      refine wpOp_mono (fun a' w' hq => ?_) hgoal
      refine ih (i + 1) fuel _ a' w' (by omega) (by omega) (by omega) (by omega) (by simp [hls]) (fun j hj => ?_) (fun j hj hjl => ?_) hq
      · rw [getD_set (by omega)]
        by_cases hij : i = j
        · simp [hij]
        · rw [if_neg hij]; exact h1 j (by omega)
      · rw [getD_set (by omega), if_neg (by omega)]; exact h2 j (by omega) hjl

theorem region_run (fl : Nat → Bool) (hokE : okEdges all = true) (hok : ∀ i j, i < n → j < n → okPair all i j = true) (hnl : n ≤ all.length) (hsucc : all.length ≠ n → ∀ i, i < n → fl i = true ∨ ∃ j o, i < j ∧ j ≤ n ∧ all[j]? = some o ∧ backTo o i = true)
    (hch : ∀ q o, n < q → all[q]? = some o → backTo o (q - 1) = true)
    (hG0 : G 0 = Γ) (hG : ∀ i o, i < n → all[i]? = some o → ∃ d, o.dst = some d ∧ d < X.N ∧ G (i + 1) = (d, T i) :: G i ∧ OpOk X (G i) H all o (T i))
    (hk : ∀ a w, Sat X (G n) H a w → wpList X.P all.toArray Q (all.drop n) a w) :
    ∀ fuel listed a w, unl listed all.length ≤ fuel → RInv X H Γ all n T listed a w → (∀ i, i < n → fl i = true → listed.getD i false = true) → (∀ q, n ≤ q → q < all.length → listed.getD q false = false) → wpAny X.P .any all.toArray Q fuel listed a w := by
  have hG' : ∀ i, i < n → ∃ d, dstAt all i = some d ∧ G (i + 1) = (d, T i) :: G i := fun i hi => by
    have hlt : i < all.length := by omega
    obtain ⟨d, h1, _, h2, _⟩ := hG i all[i] hi (List.getElem?_eq_getElem hlt)
    exact ⟨d, by simp [dstAt, List.getElem?_eq_getElem hlt, h1], h2⟩
  -- all the first n have run: the others follow
  have fin : ∀ fuel listed a w, unl listed all.length ≤ fuel → RInv X H Γ all n T listed a w → (∀ q, n ≤ q → q < all.length → listed.getD q false = false) → (∀ i, i < n → listed.getD i false = true) → wpAny X.P .any all.toArray Q fuel listed a w := by
    intro fuel listed a w hu hi htail hdone
    refine tail_run hokE hch (all.length - n) n fuel listed a w rfl (Nat.le_refl _) hnl ?_ hi.lsize hdone htail (hk a w (hi.fin hG0 hG' hdone))
    refine Nat.le_trans ?_ hu
    have hsub : ((List.range all.length).drop n).length ≤ unl listed all.length := by
      unfold unl
      have hs : ((List.range all.length).drop n).filter (fun i => !listed.getD i true) = (List.range all.length).drop n := by
        rw [List.filter_eq_self]
        intro q hq
        obtain ⟨k, hk, hkq⟩ := List.mem_iff_getElem.1 hq
        simp only [List.getElem_drop, List.getElem_range] at hkq
        simp only [List.length_drop, List.length_range] at hk
        have := htail q (by omega) (by omega)
        rw [getD_both (by rw [hi.lsize]; omega) false true] at this
        simp [this]
      rw [← hs]
      exact ((List.drop_sublist n _).filter _).length_le
    simpa using hsub
  intro fuel
  induction fuel with
  | zero =>
    intro listed a w hu hi hfl htail
    have hall : ∀ i, i < all.length → listed.getD i true = true := fun i hi' => by
      cases hb : listed.getD i true with
      | true => rfl
      | false =>
        have hm : i ∈ (List.range all.length).filter fun i => !listed.getD i true := List.mem_filter.2 ⟨List.mem_range.2 hi', by simp [hb]⟩
        have : 0 < unl listed all.length := List.length_pos_of_mem hm
        omega
    exact fin 0 listed a w hu hi htail fun i hi' => by rw [getD_both (by rw [hi.lsize]; omega) false true]; exact hall i (by omega)
  | succ fuel ih =>
    intro listed a w hu hi hfl htail
    by_cases hdone : ∀ i, i < n → listed.getD i false = true
    · exact fin _ listed a w hu hi htail hdone
    have prog : ∃ i, i < n ∧ i ∈ Region.ready .any all.toArray listed := by
      have key : ∀ m i, i ≤ m → i < n → listed.getD i false = false → ∃ i, i < n ∧ i ∈ Region.ready .any all.toArray listed := by
        intro m
        induction m with
        | zero =>
          intro i him hin hl
          refine ⟨i, hin, mem_ready.2 ⟨by rw [getD_both (by rw [hi.lsize]; omega) true false]; exact hl, all[i]'(by omega), by simp [show i < all.length by omega], fun e he hbd => ?_⟩⟩
          have := okEdges_spec hokE (List.getElem?_eq_getElem (show i < all.length by omega)) e he hbd
          omega
        | succ m ihm =>
          intro i him hin hl
          by_cases hex : ∃ k, k < i ∧ listed.getD k false = false
          · obtain ⟨k, hk, hkl⟩ := hex
            exact ihm k (by omega) (by omega) hkl
          · refine ⟨i, hin, mem_ready.2 ⟨by rw [getD_both (by rw [hi.lsize]; omega) true false]; exact hl, all[i]'(by omega), by simp [show i < all.length by omega], fun e he hbd => ?_⟩⟩
            have hlt := okEdges_spec hokE (List.getElem?_eq_getElem (show i < all.length by omega)) e he hbd
            cases hb : listed.getD e.on false with
            | true => rfl
            | false => exact absurd ⟨e.on, hlt, hb⟩ hex
      obtain ⟨i, hh⟩ := Classical.not_forall.1 hdone
      obtain ⟨hin, hl⟩ := Classical.not_imp.1 hh
      exact key i i (Nat.le_refl _) hin (by cases hb : listed.getD i false with | false => rfl | true => exact absurd hb hl)
    refine ⟨fun hr => ?_, fun i hir => ?_⟩
    · obtain ⟨i, _, h⟩ := prog
      rw [hr] at h; cases h
    · obtain ⟨hun, o, ho, hready⟩ := mem_ready.1 hir
      have ho' : all[i]? = some o := by simpa using ho
      have hil : i < all.length := (List.getElem?_eq_some_iff.1 ho').1
      have hun' : listed.getD i false = false := by rw [getD_both (by rw [hi.lsize]; omega) false true]; exact hun
      have hu' : unl (listed.setIfInBounds i true) all.length ≤ fuel := by
        have := unl_set hil hi.lsize hun
        omega
      have hin : i < n := by
        rcases Nat.lt_or_ge i n with q | q
        · exact q
        · exfalso
          have hne : all.length ≠ n := by omega
          have hsc := hsucc hne
          rcases Nat.lt_or_ge n i with q2 | q2
          · obtain ⟨e, he, hbd, hon⟩ := backTo_spec (hch i o q2 ho')
            have h3 := hready e he hbd
            rw [hon, htail (i - 1) (by omega) (by omega)] at h3; cases h3
          · have hieq : i = n := by omega
            subst hieq
            refine hdone ?_
            have hb : ∀ m j, i - j ≤ m → j < i → listed.getD j false = true := by
              intro m
              induction m with
              | zero => intro j h1 h2; omega
              | succ m ihm =>
                intro j h1 h2
                rcases hsc j h2 with hfj | ⟨k, ok, hjk, hki, hok', hbk⟩
                · exact hfl j h2 hfj
                obtain ⟨e, he, hbd, hon⟩ := backTo_spec hbk
                rcases Nat.lt_or_ge k i with q | q
                · have := hi.closed k ok hok' (ihm k (by omega) q) e he hbd
                  rw [hon] at this; exact this
                · have hki : k = i := by omega
                  subst hki
                  rw [ho'] at hok'; cases hok'
                  have := hready e he hbd
                  rw [hon] at this; exact this
            exact fun j hj => hb (i - j) j (Nat.le_refl _) hj
      obtain ⟨d, hd, hdN, hg, hopok⟩ := hG i o hin ho'
      have htail' : ∀ q, n ≤ q → q < all.length → (listed.setIfInBounds i true).getD q false = false := fun q hq hql => by
        rw [getD_set (by rw [hi.lsize]; exact hil), if_neg (by omega)]; exact htail q hq hql
      have hfl' : ∀ j, j < n → fl j = true → (listed.setIfInBounds i true).getD j false = true := fun j hj hjf => by
        rw [getD_set (by rw [hi.lsize]; exact hil)]
        split
        · rfl
        · exact hfl j hj hjf
      have hso : ∀ Γx, (∀ x U, x ∈ slotsOf o → look Γx x = some U → U.p (a.tmps.getD x undef) ⟨w, mask X.M0 H⟩) → SatOn X (slotsOf o) Γx H a w := fun Γx h =>
        ⟨hi.size, hi.defers, hi.m0, hi.below, fun x U hx hU => h x U hx hU, hi.hp⟩
      have hson := hso (G i) fun x U hx hU => hi.reads hG0 hG' hok hin ho' hun' hready (List.mem_append.2 (.inl hx)) hU
      unfold wpOp
      simp only [ho]
      rcases hopok with ⟨hgn, hop⟩ | ⟨g, b, t, c, T0, hgs, hst, htN, hlt, hT, hop⟩
      · rw [if_pos (wanted_none hgn _)]
        refine .inl (wp_mono_false ?_ (hop a w hson))
        rintro a' w' ⟨v, rfl, hb, hv⟩
        rw [hd]
        exact ih _ _ _ hu' (hi.next hok hin ho' hd hdN hready hb hv) hfl' htail'
      · have hv : a.tmps.getD t undef = .bool c := hi.reads hG0 hG' hok hin ho' hun' hready (List.mem_append.2 (.inr (by simp [guardSlot, hgs, hst]))) hlt
        have hy : yielded all.toArray a.tmps g = some c := by
          have hlt' : t < a.tmps.size := by rw [hi.size]; exact htN
          simp only [Array.getD_eq_getD_getElem?, Array.getElem?_eq_getElem hlt', Option.getD_some] at hv
          simp [yielded, hst, Array.getElem?_eq_getElem hlt', hv]
        rw [wanted_of hgs hy]
        by_cases hcb : c = b
        · rw [if_pos (by simp [hcb])]
          refine .inl (wp_mono_false ?_ (hop hcb a w hson))
          rintro a' w' ⟨v, rfl, hb, hv'⟩
          rw [hd]
          exact ih _ _ _ hu' (hi.next hok hin ho' hd hdN hready hb (by rw [hT]; exact ⟨fun _ => hv', fun h => absurd hcb h⟩)) hfl' htail'
        · rw [if_neg (by simp [hcb]), hd]
          exact ih _ _ _ hu' (hi.next hok hin ho' hd hdN hready (Below.refl _ _) (by rw [hT]; exact ⟨fun h => absurd h hcb, fun _ => rfl⟩)) hfl' htail'
end main

theorem okR_spec {all : List Oper} {n : Nat} (h : okR all n = true) : okEdges all = true ∧ (∀ i j, i < n → j < n → okPair all i j = true) ∧ n ≤ all.length ∧ (all.length ≠ n → ∀ i, i < n → ∃ j o, i < j ∧ j ≤ n ∧ all[j]? = some o ∧ backTo o i = true) ∧
    (∀ q o, n < q → all[q]? = some o → backTo o (q - 1) = true) := by
  simp only [okR, Bool.and_eq_true] at h
  obtain ⟨⟨⟨⟨h1, h2⟩, h3⟩, h4⟩, h5⟩ := h
  refine ⟨h1, fun i j hi hj => range_all (range_all h2 hi) hj, Nat.le_of_ble_eq_true h3, fun hne i hi => ?_, fun q o hq ho => ?_⟩
  · simp only [Bool.or_eq_true, nat_beq] at h4
    rcases h4 with h4 | h4
    · exact absurd h4 hne
    · obtain ⟨j, hj, hjj⟩ := List.any_eq_true.1 (range_all h4 hi)
      simp only [Bool.and_eq_true] at hjj
      have hjl : j < all.length := by have := List.mem_range.1 hj; have := Nat.le_of_ble_eq_true h3; omega
      refine ⟨j, all[j], nat_blt.1 hjj.1, by have := List.mem_range.1 hj; omega, List.getElem?_eq_getElem hjl, ?_⟩
      have := hjj.2
      simpa [opAtB, List.getElem?_eq_getElem hjl] using this
  · have hql := (List.getElem?_eq_some_iff.1 ho).1
    have := range_all h5 hql
    rw [nat_blt.2 hq] at this
    simpa [opAtB, ho] using this

theorem JC.drawAt {id : Nat} {l : List Oper} {Γ' : Gam} (n : Nat) (hm : X.P.follows .mixedOrders = true) (hok : okR l n = true) (ht : TW X H l Γ (l.take n) Γ') (h : J X l.toArray Q (l.drop n) Γ' H) : JC X (.region id l.toArray true) Q Γ H := by
  intro a w hs
  obtain ⟨h1, h2, h3, h4, h5⟩ := okR_spec hok
  obtain ⟨G, T, hG0, hGn, hG⟩ := ht.seq
  have hlen : (l.take n).length = n := by simp; omega
  rw [hlen] at hGn
  refine wp_region_any hm ?_
  have hb : Below w.heap.size w { w with drawn := w.drawn + 1 } := (Below.refl _ w).drew
  have := region_run (Q := Q) (n := n) (fun _ => false) h1 h2 h3 (fun hne i hi => .inr (h4 hne i hi)) h5 hG0 (fun i o hi ho => hG i o (by rw [List.getElem?_take, if_pos hi]; exact ho))
    (fun a w hs => (h a w (hGn ▸ hs)).list) l.length (Array.replicate l.length false) a _
    (by have := List.length_filter_le (fun i => !(Array.replicate l.length false).getD i true) (List.range l.length); simpa [unl] using this) (RInv.start (hs.ext hb)) (fun _ _ h => by cases h)
    (fun q _ hq => by simp [Array.getD_eq_getD_getElem?, hq])
  simpa using this

/-- A region that draws its order, all of it typed. -/
theorem JC.draw {id : Nat} {l : List Oper} {Γ' : Gam} (hm : X.P.follows .mixedOrders = true) (hok : okR l l.length = true) (ht : TW X H l Γ l Γ') (h : JQ X Q .normal Γ' H) : JC X (.region id l.toArray true) Q Γ H :=
  JC.drawAt l.length hm hok (by rwa [List.take_length]) (by rw [List.drop_length]; exact J.nil h)

end Go.Rt
