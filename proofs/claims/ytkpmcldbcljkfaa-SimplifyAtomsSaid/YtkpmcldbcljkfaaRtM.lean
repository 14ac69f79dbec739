/- The logic of the walks, part M: a statement whose order is open, with operations that may even come behind a store: those are taken first. Conditions: none; nothing of a program stands here. -/
import Derived.Test.YtkpmcldbcljkfaaRtL
import Derived.Scope
set_option linter.unusedVariables false
set_option linter.unusedSimpArgs false
namespace Go.Rt
open Go Go.RowKit

variable {X : Cx} {Q : Exit → Act → World → Prop} {rest : List Oper} {Γ : Gam} {H : Hp}
variable {dst : Option Tmp} {ty : TypeId} {pos : String} {af : Array Edge} {gd : Option (Nat × Bool)} {o : Oper} {T T' : Ty}

/-- o yields v whatever the memory holds. -/
def OpV (X : Cx) (Γ : Gam) (o : Oper) (v : Value) : Prop :=
  ∀ a : Act, (∀ i u, look Γ i = some (tIs u) → a.tmps.getD i undef = u) → ∀ w, (execOp a.eval o).run X.P w = .ok (.value v) w

theorem opv_move {t : Nat} {u : Value} (h : look Γ t = some (tIs u)) : OpV X Γ ⟨dst, .move (.tmp t), ty, pos, af, gd⟩ u := fun a ha w => by
  have : a.eval (.tmp t) = u := ha t u h
  simp [execOp, this]
theorem opv_sub {t : Nat} {tt yt : TypeId} {k : IntKind} {x y r : Int} (h : look Γ t = some (tIs (.int k x))) (hw : k.wrap (x - y) = r) : OpV X Γ ⟨dst, .binOp .sub tt (.tmp t) (.const (.int k y)) yt, ty, pos, af, gd⟩ (.int k r) := fun a ha w => by
  have h1 : a.eval (.tmp t) = .int k x := ha t _ h
  have h2 : a.eval (.const (.int k y)) = .int k y := rfl
  subst hw
  simp [execOp, h1, h2, eqGuard, binOp, Op.intArith]

/-- Operations that are taken first. -/
inductive FL (X : Cx) (l : List Oper) : Array Bool → Gam → Array Bool → Gam → Prop
  | nil {L : Array Bool} {Γ : Gam} : FL X l L Γ L Γ
  | cons {L L' : Array Bool} {Γ Γ' : Gam} {i d : Nat} {o : Oper} {v : Value} (ho : l[i]? = some o) (hd : o.dst = some d) (hN : d < X.N) (hg : o.guard = none) (hv : OpV X Γ o v)
      (hf : Region.free .any l.toArray L i = true) (hr : (Region.ready .any l.toArray L).contains i = true) (next : FL X l (L.setIfInBounds i true) ((d, tIs v) :: Γ) L' Γ') : FL X l L Γ L' Γ'

theorem FL.run {l : List Oper} (hs : Region.noSelect l.toArray = true) (hQ : ∀ c a w d v, Q (.panic c) (Act.put a (some d) v) w → Q (.panic c) a w) {L L' : Array Bool} {Γ Γ' : Gam} (h : FL X l L Γ L' Γ') :
    L.size = l.length → ∃ m, unl L' l.length + m ≤ unl L l.length ∧ ∀ fuel, (∀ a w, Sat X Γ' H a w → wpAny X.P .any l.toArray Q fuel L' a w) → ∀ a w, Sat X Γ H a w → wpAny X.P .any l.toArray Q (fuel + m) L a w := by
  induction h with
  | nil => exact fun _ => ⟨0, Nat.le_refl _, fun fuel h => h⟩
  | cons ho hd hN hg hv hf hr next ih =>
    rename_i L L' Γ Γ' i d o v
    intro hL
    obtain ⟨m, hm, hrun⟩ := ih (by simpa using hL)
    have hil : i < l.length := (List.getElem?_eq_some_iff.1 ho).1
    have hun : L.getD i true = false := (mem_ready.1 (by simpa using hr)).1
    refine ⟨m + 1, ?_, fun fuel hK a w hsat => ?_⟩
    · have := unl_set (l := L) (i := i) (N := l.length) hil hL hun
      omega
    · refine wpAny_take (fuel := fuel + m) (by simpa using ho) hs hf hr (fun c a w h => hQ c a w d _ (by rw [hd] at h; exact h)) (.inl ⟨wanted_none hg _, fun w => hv a (fun j u hj => hsat.slots j _ hj) w⟩) ?_
      rw [hd]
      exact hrun fuel hK _ _ (hsat.put hN rfl)

theorem FL.size {l : List Oper} {L L' : Array Bool} {Γ Γ' : Gam} (h : FL X l L Γ L' Γ') : L'.size = L.size := by
  induction h with
  | nil => rfl
  | cons _ _ _ _ _ _ _ _ ih => simpa using ih
theorem FL.mono {l : List Oper} {L L' : Array Bool} {Γ Γ' : Gam} (h : FL X l L Γ L' Γ') : ∀ j, L.getD j false = true → L'.getD j false = true := by
  induction h with
  | nil => exact fun _ h => h
  | cons ho hd hN hg hv hf hr next ih =>
    rename_i L L' Γ Γ' i d o v
    intro j hj
    refine ih j ?_
    have hjl : j < L.size := by
      rcases Nat.lt_or_ge j L.size with q | q
      · exact q
      · rw [Array.getD_eq_getD_getElem?, Array.getElem?_eq_none q] at hj; cases hj
    by_cases hi : i < L.size
    · rw [getD_set hi]
      by_cases hij : i = j
      · rw [if_pos hij]
      · rw [if_neg hij]; exact hj
    · rw [Array.setIfInBounds_eq_of_size_le (by omega)]; exact hj
theorem FL.old {l : List Oper} {L L' : Array Bool} {Γ Γ' : Gam} (h : FL X l L Γ L' Γ') (hL : L.size = l.length) : ∀ x, (∀ i, L'.getD i false = true → L.getD i false = false → dstAt l i ≠ some x) → look Γ' x = look Γ x := by
  induction h with
  | nil => exact fun _ _ => rfl
  | cons ho hd hN hg hv hf hr next ih =>
    rename_i L L' Γ Γ' i d o v
    intro x hx
    have hil : i < L.size := by rw [hL]; exact (List.getElem?_eq_some_iff.1 ho).1
    have hun : L.getD i false = false := by rw [getD_both hil false true]; exact (mem_ready.1 (by simpa using hr)).1
    have hi : L'.getD i false = true := next.mono i (by rw [getD_set hil, if_pos rfl])
    have hne : d ≠ x := fun e => hx i hi hun (by simp [dstAt, ho, hd, e])
    rw [ih (by simpa using hL) x fun j h1 h2 => hx j h1 (by
      rw [getD_set hil] at h2
      split at h2
      · cases h2
      · exact h2)]
    rw [look_cons]
    have : Nat.beq d x = false := by
      cases hb : Nat.beq d x with
      | false => rfl
      | true => exact absurd (nat_beq.1 hb) hne
    rw [this]; rfl

theorem G_at {n : Nat} {G : Nat → Gam} {T : Nat → Ty} {all : List Oper} (hG : ∀ i, i < n → ∃ d, dstAt all i = some d ∧ G (i + 1) = (d, T i) :: G i) (hok : ∀ i j, i < n → j < n → okPair all i j = true) {i x : Nat} (hi : i < n) (hx : dstAt all i = some x) : look (G n) x = some (T i) := by
  have key : ∀ k, i + 1 + k ≤ n → look (G (i + 1 + k)) x = some (T i) := by
    intro k
    induction k with
    | zero =>
      intro _
      obtain ⟨d, h1, h2⟩ := hG i hi
      rw [hx] at h1; cases h1
      rw [Nat.add_zero, h2, look_cons, Nat.beq_refl]; rfl
    | succ k ih =>
      intro hk
      obtain ⟨d, h1, h2⟩ := hG (i + 1 + k) (by omega)
      rw [← Nat.add_assoc, h2, look_cons]
      have hne : d ≠ x := fun e => by
        subst e
        exact okPair_dst (hok i (i + 1 + k) hi (by omega)) (by omega) hx h1
      have : Nat.beq d x = false := by
        cases hb : Nat.beq d x with
        | false => rfl
        | true => exact absurd (nat_beq.1 hb) hne
      rw [this]; exact ih (by omega)
  have := key (n - (i + 1)) (by omega)
  rwa [show i + 1 + (n - (i + 1)) = n by omega] at this

def okRF (all : List Oper) (n : Nat) (fl : List Nat) : Bool :=
  okEdges all && ((List.range n).all fun i => (List.range n).all fun j => okPair all i j) && Nat.ble n all.length &&
  (Nat.beq all.length n || (List.range n).all fun i => fl.contains i || (List.range (n + 1)).any fun j => Nat.blt i j && opAtB all j (backTo · i)) &&
  (List.range all.length).all fun q => !Nat.blt n q || opAtB all q (backTo · (q - 1))
/-- What has been taken: the operations in fl, each of them below n, and whatever they wait for. -/
def takenB (all : List Oper) (n : Nat) (fl : List Nat) (L : Array Bool) : Bool :=
  (List.range all.length).all fun i => (L.getD i false == fl.contains i) && (!fl.contains i || (Nat.blt i n && opAtB all i fun o => o.after.toList.all fun e => !Region.binds .any e || fl.contains e.on))
def agreeAll (l : List Oper) (Γ' Γf : Gam) : List Nat → Prop
  | [] => True
  | i :: r => (∃ d, dstAt l i = some d ∧ look Γ' d = look Γf d) ∧ agreeAll l Γ' Γf r
theorem agreeAll.spec {l : List Oper} {Γ' Γf : Gam} : ∀ {fl : List Nat}, agreeAll l Γ' Γf fl → ∀ i ∈ fl, ∃ d, dstAt l i = some d ∧ look Γ' d = look Γf d
  | _ :: _, h, _, .head _ => h.1
  | _ :: _, h, i, .tail _ hi => agreeAll.spec h.2 i hi

theorem JC.drawF {id : Nat} {l : List Oper} {Γ' Γf : Gam} {L' : Array Bool} (n : Nat) (fl : List Nat) (hm : X.P.follows .mixedOrders = true) (hok : okRF l n fl = true) (hs : Region.noSelect l.toArray = true)
    (hQ : ∀ c a w d v, Q (.panic c) (Act.put a (some d) v) w → Q (.panic c) a w) (hF : FL X l (Array.replicate l.length false) Γ L' Γf) (htk : takenB l n fl L' = true) (ht : TW X H l Γ (l.take n) Γ') (hag : agreeAll l Γ' Γf fl)
    (h : J X l.toArray Q (l.drop n) Γ' H) : JC X (.region id l.toArray true) Q Γ H := by
  intro a w hsat
  simp only [okRF, Bool.and_eq_true] at hok
  obtain ⟨⟨⟨⟨h1, h2⟩, h3⟩, h4⟩, h5⟩ := hok
  have hpair : ∀ i j, i < n → j < n → okPair l i j = true := fun i j hi hj => range_all (range_all h2 hi) hj
  have hnl := Nat.le_of_ble_eq_true h3
  obtain ⟨G, T, hG0, hGn, hG⟩ := ht.seq
  have hlen : (l.take n).length = n := by simp; omega
  rw [hlen] at hGn
  have hGd : ∀ i, i < n → ∃ d, dstAt l i = some d ∧ G (i + 1) = (d, T i) :: G i := fun i hi => by
    have hlt : i < l.length := by omega
    obtain ⟨d, q1, _, q2, _⟩ := hG i l[i] (by rw [List.getElem?_take, if_pos hi]; exact List.getElem?_eq_getElem hlt)
    exact ⟨d, by simp [dstAt, List.getElem?_eq_getElem hlt, q1], q2⟩
  have hsz : L'.size = l.length := by rw [hF.size]; simp
  have hin : ∀ i, L'.getD i false = true → i ∈ fl ∧ i < n := fun i hi => by
    have hil : i < l.length := by
      rcases Nat.lt_or_ge i L'.size with q | q
      · omega
      · rw [Array.getD_eq_getD_getElem?, Array.getElem?_eq_none q] at hi; cases hi
    have := range_all htk hil
    simp only [Bool.and_eq_true, beq_iff_eq, hi] at this
    have hc : fl.contains i = true := this.1.symm
    rw [hc] at this
    simp only [Bool.not_true, Bool.false_or, Bool.and_eq_true] at this
    exact ⟨by simpa using hc, nat_blt.1 this.2.1⟩
  refine wp_region_any hm ?_
  have hb : Below w.heap.size w { w with drawn := w.drawn + 1 } := (Below.refl _ w).drew
  obtain ⟨m, hm1, hrun⟩ := hF.run (H := H) hs hQ (by simp)
  have hu0 : unl (Array.replicate l.length false) l.length ≤ l.length := by
    have := List.length_filter_le (fun i => !(Array.replicate l.length false).getD i true) (List.range l.length)
    simpa [unl] using this
  have key := hrun (l.length - m) (fun a w hsat => ?_) a _ (hsat.ext hb)
  · rw [show l.length - m + m = l.length by omega] at key
    simpa using key
  · refine region_run (Q := Q) (n := n) (fun i => fl.contains i) h1 hpair hnl (fun hne i hi => ?_) (fun q o hq ho => ?_) hG0 (fun i o hi ho => hG i o (by rw [List.getElem?_take, if_pos hi]; exact ho))
      (fun a w hs => (h a w (hGn ▸ hs)).list) (l.length - m) L' a w (by omega) ?_ (fun i hi hf => ?_) (fun q hq hql => ?_)
    · simp only [Bool.or_eq_true, nat_beq] at h4
      rcases h4 with h4 | h4
      · exact absurd h4 hne
      · have h6 := range_all h4 hi
        simp only [Bool.or_eq_true] at h6
        rcases h6 with h6 | h6
        · exact .inl h6
        · obtain ⟨j, hj, hjj⟩ := List.any_eq_true.1 h6
          simp only [Bool.and_eq_true] at hjj
          have hjl : j < l.length := by have := List.mem_range.1 hj; have := nat_beq (a := l.length) (b := n); omega
          refine .inr ⟨j, l[j], nat_blt.1 hjj.1, by have := List.mem_range.1 hj; omega, List.getElem?_eq_getElem hjl, ?_⟩
          simpa [opAtB, List.getElem?_eq_getElem hjl] using hjj.2
    · have hql := (List.getElem?_eq_some_iff.1 ho).1
      have := range_all h5 hql
      rw [nat_blt.2 hq] at this
      simpa [opAtB, ho] using this
    · refine ⟨hsat.size, hsat.defers, hsat.m0, hsat.below, hsat.hp, hsz, fun i o ho hi e he hbd => ?_, fun i x hi hl hx => ?_, fun x U hU hno => ?_⟩
      · obtain ⟨hif, hin'⟩ := hin i hi
        have hil : i < l.length := by omega
        have h6 := range_all htk hil
        have hc : fl.contains i = true := by simpa using hif
        simp only [Bool.and_eq_true, hc, Bool.not_true, Bool.false_or] at h6
        have h7 := h6.2.2
        simp only [opAtB, ho] at h7
        have h8 := List.all_eq_true.1 h7 e (by simpa using he)
        rw [hbd] at h8
        simp only [Bool.not_true, Bool.false_or] at h8
        have hel : e.on < l.length := by have := okEdges_spec h1 ho e he hbd; omega
        have h9 := range_all htk hel
        simp only [Bool.and_eq_true, beq_iff_eq] at h9
        rw [h9.1]; exact h8
      · obtain ⟨hif, _⟩ := hin i hl
        obtain ⟨d, q1, q2⟩ := hag.spec i hif
        rw [hx] at q1; cases q1
        have q3 := G_at hGd hpair hi hx
        rw [hGn, q2] at q3
        exact hsat.slots x _ q3
      · have q := hF.old (by simp) x fun i q1 q2 => hno i (hin i q1).2 q1
        exact hsat.slots x U (q.trans hU)
    · have hil : i < l.length := by omega
      have h9 := range_all htk hil
      simp only [Bool.and_eq_true, beq_iff_eq] at h9
      rw [h9.1]; exact hf
    · cases hb : L'.getD q false with
      | false => rfl
      | true => have := (hin q hb).2; omega

section
variable {α β γ δ ε : Type} {c : Code}
theorem JC.loop5 (G : α → β → γ → δ → ε → Gam) (HH : α → β → γ → δ → ε → Hp) (inv : α → β → γ → δ → ε → Prop) (μ : α → β → γ → δ → ε → Nat) (a0 : α) (b0 : β) (c0 : γ) (d0 : δ) (e0 : ε) (h0 : inv a0 b0 c0 d0 e0) (hs0 : ∀ a w, Sat X Γ H a w → Sat X (G a0 b0 c0 d0 e0) (HH a0 b0 c0 d0 e0) a w)
    (round : ∀ i j k l m, inv i j k l m → JC X c (Exit.then (fun a w => ∃ n p q r s, inv n p q r s ∧ μ n p q r s < μ i j k l m ∧ Sat X (G n p q r s) (HH n p q r s) a w) Q) (G i j k l m) (HH i j k l m)) : JC X (.loop c) Q Γ H :=
  JC.loop (ι := α × β × γ × δ × ε) (fun i => G i.1 i.2.1 i.2.2.1 i.2.2.2.1 i.2.2.2.2) (fun i => HH i.1 i.2.1 i.2.2.1 i.2.2.2.1 i.2.2.2.2) (fun i => inv i.1 i.2.1 i.2.2.1 i.2.2.2.1 i.2.2.2.2) (fun i => μ i.1 i.2.1 i.2.2.1 i.2.2.2.1 i.2.2.2.2) (a0, b0, c0, d0, e0) h0 hs0
    fun i hi a w hs => then_mono (fun _ _ ⟨n, p, q, r, s, h⟩ => ⟨(n, p, q, r, s), h⟩) (round i.1 i.2.1 i.2.2.1 i.2.2.2.1 i.2.2.2.2 hi a w hs)
theorem JQ.round5 {G : α → β → γ → δ → ε → Gam} {HH : α → β → γ → δ → ε → Hp} {inv : α → β → γ → δ → ε → Prop} {μ : α → β → γ → δ → ε → Nat} {i : α} {i2 : β} {i3 : γ} {i4 : δ} {i5 : ε} (j : α) (j2 : β) (j3 : γ) (j4 : δ) (j5 : ε) (hj : inv j j2 j3 j4 j5) (hμ : μ j j2 j3 j4 j5 < μ i i2 i3 i4 i5) (hs : ∀ a w, Sat X Γ H a w → Sat X (G j j2 j3 j4 j5) (HH j j2 j3 j4 j5) a w) :
    JQ X (Exit.then (fun a w => ∃ n p q r s, inv n p q r s ∧ μ n p q r s < μ i i2 i3 i4 i5 ∧ Sat X (G n p q r s) (HH n p q r s) a w) Q) .normal Γ H := fun a w h => ⟨j, j2, j3, j4, j5, hj, hμ, hs a w h⟩
end

/-- The zero array. -/
theorem ot_buildA0 {t e : TypeId} (ht : arB4 X.P t = some e) (hz : zeroB X.P t = some (.agg #[.int .i64 0, .int .i64 0, .int .i64 0, .int .i64 0])) : OpTy X Γ H ⟨dst, .build t #[], ty, pos, af, gd⟩ (tV encMo ⟨0, 0, 0, 0⟩) :=
  opTy_run fun a w hs => by
    obtain ⟨hu, he, ⟨i, hi, hsz⟩, _, _⟩ := arB4_spec ht
    refine ⟨.agg #[.int .i64 0, .int .i64 0, .int .i64 0, .int .i64 0], w, ?_, Below.refl _ _, rfl, rfl, rfl, rfl, rfl, rfl, rfl, rfl, rfl, rfl, trivial⟩
    have hb : X.P.built t [] = some #[.int .i64 0, .int .i64 0, .int .i64 0, .int .i64 0] := by
      unfold zeroB at hz
      unfold Program.built
      cases hit : X.P.info? t with
      | none => rw [hit] at hz; cases hz
      | some it =>
        rw [hit] at hz
        have hz' : it.zero = some (.agg #[.int .i64 0, .int .i64 0, .int .i64 0, .int .i64 0]) := hz
        simp [hu, hz', hi, Instr.fill, Value.cells]
    have hr := run_build w t #[] _ (by simpa using hb)
    simp only [execOp, Sem.run_bind, Sem.run_map, Array.map_empty, hr]
    rfl

/-! ### A scope that no goto leaves -/
theorem JC.scope {c : Code} (h : JC X c (Exit.noGoto Q) Γ H) : JC X (.scope c) Q Γ H := fun a w hs => wp_scope_straight (h a w hs)
theorem JQ.scope_normal (h : JQ X Q .normal Γ H) : JQ X (Exit.noGoto Q) .normal Γ H := h
theorem JQ.scope_ret (h : JQ X Q .ret Γ H) : JQ X (Exit.noGoto Q) .ret Γ H := h
theorem JQ.scope_exit {id : Nat} (h : JQ X Q (.exit id) Γ H) : JQ X (Exit.noGoto Q) (.exit id) Γ H := h

/-- The end of a function without results. -/
theorem JQ.ret0 {fn : Func} (hf : fn.results = #[]) (hD : X.Df = [] := by rfl) : JQ X (bodyPost X.P fn (Post X tAny)) .ret Γ H ∧ JQ X (bodyPost X.P fn (Post X tAny)) .normal Γ H :=
  ⟨fun a w hs => (ret_done (v := .tuple #[]) hs (results_none hf _ _ _) trivial hD).1, fun a w hs => (ret_done (v := .tuple #[]) hs (results_none hf _ _ _) trivial hD).2⟩
end Go.Rt
