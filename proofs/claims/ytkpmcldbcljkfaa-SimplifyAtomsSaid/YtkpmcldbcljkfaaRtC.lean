/- The logic of the walks, part C: operations that make or write memory, guarded operations, entering and leaving a function. Conditions: none; nothing of a program stands here. -/
import Derived.Test.YtkpmcldbcljkfaaRtB
set_option linter.unusedVariables false
set_option linter.unusedSimpArgs false
namespace Go.Rt
open Go Go.RowKit

variable {X : Cx} {ops : Array Oper} {Q : Exit → Act → World → Prop} {rest : List Oper} {Γ : Gam} {H : Hp}
variable {ty : TypeId} {pos : String} {af : Array Edge} {gd : Option (Nat × Bool)}

/-! ### Guards -/
theorem wanted_of {o : Oper} {g : Nat} {b : Bool} (hg : o.guard = some (g, b)) {f : Nat → Option Bool} {c : Bool} (hf : f g = some c) : Region.wanted o f = (c == b) := by
  simp only [Region.wanted, hg, hf]
  cases c <;> cases b <;> rfl

theorem J.opg {o : Oper} {d g t : Nat} {b c : Bool} {T : Ty} (hg : o.guard = some (g, b)) (hs : (ops[g]?).bind (·.dst) = some t) (ht : look Γ t = some (tIs (.bool c))) (htN : t < X.N) (h : c = b → OpTy X Γ H o T) (hd : o.dst = some d) (hN : d < X.N)
    (next : J X ops Q rest ((d, tIf (c = b) T) :: Γ) H) : J X ops Q (o :: rest) Γ H := by
  intro a w hsat
  have hv : a.tmps.getD t undef = .bool c := hsat.slots t _ ht
  have hy : yielded ops a.tmps g = some c := by
    have hlt : t < a.tmps.size := by rw [hsat.size]; exact htN
    simp only [Array.getD_eq_getD_getElem?, Array.getElem?_eq_getElem hlt, Option.getD_some] at hv
    simp [yielded, hs, Array.getElem?_eq_getElem hlt, hv]
  unfold wpN
  rw [wanted_of hg hy]
  by_cases hcb : c = b
  · rw [if_pos (by simp [hcb])]
    refine wp_mono_false ?_ (h hcb a w (hsat.on _))
    rintro a' w' ⟨v, rfl, hb, hv'⟩
    rw [hd]
    exact next _ _ ((hsat.ext hb).put hN ⟨fun _ => hv', fun h => absurd hcb h⟩)
  · rw [if_neg (by simp [hcb]), hd]
    exact next _ _ (hsat.put hN ⟨fun h => absurd h hcb, fun _ => rfl⟩)

/-- A guard that is itself guarded. -/
theorem J.opgg {o : Oper} {d g t : Nat} {b c : Bool} {c0 : Prop} {T : Ty} (hg : o.guard = some (g, b)) (hs : (ops[g]?).bind (·.dst) = some t) (ht : look Γ t = some (tIf c0 (tIs (.bool c)))) (htN : t < X.N) (h : c0 ∧ c = b → OpTy X Γ H o T) (hd : o.dst = some d) (hN : d < X.N)
    (next : J X ops Q rest ((d, tIf (c0 ∧ c = b) T) :: Γ) H) : J X ops Q (o :: rest) Γ H := by
  intro a w hsat
  have hv0 := hsat.slots t _ ht
  have hlt : t < a.tmps.size := by rw [hsat.size]; exact htN
  by_cases h0 : c0
  · have hv : a.tmps.getD t undef = .bool c := hv0.1 h0
    have hy : yielded ops a.tmps g = some c := by
      simp only [Array.getD_eq_getD_getElem?, Array.getElem?_eq_getElem hlt, Option.getD_some] at hv
      simp [yielded, hs, Array.getElem?_eq_getElem hlt, hv]
    unfold wpN
    rw [wanted_of hg hy]
    by_cases hcb : c = b
    · rw [if_pos (by simp [hcb])]
      refine wp_mono_false ?_ (h ⟨h0, hcb⟩ a w (hsat.on _))
      rintro a' w' ⟨v, rfl, hb, hv'⟩
      rw [hd]
      exact next _ _ ((hsat.ext hb).put hN ⟨fun _ => hv', fun h => absurd ⟨h0, hcb⟩ h⟩)
    · rw [if_neg (by simp [hcb]), hd]
      exact next _ _ (hsat.put hN ⟨fun h => absurd h.2 hcb, fun _ => rfl⟩)
  · have hv : a.tmps.getD t undef = undef := hv0.2 h0
    have hy : yielded ops a.tmps g = none := by
      simp only [Array.getD_eq_getD_getElem?, Array.getElem?_eq_getElem hlt, Option.getD_some] at hv
      simp [yielded, hs, Array.getElem?_eq_getElem hlt, hv, undef]
    unfold wpN
    have hw : Region.wanted o (yielded ops a.tmps) = false := by simp only [Region.wanted, hg, hy]; rfl
    rw [hw, if_neg (by simp), hd]
    exact next _ _ (hsat.put hN ⟨fun h => absurd h.1 h0, fun _ => rfl⟩)

/-! ### New memory -/
theorem Sat.alloc {a : Act} {w : World} (h : Sat X Γ H a w) {cs : List Value} {t : TypeId} {R : CTy} (hR : R.p cs ⟨w, mask X.M0 H⟩) :
    Sat X Γ (⟨w.heap.size, t, R⟩ :: H) a (w.alloc (.cells cs.toArray t)) := by
  have hl : Le ⟨w, mask X.M0 H⟩ ⟨w.alloc (.cells cs.toArray t), mask X.M0 (⟨w.heap.size, t, R⟩ :: H)⟩ :=
    ⟨by simp, fun k hk _ => Below.heap_alloc w _ k hk, fun k hk hm => by
      rcases hm with hm | ⟨e, he, rfl⟩
      · exact .inl hm
      · cases he with
        | head => exact absurd hk (Nat.lt_irrefl _)
        | tail _ he => exact .inr ⟨e, he, rfl⟩⟩
  refine ⟨h.size, h.defers, h.m0, h.below.ext ((Below.refl _ w).alloc (Nat.le_refl _) _), fun i T hi => T.up hl (h.slots i T hi), fun e he => ?_, ?_⟩
  · cases he with
    | head => exact ⟨.inl h.below.size, cs.toArray, heap_alloc_new w _, R.up hl (by simpa using hR)⟩
    | tail _ he =>
      obtain ⟨h1, cs', hc, hr⟩ := h.hp.1 e he
      exact ⟨h1, cs', (Below.heap_alloc w _ _ (h.hp.lt he)).trans hc, e.R.up hl hr⟩
  · refine List.Pairwise.cons (fun b hb => ?_) h.hp.2
    obtain ⟨e, he, rfl⟩ := List.mem_map.1 hb
    exact fun q => absurd (h.hp.lt he) (by have q' : w.heap.size = e.b := q; omega)

theorem J.box {d : Nat} {t : TypeId} {x : Operand} {T : Ty} {R : CTy} (hx : OpT Γ x T) (hR : ∀ v s, T.p v s → R.p v.cells.toList s) (hN : d < X.N)
    (next : ∀ b, J X ops Q rest ((d, pOwn b 0) :: Γ) (⟨b, t, R⟩ :: H)) : J X ops Q (⟨some d, .box t x, ty, pos, af, none⟩ :: rest) Γ H := by
  intro a w hs
  unfold wpN
  rw [if_pos (wanted_none rfl _)]
  have hv := hx.ev (hs.on (slotOf x)) (fun _ h => h)
  have ha := hs.alloc (t := t) (hR _ _ hv)
  have hr : (execOp a.eval ⟨some d, .box t x, ty, pos, af, none⟩).run X.P w = .ok (.value (.pointer (some ⟨w.heap.size, 0, none⟩))) (w.alloc (.cells (a.eval x).cells.toList.toArray t)) := by
    simp [execOp, Instr.box, newVar, newRow]
  unfold Oper.wp
  rw [hr]
  exact next _ _ _ (ha.put hN rfl)

theorem J.alloc {d : Nat} {t : TypeId} {z : Value} {R : CTy} (hz : zeroB X.P t = some z) (hR : ∀ s, R.p z.cells.toList s) (hN : d < X.N)
    (next : ∀ b, J X ops Q rest ((d, pOwn b 0) :: Γ) (⟨b, t, R⟩ :: H)) : J X ops Q (⟨some d, .alloc t, ty, pos, af, none⟩ :: rest) Γ H := by
  intro a w hs
  unfold wpN
  rw [if_pos (wanted_none rfl _)]
  have ha := hs.alloc (t := t) (hR ⟨w, mask X.M0 H⟩)
  unfold zeroB at hz
  obtain ⟨i, hi, hzi⟩ := Option.bind_eq_some_iff.1 hz
  have hr : (execOp a.eval ⟨some d, .alloc t, ty, pos, af, none⟩).run X.P w = .ok (.value (.pointer (some ⟨w.heap.size, 0, none⟩))) (w.alloc (.cells z.cells.toList.toArray t)) := by
    simp [execOp, Instr.alloc, newVar, newRow, zeroValue, typeInfo, hi, hzi]
  unfold Oper.wp
  rw [hr]
  exact next _ _ _ (ha.put hN rfl)

/-! ### Writing into a block of the call's own -/
inductive HUpd (b : Nat) (t : TypeId) (R R' : CTy) : Hp → Hp → Prop
  | here {H : Hp} : HUpd b t R R' (⟨b, t, R⟩ :: H) (⟨b, t, R'⟩ :: H)
  | there {e : HEnt} {H H' : Hp} (h : HUpd b t R R' H H') : HUpd b t R R' (e :: H) (e :: H')

theorem HUpd.mem {b : Nat} {t : TypeId} {R R' : CTy} {H H' : Hp} (h : HUpd b t R R' H H') : (⟨b, t, R⟩ : HEnt) ∈ H := by
  induction h with
  | here => exact .head _
  | there _ ih => exact .tail _ ih
theorem HUpd.blocks {b : Nat} {t : TypeId} {R R' : CTy} {H H' : Hp} (h : HUpd b t R R' H H') : H'.map (·.b) = H.map (·.b) := by
  induction h with
  | here => rfl
  | there _ ih => simp [ih]
theorem HUpd.back {b : Nat} {t : TypeId} {R R' : CTy} {H H' : Hp} (h : HUpd b t R R' H H') (hp : (H.map (·.b)).Pairwise (· ≠ ·)) : ∀ e ∈ H', e = ⟨b, t, R'⟩ ∨ (e ∈ H ∧ e.b ≠ b) := by
  induction h with
  | here =>
    rename_i H0
    intro e he
    cases he with
    | head => exact .inl rfl
    | tail _ he =>
      refine .inr ⟨.tail _ he, ?_⟩
      have := List.rel_of_pairwise_cons hp (List.mem_map.2 ⟨e, he, rfl⟩)
      exact Ne.symm this
  | there h0 ih =>
    rename_i e0 H0 H1
    intro e he
    cases he with
    | head =>
      refine .inr ⟨.head _, ?_⟩
      have := List.rel_of_pairwise_cons hp (List.mem_map.2 ⟨_, h0.mem, rfl⟩)
      exact this
    | tail _ he =>
      rcases ih hp.of_cons e he with h | ⟨h, h'⟩
      · exact .inl h
      · exact .inr ⟨.tail _ h, h'⟩
theorem HUpd.mask {b : Nat} {t : TypeId} {R R' : CTy} {H H' : Hp} (h : HUpd b t R R' H H') (M0 : Nat → Prop) : mask M0 H' = mask M0 H := by
  funext k
  have e := h.blocks
  have q : (∃ e ∈ H', e.b = k) ↔ (∃ e ∈ H, e.b = k) := by
    have h1 : (∃ e ∈ H', e.b = k) ↔ k ∈ H'.map (·.b) := by simp
    have h2 : (∃ e ∈ H, e.b = k) ↔ k ∈ H.map (·.b) := by simp
    rw [h1, h2, e]
  simp only [Rt.mask, q]

/-- Another world that differs from w in the block b alone. -/
structure Wrote (b : Nat) (t : TypeId) (cs : List Value) (w w' : World) : Prop where
  os : w'.os = w.os
  tape : w'.tape = w.tape
  output : w'.output = w.output
  size : w.heap.size ≤ w'.heap.size
  here : w'.heap[b]? = some (.cells cs.toArray t (0, 0))
  other : ∀ k, k < w.heap.size → k ≠ b → w'.heap[k]? = w.heap[k]?

theorem Sat.write {a : Act} {w w' : World} {b : Nat} {t : TypeId} {R R' : CTy} {H' : Hp} {cs : List Value} (h : Sat X Γ H a w) (hU : HUpd b t R R' H H') (hw : Wrote b t cs w w') (hR : R'.p cs ⟨w', Rt.mask X.M0 H⟩) : Sat X Γ H' a w' := by
  have hm := hU.mask X.M0
  have hbm : Rt.mask X.M0 H b := .inr ⟨_, hU.mem, rfl⟩
  have hl : Le ⟨w, Rt.mask X.M0 H⟩ ⟨w', Rt.mask X.M0 H'⟩ := ⟨hw.size, fun k hks hk => hw.other k hks (fun q => hk (q ▸ hbm)), fun k _ hk => by rw [hm] at hk; exact hk⟩
  obtain ⟨hb0, cs0, hc0, _⟩ := h.hp.1 _ hU.mem
  refine ⟨h.size, h.defers, h.m0, ?_, fun i T hi => T.up hl (h.slots i T hi), fun e he => ?_, by rw [hU.blocks]; exact h.hp.2⟩
  · refine ⟨hw.os.trans h.below.os, hw.tape.trans h.below.tape, hw.output.trans h.below.output, Nat.le_trans h.below.size hw.size, fun k hk hkL => (hw.other k (Nat.lt_of_lt_of_le hk h.below.size) ?_).trans (h.below.block k hk hkL)⟩
    have hb0' : X.w0.heap.size ≤ b ∨ b ∈ X.L := hb0
    rcases hb0' with q | q
    · omega
    · exact fun e => hkL (e ▸ q)
  · rcases hU.back h.hp.2 e he with rfl | ⟨he', hne⟩
    · exact ⟨hb0, cs.toArray, hw.here, by rw [hm]; simpa using hR⟩
    · obtain ⟨h1, cs', hc, hr⟩ := h.hp.1 e he'
      exact ⟨h1, cs', (hw.other _ (h.hp.lt he') hne).trans hc, e.R.up hl hr⟩

theorem wrote_setRow {w : World} {b : Nat} {t : TypeId} {cur : Array Value} {fr : Nat × Nat} (h : w.heap[b]? = some (.cells cur t fr)) (hfr : fr = (0, 0)) (cs : List Value) : Wrote b t cs w (w.setRow b cs.toArray) := by
  subst hfr
  exact ⟨rfl, rfl, rfl, by simp [World.setRow], setRow_heap w b cur _ t _ h, fun k _ hk => setRow_other w b k _ hk⟩

theorem J.store {t : TypeId} {x y : Operand} {b o tt n : Nat} {R R' : CTy} {T : Ty} {H' : Hp} (hx : OpT Γ x (pOwn b o)) (hy : OpT Γ y T) (hU : HUpd b tt R R' H H') (hz : szB X.P t = some n)
    (hR : ∀ cs v s, R.p cs s → T.p v s → v.cells.size = n ∧ o + n ≤ cs.length ∧ (∀ u ∈ v.cells.toList, u.oneCell' = true) ∧ R'.p (cs.take o ++ v.cells.toList ++ cs.drop (o + n)) s)
    (next : J X ops Q rest Γ H') : J X ops Q (⟨none, .store t x y, ty, pos, af, none⟩ :: rest) Γ H := by
  intro a w hs
  unfold wpN
  rw [if_pos (wanted_none rfl _)]
  have h1 : a.eval x = .pointer (some ⟨b, o, none⟩) := hx.ev (hs.on (slotOf x)) (fun _ h => h)
  have h2 := hy.ev (hs.on (slotOf y)) (fun _ h => h)
  obtain ⟨_, cs, hc, hr⟩ := hs.hp.1 _ hU.mem
  obtain ⟨e1, e2, e3, e4⟩ := hR _ _ _ hr h2
  have hst := run_storeCells_at X.P b o tt (a.eval y).cells.toList 0 cs w hc (by simp at e2; simp [e1]; omega) e3
  simp only [Nat.add_zero] at hst
  have hlen : (a.eval y).cells.toList.length = n := by simpa using e1
  rw [hlen] at hst
  have hrun : (execOp a.eval ⟨none, .store t x y, ty, pos, af, none⟩).run X.P w = .ok .skip (w.setRow b (cs.toList.take o ++ (a.eval y).cells.toList ++ cs.toList.drop (o + n)).toArray) := by
    simp [execOp, Instr.storeAt, h1, Instr.sureAddr, storeVar, run_sizeOf_sz hz, e1, hst]
  unfold Oper.wp
  rw [hrun]
  have hw := wrote_setRow hc rfl (cs.toList.take o ++ (a.eval y).cells.toList ++ cs.toList.drop (o + n))
  refine next _ _ (hs.write hU hw (R'.up ?_ e4))
  exact ⟨hw.size, fun k hks hk => hw.other k hks (fun q => hk (q ▸ .inr ⟨_, hU.mem, rfl⟩)), fun k _ hk => hk⟩

/-! ### Entering and leaving -/
def gam0 : Nat → List Ty → Gam
  | _, [] => []
  | i, T :: Ts => (i, T) :: gam0 (i + 1) Ts

/-- What is owed at the end: the value returned is of T, for the caller. -/
def Post (X : Cx) (T : Ty) : Ending → World → Prop := fun e w' => ∃ v, e = .returned v ∧ Kept X.L X.w0 w' ∧ T.p v ⟨w', X.M0⟩

theorem slots0 {s : St} : ∀ {Ts : List Ty} {vs : List Value} (i : Nat), vsP Ts vs s → ∀ j T, look (gam0 i Ts) j = some T → i ≤ j ∧ ∃ v, vs[j - i]? = some v ∧ T.p v s
  | [], _, _, _, _, _, h => by simp [gam0, look] at h
  | _ :: _, [], _, hv, _, _, _ => hv.elim
  | T0 :: Ts, v :: vs, i, hv, j, T, h => by
    rw [gam0, look_cons] at h
    cases hb : Nat.beq i j with
    | true =>
      rw [hb] at h; cases h
      have := Nat.eq_of_beq_eq_true hb
      subst this
      exact ⟨Nat.le_refl _, v, by simp, hv.1⟩
    | false =>
      rw [hb] at h
      obtain ⟨h1, u, h2, h3⟩ := slots0 (i + 1) hv.2 j T h
      exact ⟨by omega, u, by rw [show j - i = (j - (i + 1)) + 1 by omega]; simpa using h2, h3⟩

theorem vsP.length {s : St} : ∀ {Ts : List Ty} {vs : List Value}, vsP Ts vs s → vs.length = Ts.length
  | [], [], _ => rfl
  | [], _ :: _, h => h.elim
  | _ :: _, [], h => h.elim
  | _ :: _, _ :: _, h => by simp [vsP.length h.2]

theorem Ctr.of {P : Program} {f N : Nat} {fn : Func} {c : Code} {Ts : List Ty} {T : Ty} (hf : P.funcs[f]? = some fn) (hb : fn.body = some c) (hN : fn.ntmps = N) (hl : Ts.length ≤ N)
    (h : ∀ w0 M0, JC ⟨P, w0, M0, [], N, []⟩ c (bodyPost P fn (Post ⟨P, w0, M0, [], N, []⟩ T)) (gam0 0 Ts) []) : Ctr P f Ts T := by
  intro w0 M0 hM vs hvs
  refine Calls.mono (calls_of_wp (R := Post ⟨P, w0, M0, [], N, []⟩ T) hf hb ?_) fun e w' ⟨v, h1, h2, h3⟩ => ⟨v, h1, h2.below, h3⟩
  subst hN
  refine h w0 M0 _ _ ⟨?_, rfl, fun k hk => ⟨hM k hk, by simp⟩, Kept.refl _ _, fun i T hi => ?_, ⟨fun e he => by (cases he), List.Pairwise.nil⟩⟩
  · have := hvs.length
    simp; omega
  · obtain ⟨_, v, hv, hT⟩ := slots0 0 hvs i T hi
    have hM' : mask M0 [] = M0 := by funext k; simp [mask]
    show T.p _ ⟨w0, mask M0 []⟩
    rw [hM']
    have hlt : i < vs.length := (List.getElem?_eq_some_iff.1 hv).1
    have : (vs.toArray ++ Array.replicate (fn.ntmps - vs.toArray.size) undef).getD i undef = v := by
      rw [Array.getD_eq_getD_getElem?, Array.getElem?_append_left (by simpa using hlt)]
      simp at hv
      simp [hv]
    rw [this]; exact hT

/-- How a result's variable reads at the end. -/
inductive ResT (X : Cx) (Γ : Gam) (H : Hp) : ResultVar → Ty → Prop
  | tmp {t : Nat} {T : Ty} (h : OpT Γ (.tmp t) T) : ResT X Γ H (.tmp t) T
  | scal {t b o tt cty : Nat} {R : CTy} {T : Ty} (h : OpT Γ (.tmp t) (pOwn b o)) (he : (⟨b, tt, R⟩ : HEnt) ∈ H) (hs : scalB X.P cty = true) (hR : ∀ cs s, R.p cs s → ∃ v, cs[o]? = some v ∧ T.p v s) : ResT X Γ H (.cell t cty) T
  | agg {t b o tt cty n : Nat} {R : CTy} {T : Ty} (h : OpT Γ (.tmp t) (pOwn b o)) (he : (⟨b, tt, R⟩ : HEnt) ∈ H) (hs : aggB X.P cty = some n) (hR : ∀ cs s, R.p cs s → o + n ≤ cs.length ∧ T.p (.agg ((cs.drop o).take n).toArray) s) : ResT X Γ H (.cell t cty) T

def resOne (tmps : Array Value) : ResultVar → Sem Value
  | .tmp t => pure (tmps.getD t undef)
  | .cell a t => do loadVar t (← asAddr (tmps.getD a undef))

theorem ResT.run {r : ResultVar} {T : Ty} (h : ResT X Γ H r T) {a : Act} {w : World} (hs : Sat X Γ H a w) : ∃ v, (resOne a.tmps r).run X.P w = .ok v w ∧ T.p v ⟨w, mask X.M0 H⟩ := by
  cases h with
  | tmp h => exact ⟨_, rfl, h.ev (hs.on (slotOf (.tmp _))) (fun _ h => h)⟩
  | scal h he hsc hR =>
    have h1 := h.ev (hs.on (slotOf (.tmp _))) (fun _ h => h)
    obtain ⟨cs, hr, hc⟩ := hs.hp.cell he
    obtain ⟨v, hv, hT⟩ := hR _ _ hr
    refine ⟨v, ?_, hT⟩
    have h1' : a.tmps.getD _ undef = _ := h1
    simp only [resOne, h1', asAddr, Sem.run_bind, Sem.run_pure, Result.andThen_ok, run_loadVar_scal hsc (hc _ _ hv)]
  | agg h he hag hR =>
    have h1 := h.ev (hs.on (slotOf (.tmp _))) (fun _ h => h)
    obtain ⟨cs, hr, hc⟩ := hs.hp.cell he
    obtain ⟨hl, hT⟩ := hR _ _ hr
    refine ⟨_, ?_, hT⟩
    have h1' : a.tmps.getD _ undef = _ := h1
    rename_i t b o tt cty n R
    have := run_loadVar_agg hag (w := w) (b := b) (o := o) (cs := (cs.drop o).take n) (by simp; omega) (fun j u hu => by
      refine hc (o + j) u ?_
      rw [List.getElem?_take] at hu
      split at hu
      · rw [List.getElem?_drop] at hu; exact hu
      · cases hu)
    simp only [resOne, h1', asAddr, Sem.run_bind, Sem.run_pure, Result.andThen_ok, this]

theorem results_eq (fn : Func) (tmps : Array Value) : results fn tmps = (do let vs ← fn.results.mapM (resOne tmps); pure (if h : vs.size = 1 then vs[0] else .tuple vs)) := by
  unfold results
  congr 1

/-- Several results: a tuple. -/
def tTup (Ts : List Ty) : Ty := ⟨fun v s => ∃ vs : List Value, v = .tuple vs.toArray ∧ vsP Ts vs s, fun {v s s'} hl ⟨vs, h, hv⟩ => ⟨vs, h, by
  have key : ∀ {Ts : List Ty} {vs : List Value}, vsP Ts vs s → vsP Ts vs s' := by
    intro Ts
    induction Ts with
    | nil => intro vs h; cases vs <;> first | exact trivial | exact h.elim
    | cons T Ts ih => intro vs h; cases vs <;> first | exact h.elim | exact ⟨T.up hl h.1, ih h.2⟩
  exact key hv⟩⟩

theorem mask_out (w : World) : Le ⟨w, mask X.M0 H⟩ ⟨w, X.M0⟩ := ⟨Nat.le_refl _, fun _ _ _ => rfl, fun _ _ h => .inl h⟩

variable {fn : Func}
theorem ret_done {a : Act} {w : World} {v : Value} {T : Ty} (hs : Sat X Γ H a w) (hr : (results fn a.tmps).run X.P w = .ok v w) (hv : T.p v ⟨w, mask X.M0 H⟩) (hD : X.Df = [] := by rfl) : bodyPost X.P fn (Post X T) .ret a w ∧ bodyPost X.P fn (Post X T) .normal a w :=
  have h : Post X T (.returned v) w := ⟨v, rfl, hs.below, T.up (mask_out w) hv⟩
  ⟨⟨hs.defers.trans hD, v, hr, h⟩, ⟨hs.defers.trans hD, v, hr, h⟩⟩

theorem JQ.ret1 {r : ResultVar} {T : Ty} (hf : fn.results = #[r]) (h : ResT X Γ H r T) (hD : X.Df = [] := by rfl) : JQ X (bodyPost X.P fn (Post X T)) .ret Γ H := fun a w hs => by
  obtain ⟨v, hr, hT⟩ := h.run hs
  exact (ret_done hs (by rw [results_eq, hf]; simp [hr]) hT hD).1
theorem JQ.end1 {r : ResultVar} {T : Ty} (hf : fn.results = #[r]) (h : ResT X Γ H r T) (hD : X.Df = [] := by rfl) : JQ X (bodyPost X.P fn (Post X T)) .normal Γ H := fun a w hs => by
  obtain ⟨v, hr, hT⟩ := h.run hs
  exact (ret_done hs (by rw [results_eq, hf]; simp [hr]) hT hD).2
theorem JQ.ret2 {r r2 : ResultVar} {T T2 : Ty} (hf : fn.results = #[r, r2]) (h : ResT X Γ H r T) (h2 : ResT X Γ H r2 T2) (hD : X.Df = [] := by rfl) : JQ X (bodyPost X.P fn (Post X (tTup [T, T2]))) .ret Γ H := fun a w hs => by
  obtain ⟨v, hr, hT⟩ := h.run hs
  obtain ⟨v2, hr2, hT2⟩ := h2.run hs
  exact (ret_done (v := .tuple #[v, v2]) (T := tTup [T, T2]) hs (by rw [results_eq, hf]; simp [hr, hr2]) ⟨[v, v2], rfl, hT, hT2, trivial⟩ hD).1
theorem JQ.ret3 {r r2 r3 : ResultVar} {T T2 T3 : Ty} (hf : fn.results = #[r, r2, r3]) (h : ResT X Γ H r T) (h2 : ResT X Γ H r2 T2) (h3 : ResT X Γ H r3 T3) (hD : X.Df = [] := by rfl) : JQ X (bodyPost X.P fn (Post X (tTup [T, T2, T3]))) .ret Γ H := fun a w hs => by
  obtain ⟨v, hr, hT⟩ := h.run hs
  obtain ⟨v2, hr2, hT2⟩ := h2.run hs
  obtain ⟨v3, hr3, hT3⟩ := h3.run hs
  exact (ret_done (v := .tuple #[v, v2, v3]) (T := tTup [T, T2, T3]) hs (by rw [results_eq, hf]; simp [hr, hr2, hr3]) ⟨[v, v2, v3], rfl, hT, hT2, hT3, trivial⟩ hD).1

/-- One part of a tuple. -/
theorem ot_extract {x : Operand} {Ts : List Ty} {n : Nat} {T : Ty} {dst : Option Tmp} (hx : OpT Γ x (tTup Ts)) (hT : Ts[n]? = some T) : OpTy X Γ H ⟨dst, .extract x n, ty, pos, af, gd⟩ T :=
  opTy_run fun a w hs => by
    obtain ⟨vs, h1, hv⟩ := hx.ev hs (mem_slots (by simp [Op.operands]))
    have key : ∀ {Ts : List Ty} {vs : List Value} (n : Nat), vsP Ts vs ⟨w, mask X.M0 H⟩ → Ts[n]? = some T → ∃ v, vs[n]? = some v ∧ T.p v ⟨w, mask X.M0 H⟩ := by
      intro Ts
      induction Ts with
      | nil => intro vs n _ h; simp at h
      | cons T0 Ts ih =>
        intro vs n hv h
        cases vs with
        | nil => exact hv.elim
        | cons v vs =>
          cases n with
          | zero => simp at h; subst h; exact ⟨v, rfl, hv.1⟩
          | succ n => exact ih n hv.2 (by simpa using h)
    obtain ⟨v, hv', hT'⟩ := key n hv hT
    exact ⟨v, w, by simp [execOp, h1, Instr.extract, hv'], Below.refl _ _, hT'⟩

end Go.Rt
