/- The logic of the walks, part L: arrays, blocks that are read alone from some point on, calls that write a lent row. Conditions: none; nothing of a program stands here. -/
import Derived.Test.YtkpmcldbcljkfaaRtK
import Derived.ChangeKeysEq
import Derived.Laws.StructEq
set_option linter.unusedVariables false
set_option linter.unusedSimpArgs false
namespace Go.Rt
open Go Go.RowKit

variable {X : Cx} {ops : Array Oper} {Q : Exit → Act → World → Prop} {rest : List Oper} {Γ : Gam} {H : Hp}
variable {dst : Option Tmp} {ty : TypeId} {pos : String} {af : Array Edge} {gd : Option (Nat × Bool)} {o : Oper} {T T' : Ty}

/-! ### A block of ours is read alone from here on -/
theorem sub_freezeP {b e : Nat} {R R' : CTy} {H' : Hp} (ts : List Nat) (hts : AllL Γ (pOwn b 0) ts) (hr : HRem ⟨b, e, R⟩ H H') (hR : ∀ cs s, R.p cs s → R'.p cs s) :
    ∀ a w, Sat X Γ H a w → Sat X (setTs Γ (tPtr R') ts) H' a w := fun a w hs => by
  have hs' := sub_heap hr.sub a w hs
  refine ⟨hs'.size, hs'.defers, hs'.m0, hs'.below, fun i U hU => ?_, hs'.hp⟩
  rcases setTs_look hU with ⟨hi, rfl⟩ | hU
  · have hv : a.tmps.getD i undef = .pointer (some ⟨b, 0, none⟩) := hs.slots i _ (hts.spec i hi)
    obtain ⟨hb0, cs, hcs, h1⟩ := hs.hp.1 _ hr.mem
    have hnm : ¬ mask X.M0 H' b := by
      rintro (hm | ⟨e', he', hb⟩)
      · have h4 := hs.m0 b hm
        have hb0' : X.w0.heap.size ≤ b ∨ b ∈ X.L := hb0
        rcases hb0' with q | q
        · omega
        · exact h4.2 q
      · exact hr.ne hs.hp.2 e' he' hb
    refine ⟨b, 0, cs.toList, hv, R'.up (mask_le fun e' he' => let ⟨e2, h4, h5, _⟩ := hr.sub.mem e' he'; ⟨e2, h4, h5⟩) (hR _ _ h1), fun j u hu => ⟨?_, hnm⟩⟩
    have hcs' : w.heap[b]? = some (.cells cs e (0, 0)) := hcs
    simp only [World.cell?, hcs', Nat.zero_add]
    simpa using hu
  · exact hs'.slots i U hU

/-! ### Arrays of four ints -/
def Mo.at (m : Mo) (i : Nat) : Int := match i with | 0 => m.a | 1 => m.b | 2 => m.c | _ => m.d
def Mo.set (m : Mo) (i : Nat) (x : Int) : Mo := match i with | 0 => { m with a := x } | 1 => { m with b := x } | 2 => { m with c := x } | _ => { m with d := x }
theorem moT_at {m : Mo} {i : Nat} (h : i < 4) : (moT m)[i]? = some (tIs (.int .i64 (m.at i))) := by
  match i, h with
  | 0, _ => rfl
  | 1, _ => rfl
  | 2, _ => rfl
  | 3, _ => rfl
theorem moT_set {m : Mo} {i : Nat} {x : Int} (h : i < 4) : moT (m.set i x) = (moT m).set i (tIs (.int .i64 x)) := by
  match i, h with
  | 0, _ => rfl
  | 1, _ => rfl
  | 2, _ => rfl
  | 3, _ => rfl
/-- An array type of four ints: its element type; its values are compared without a guard. -/
def arB4 (P : Program) (t : TypeId) : Option TypeId := match P.underlying t with
  | some (.array 4 e) => match P.underlying e, P.info? e with
    | some (.int .i64), some i => if i.size == 1 && P.cellsOf e == 1 && !P.eqGuardType P.depth t then some e else none
    | _, _ => none
  | _ => none
theorem arB4_spec {P : Program} {t e : TypeId} (h : arB4 P t = some e) : P.underlying t = some (.array 4 e) ∧ P.underlying e = some (.int .i64) ∧ (∃ i, P.info? e = some i ∧ i.size = 1) ∧ P.cellsOf e = 1 ∧ P.eqGuardType P.depth t = false := by
  unfold arB4 at h
  split at h
  · rename_i e' hu
    split at h
    · rename_i i h1 h2
      split at h
      · rename_i hc
        cases h
        simp only [Bool.and_eq_true, beq_iff_eq, Bool.not_eq_true'] at hc
        exact ⟨hu, h1, ⟨i, h2, hc.1.1⟩, hc.1.2, hc.2⟩
      · cases h
    · cases h
  · cases h

theorem moV {v : Value} {m : Mo} {s : St} (h : (tV encMo m).p v s) : v = .agg #[.int .i64 m.a, .int .i64 m.b, .int .i64 m.c, .int .i64 m.d] := by
  obtain ⟨h1, _, h3⟩ := h
  cases v <;> first | (cases h1; done) | skip
  rename_i cs
  simp only [Value.cells] at h3
  have h4 := cellsP.length h3
  obtain ⟨l⟩ := cs
  simp only [moT, List.length_cons, List.length_nil] at h4 h3
  match l, h4, h3 with
  | [a, b, c, d], _, ⟨e1, _, e2, _, e3, _, e4, _, _⟩ =>
    have e1' : a = .int .i64 m.a := e1
    have e2' : b = .int .i64 m.b := e2
    have e3' : c = .int .i64 m.c := e3
    have e4' : d = .int .i64 m.d := e4
    rw [e1', e2', e3', e4']

theorem run_isAgg_int {P : Program} {e : TypeId} {k : IntKind} (h : P.underlying e = some (.int k)) (w : World) : (isAgg e).run P w = .ok false w := by
  simp [isAgg, run_underlying h]

theorem ot_indexA {t e : TypeId} {x y : Operand} {k : IntKind} {n : Int} {m : Mo} (hx : OpT Γ x (tV encMo m)) (hy : OpT Γ y (tIs (.int k n))) (ht : arB4 X.P t = some e) (h0 : 0 ≤ n) (h4 : n < 4) :
    OpTy X Γ H ⟨dst, .index t x y, ty, pos, af, gd⟩ (tIs (.int .i64 (m.at n.toNat))) :=
  opTy_run fun a w hs => by
    have h1 := moV (hx.ev hs (mem_slots (by simp [Op.operands])))
    have h2 : a.eval y = .int k n := hy.ev hs (mem_slots (by simp [Op.operands]))
    obtain ⟨hu, he, ⟨i, hi, hsz⟩, _, _⟩ := arB4_spec ht
    refine ⟨.int .i64 (m.at n.toNat), w, ?_, Below.refl _ _, rfl⟩
    have hn : n = 0 ∨ n = 1 ∨ n = 2 ∨ n = 3 := by omega
    simp only [execOp, Instr.index, h1, h2, asIntOf, Sem.run_bind, Sem.run_pure, Result.andThen_ok, run_underlying hu, sizeOf, typeInfo, run_program, hi, hsz]
    rcases hn with rfl | rfl | rfl | rfl <;> simp [part, run_isAgg_int he, Mo.at, sizeOf, typeInfo, hi, hsz]

theorem ot_indexAddrA {t e : TypeId} {x y : Operand} {k : IntKind} {n : Int} {b o : Nat} (hx : OpT Γ x (pOwn b o)) (hy : OpT Γ y (tIs (.int k n))) (ht : arB4 X.P t = some e) (h0 : 0 ≤ n) (h4 : n < 4) :
    OpTy X Γ H ⟨dst, .indexAddr t x y, ty, pos, af, gd⟩ (pOwn b (o + n.toNat)) :=
  opTy_run fun a w hs => by
    have h1 : a.eval x = .pointer (some ⟨b, o, none⟩) := hx.ev hs (mem_slots (by simp [Op.operands]))
    have h2 : a.eval y = .int k n := hy.ev hs (mem_slots (by simp [Op.operands]))
    obtain ⟨hu, he, ⟨i, hi, hsz⟩, _, _⟩ := arB4_spec ht
    refine ⟨_, w, ?_, Below.refl _ _, rfl⟩
    simp [execOp, Instr.indexAt, h1, h2, asIntOf, run_underlying hu, Instr.sureAddr, sizeOf, typeInfo, hi, hsz, h0, h4, add_at]

/-- A pointer to one cell that is read alone. -/
def cOne (T : Ty) : CTy := ⟨fun cs s => ∃ v, cs[0]? = some v ∧ T.p v s, fun hl ⟨v, h1, h2⟩ => ⟨v, h1, T.up hl h2⟩⟩
theorem cOne_ld {T : Ty} : ∀ cs s, (cOne T).p cs s → ∃ v, cs[0]? = some v ∧ T.p v s := fun _ _ h => h
theorem ot_indexAddrP {t e : TypeId} {x y : Operand} {k : IntKind} {n : Int} {R : CTy} {T : Ty} (hx : OpT Γ x (tPtr R)) (hy : OpT Γ y (tIs (.int k n))) (ht : arB4 X.P t = some e) (h0 : 0 ≤ n) (h4 : n < 4)
    (hR : ∀ cs s, R.p cs s → ∃ v, cs[n.toNat]? = some v ∧ T.p v s) :
    OpTy X Γ H ⟨dst, .indexAddr t x y, ty, pos, af, gd⟩ (tPtr (cOne T)) :=
  opTy_run fun a w hs => by
    obtain ⟨b, o, cs, h1, hr, hc⟩ := hx.ev hs (mem_slots (by simp [Op.operands]))
    have h2 : a.eval y = .int k n := hy.ev hs (mem_slots (by simp [Op.operands]))
    obtain ⟨hu, he, ⟨i, hi, hsz⟩, _, _⟩ := arB4_spec ht
    obtain ⟨v, hv, hT⟩ := hR _ _ hr
    refine ⟨.pointer (some ⟨b, o + n.toNat, none⟩), w, ?_, Below.refl _ _, b, o + n.toNat, cs.drop n.toNat, rfl, ⟨v, by rw [List.getElem?_drop]; exact hv, hT⟩, fun j u hu' => ?_⟩
    · simp [execOp, Instr.indexAt, h1, h2, asIntOf, run_underlying hu, Instr.sureAddr, sizeOf, typeInfo, hi, hsz, h0, h4, add_at]
    · rw [List.getElem?_drop] at hu'
      have := hc _ _ hu'
      rwa [← Nat.add_assoc] at this

theorem mo_ld {m : Mo} {i : Nat} (h : i < 4) : ∀ cs s, (cTs (moT m)).p cs s → ∃ v, cs[i]? = some v ∧ (tIs (.int .i64 (m.at i))).p v s := cTs_ld (moT_at h)
theorem mo_st {m : Mo} {i : Nat} {x : Int} (h : i < 4) : ∀ cs v s, (cTs (moT m)).p cs s → (tIs (.int .i64 x)).p v s →
    v.cells.size = 1 ∧ i + 1 ≤ cs.length ∧ (∀ u ∈ v.cells.toList, u.oneCell' = true) ∧ (cTs (moT (m.set i x))).p (cs.take i ++ v.cells.toList ++ cs.drop (i + 1)) s :=
  st_cell (one_is rfl rfl) (moT_set h) (nat_blt.2 (by simpa [moT] using h))

theorem moEq {m n : Mo} : (m.a = n.a ∧ m.b = n.b ∧ m.c = n.c ∧ m.d = n.d) ↔ m = n := by
  obtain ⟨a, b, c, d⟩ := m
  obtain ⟨a', b', c', d'⟩ := n
  simp [Mo.mk.injEq]
instance : DecidableEq Mo := fun m n => decidable_of_iff _ moEq

theorem ot_eqA {t e yt : TypeId} {x y : Operand} {m n : Mo} (hx : OpT Γ x (tV encMo m)) (hy : OpT Γ y (tV encMo n)) (ht : arB4 X.P t = some e) :
    OpTy X Γ H ⟨dst, .binOp .eql t x y yt, ty, pos, af, gd⟩ (tIs (.bool (decide (m = n)))) :=
  opTy_run fun a w hs => by
    have h1 := moV (hx.ev hs (mem_slots (by simp [Op.operands])))
    have h2 := moV (hy.ev hs (mem_slots (by simp [Op.operands])))
    obtain ⟨hu, he, ⟨i, hi, hsz⟩, hcl, hg⟩ := arB4_spec ht
    refine ⟨.bool (decide (m = n)), w, ?_, Below.refl _ _, rfl⟩
    have hd : decide (m = n) = ((m.a == n.a) && ((m.b == n.b) && ((m.c == n.c) && (m.d == n.d)))) := by
      rw [Bool.eq_iff_iff]; simp only [decide_eq_true_eq, Bool.and_eq_true, beq_iff_eq]; exact moEq.symm
    have hr4 : List.range 4 = [0, 1, 2, 3] := rfl
    simp only [execOp, h1, h2, Sem.run_bind, run_eqGuard_agg w _ _ _ _ _ _ hg, Result.andThen_ok, run_eql_struct, show (10000 : Nat) = 9999 + 1 from rfl, run_equalIn_array w 9999 _ _ hu hi, hcl, hr4]
    simp [Op.eqItems, part, run_isAgg_int he, run_equalIn_int w 9998 e .i64 .i64 _ _ he, hd]
    cases h : m.a == n.a <;> cases h' : m.b == n.b <;> cases h'' : m.c == n.c <;> cases h3 : m.d == n.d <;> simp_all

/-! ### A slice of an array -/
/-- An int. -/
def encN : Enc Int := { sz := 1, ag := false, C := fun n cs _ => cs = [.int .i64 n], up := fun _ h => h, len := fun h => by rw [h]; rfl, one := fun h => by rw [h]; simp [Value.oneCell'] }
theorem encN_ld {n : Int} : ∀ cs s, (cEnc encN n).p cs s → ∃ v, cs[0]? = some v ∧ (tIs (.int .i64 n)).p v s := fun cs s h => by
  have h' : cs = [.int .i64 n] := h
  exact ⟨_, by rw [h']; rfl, rfl⟩
theorem encN_in {n : Int} : ∀ v s, (tIs (.int .i64 n)).p v s → (tV encN n).p v s := fun v s h => by
  have h' : v = .int .i64 n := h
  subst h'; exact ⟨rfl, rfl⟩
def Mo.list (m : Mo) : List Int := [m.a, m.b, m.c, m.d]
theorem ot_sliceA {t e : TypeId} {x : Operand} {R : CTy} {m : Mo} (hx : OpT Γ x (tPtr R)) (ht : arB4 X.P t = some e) (hR : ∀ cs s, R.p cs s → ∀ i, i < 4 → cs[i]? = some (.int .i64 (m.at i))) :
    OpTy X Γ H ⟨dst, .slice t x none none none, ty, pos, af, gd⟩ (tSl encN m.list) :=
  opTy_run fun a w hs => by
    obtain ⟨b, o, cs, h1, hr, hc⟩ := hx.ev hs (mem_slots (by simp [Op.operands]))
    obtain ⟨hu, he, ⟨i, hi, hsz⟩, _, _⟩ := arB4_spec ht
    refine ⟨.slice (some ⟨b, o, none⟩) 4 4, w, ?_, Below.refl _ _, some ⟨b, o, none⟩, 4, 4, rfl, rfl, Nat.le_refl _, fun _ => ⟨b, o, rfl, fun j x hx => ⟨[.int .i64 x], rfl, fun l u hu' => ?_⟩⟩⟩
    · simp [execOp, Instr.sliceAt, run_underlying hu, h1, Instr.sureAddr, Instr.sliceBounds, sizeOf, typeInfo, hi, hsz, add_at]
    · have hj : j < 4 := by have := (List.getElem?_eq_some_iff.1 hx).1; simpa [Mo.list] using this
      have hl : l = 0 := by have := (List.getElem?_eq_some_iff.1 hu').1; simpa using this
      subst hl
      simp only [List.getElem?_cons_zero, Option.some.injEq] at hu'
      subst hu'
      have h2 := hR _ _ hr j hj
      have h3 : x = m.at j := by
        match j, hj with
        | 0, _ => simpa [Mo.list, Mo.at] using hx.symm
        | 1, _ => simpa [Mo.list, Mo.at] using hx.symm
        | 2, _ => simpa [Mo.list, Mo.at] using hx.symm
        | 3, _ => simpa [Mo.list, Mo.at] using hx.symm
      subst h3
      have := hc _ _ h2
      show (⟨w, mask X.M0 H⟩ : St).cell b (o + j * 1 + 0) _
      rwa [Nat.mul_one, Nat.add_zero]
/-- The exponents within a term. -/
theorem tm_exp {t : Tm} : ∀ cs s, (cDrop (cEnc encTm t) 2).p cs s → ∀ i, i < 4 → cs[i]? = some (.int .i64 (t.exp.at i)) := fun cs s ⟨ds, hd, e⟩ i hi => by
  subst e
  have h0 : cellsP (tmT t) ds s := hd.2
  rw [List.getElem?_drop]
  match i, hi with
  | 0, _ => obtain ⟨v, h1, h2⟩ := cellsP.get (i := 2) h0 rfl; rw [h1]; exact congrArg some h2
  | 1, _ => obtain ⟨v, h1, h2⟩ := cellsP.get (i := 3) h0 rfl; rw [h1]; exact congrArg some h2
  | 2, _ => obtain ⟨v, h1, h2⟩ := cellsP.get (i := 4) h0 rfl; rw [h1]; exact congrArg some h2
  | 3, _ => obtain ⟨v, h1, h2⟩ := cellsP.get (i := 5) h0 rfl; rw [h1]; exact congrArg some h2

/-! ### A call of a function value -/
theorem vsP_app {Us : List Ty} {cap : List Value} : ∀ {Ts : List Ty} {vs : List Value} {s : St}, vsP Ts vs s → vsP Us cap s → vsP (Ts ++ Us) (vs ++ cap) s
  | [], [], _, _, h => h
  | [], _ :: _, _, h, _ => h.elim
  | _ :: _, [], _, h, _ => h.elim
  | _ :: _, _ :: _, _, h, h' => ⟨h.1, vsP_app h.2 h'⟩
theorem ot_callv {f : FuncId} {fo : Operand} {cap : List Value} {xs : List Operand} {Ts Us : List Ty} {T : Ty} {ats : Array TypeId} (hf : fnB X.P f = true) (hfo : OpT Γ fo (tFn f cap)) (hc : Ctr X.P f (Ts ++ Us) T) (hx : OpTs Γ xs Ts) (hcap : ∀ s, vsP Us cap s) :
    OpTy X Γ H ⟨dst, .call { callee := .value fo, args := xs.toArray, argTypes := ats }, ty, pos, af, gd⟩ T := by
  intro a w hs
  have h1 : a.eval fo = .func (.func f) #[] cap.toArray := hfo.ev hs (fun i hi => mem_slots (by simp [Op.operands, Call.operands]) i hi)
  have hv := hx.ev hs (fun x hx => mem_slots (by simp [Op.operands, Call.operands, hx]))
  have h := hc w _ (mask_lt hs) _ (vsP_app hv (hcap _))
  unfold Oper.wp
  have hr := run_callL (ty := ty) (pos := pos) (af := af) (gd := gd) (xs := xs) (ats := ats) hf h1 (w := w) (d := dst)
  rw [hr]
  refine Calls.mono h ?_
  rintro e w' ⟨v, rfl, hb, hT⟩
  exact ⟨v, rfl, hb, hT⟩
theorem cTs_F {α : Type} {n : Nat} {f : α → List Ty} {x : α} {Ts : List Ty} (h : f x = Ts) (hn : Ts.length = n) : ∀ cs s, (cTs Ts).p cs s → (cEnc (encF n f) x).p cs s := fun cs s hc => ⟨by rw [h]; exact hn, by rw [h]; exact hc⟩
end Go.Rt
