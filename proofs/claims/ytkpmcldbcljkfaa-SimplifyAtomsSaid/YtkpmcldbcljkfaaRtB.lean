/- The logic of the walks, part B: what each kind of operation does to a typed frame. Conditions: none; nothing of a program stands here. -/
import Derived.Test.YtkpmcldbcljkfaaRtA
set_option linter.unusedVariables false
set_option linter.unusedSimpArgs false
namespace Go.Rt
open Go Go.RowKit

variable {X : Cx} {ops : Array Oper} {Q : Exit → Act → World → Prop} {rest : List Oper} {Γ : Gam} {H : Hp}
variable {dst : Option Tmp} {ty : TypeId} {pos : String} {af : Array Edge} {gd : Option (Nat × Bool)}

/-! ### Facts on the program's types, for the kernel -/
def scalB (P : Program) (t : TypeId) : Bool := match P.underlying t with
  | some (.struct _) => false
  | some (.array _ _) => false
  | some _ => true
  | none => false
def aggB (P : Program) (t : TypeId) : Option Nat := match P.underlying t with
  | some (.struct _) => (P.info? t).map (·.size)
  | some (.array _ _) => (P.info? t).map (·.size)
  | _ => none
def szB (P : Program) (t : TypeId) : Option Nat := (P.info? t).map (·.size)
/-- A slice type's element type, its cells and its bytes. -/
def slB (P : Program) (t : TypeId) : Option (Nat × Nat × Nat) := match P.underlying t with
  | some (.slice e) => (P.info? e).map fun i => (e, i.size, i.bytes)
  | _ => none
def arB (P : Program) (t : TypeId) : Option (Nat × Nat × Nat) := match P.underlying t with
  | some (.array n e) => (P.info? e).map fun i => (n, e, i.size)
  | _ => none
/-- A struct type's field: where it lies, and its type; its size is not 0. -/
def fdB (P : Program) (t f : Nat) : Option (Nat × Nat) := match P.underlying t with
  | some (.struct fs) => match fs[f]? with
    | some x => if (P.info? x.type).any (fun i => i.size != 0) then some (x.offset, x.type) else none
    | none => none
  | _ => none
def zeroB (P : Program) (t : TypeId) : Option Value := (P.info? t).bind (·.zero)
def fnB (P : Program) (f : FuncId) : Bool := match P.funcs[f]? with
  | some fn => !(fn.name == "runtime.NumGoroutine") && fn.body.isSome
  | none => false

theorem run_isAgg_scal {P : Program} {t : TypeId} (h : scalB P t = true) (w : World) : (isAgg t).run P w = .ok false w := by
  unfold scalB at h
  cases hu : P.underlying t with
  | none => rw [hu] at h; cases h
  | some d => rw [hu] at h; cases d <;> first | exact absurd h Bool.false_ne_true | simp [isAgg, run_underlying hu]
theorem run_isAgg_agg {P : Program} {t : TypeId} {n : Nat} (h : aggB P t = some n) (w : World) : (isAgg t).run P w = .ok true w ∧ (sizeOf t).run P w = .ok n w := by
  unfold aggB at h
  cases hu : P.underlying t with
  | none => rw [hu] at h; cases h
  | some d =>
    rw [hu] at h
    cases d <;> first | cases h | skip
    all_goals
      cases hi : P.info? t with
      | none => rw [hi] at h; cases h
      | some i => rw [hi] at h; cases h; exact ⟨by simp [isAgg, run_underlying hu], by simp [sizeOf, typeInfo, hi]⟩
theorem run_sizeOf_sz {P : Program} {t : TypeId} {n : Nat} (h : szB P t = some n) (w : World) : (sizeOf t).run P w = .ok n w := by
  unfold szB at h
  cases hi : P.info? t with
  | none => rw [hi] at h; cases h
  | some i => rw [hi] at h; cases h; simp [sizeOf, typeInfo, hi]
theorem slB_spec {P : Program} {t e sz by_ : Nat} (h : slB P t = some (e, sz, by_)) : P.underlying t = some (.slice e) ∧ ∃ i, P.info? e = some i ∧ i.size = sz ∧ i.bytes = by_ := by
  unfold slB at h
  cases hu : P.underlying t with
  | none => rw [hu] at h; cases h
  | some d =>
    rw [hu] at h
    cases d <;> first | cases h | skip
    rename_i e'
    cases hi : P.info? e' with
    | none => simp [hi] at h
    | some i => simp [hi] at h; obtain ⟨rfl, rfl, rfl⟩ := h; exact ⟨rfl, i, hi, rfl, rfl⟩
theorem arB_spec {P : Program} {t n e sz : Nat} (h : arB P t = some (n, e, sz)) : P.underlying t = some (.array n e) ∧ ∃ i, P.info? e = some i ∧ i.size = sz := by
  unfold arB at h
  cases hu : P.underlying t with
  | none => rw [hu] at h; cases h
  | some d =>
    rw [hu] at h
    cases d <;> first | cases h | skip
    rename_i n' e'
    cases hi : P.info? e' with
    | none => simp [hi] at h
    | some i => simp [hi] at h; obtain ⟨rfl, rfl, rfl⟩ := h; exact ⟨rfl, i, hi, rfl⟩

theorem add_at (b o n : Nat) : (⟨b, o, none⟩ : Addr).add n = ⟨b, o + n, none⟩ := by unfold Addr.add; split <;> simp_all

theorem run_loadVar_scal {P : Program} {t : TypeId} (h : scalB P t = true) {w : World} {b o : Nat} {v : Value} (hc : w.cell? ⟨b, o, none⟩ = some v) : (loadVar t ⟨b, o, none⟩).run P w = .ok v w := by
  simp [loadVar, run_isAgg_scal h, hc]
theorem run_loadVar_agg {P : Program} {t n : Nat} (h : aggB P t = some n) {w : World} {b o : Nat} {cs : List Value} (hn : cs.length = n) (hc : ∀ j u, cs[j]? = some u → w.cell? ⟨b, o + j, none⟩ = some u) : (loadVar t ⟨b, o, none⟩).run P w = .ok (.agg cs.toArray) w := by
  obtain ⟨h1, h2⟩ := run_isAgg_agg h w
  have h3 := run_loadCells_list (P := P) w ⟨b, o, none⟩ cs (by intro j u hu; rw [add_at]; exact hc j u hu)
  rw [hn] at h3
  simp [loadVar, h1, h2, h3]

/-! ### The general step -/
theorem opTy_run {o : Oper} {T : Ty} (h : ∀ a w, SatOn X (slotsOf o) Γ H a w → ∃ v w', (execOp a.eval o).run X.P w = .ok (.value v) w' ∧ Below w.heap.size w w' ∧ T.p v ⟨w', mask X.M0 H⟩) : OpTy X Γ H o T := by
  intro a w hs
  obtain ⟨v, w', hr, hb, hv⟩ := h a w hs
  unfold Oper.wp
  rw [hr]
  exact ⟨v, rfl, hb, hv⟩

theorem mem_slots {o : Oper} {x : Operand} (hx : x ∈ o.op.operands.toList) : ∀ i ∈ slotOf x, i ∈ slotsOf o := fun _ hi => List.mem_flatMap.2 ⟨x, hx, hi⟩

theorem ot_move {x : Operand} {T : Ty} (hx : OpT Γ x T) : OpTy X Γ H ⟨dst, .move x, ty, pos, af, gd⟩ T :=
  opTy_run fun _ w hs => ⟨_, w, rfl, Below.refl _ _, hx.ev hs (mem_slots (by simp [Op.operands]))⟩
theorem ot_assign {x : Operand} {T : Ty} (hx : OpT Γ x T) : OpTy X Γ H ⟨dst, .assign x, ty, pos, af, gd⟩ T :=
  opTy_run fun _ w hs => ⟨_, w, rfl, Below.refl _ _, hx.ev hs (mem_slots (by simp [Op.operands]))⟩

theorem ot_pick {c x y : Operand} {b : Bool} {T : Ty} (hc : OpT Γ c (tIs (.bool b))) (hx : b = true → OpT Γ x T) (hy : b = false → OpT Γ y T) : OpTy X Γ H ⟨dst, .pick c x y, ty, pos, af, gd⟩ T :=
  opTy_run fun a w hs => by
    have h1 : a.eval c = .bool b := hc.ev hs (mem_slots (by simp [Op.operands]))
    refine ⟨if b then a.eval x else a.eval y, w, by simp [execOp, h1, asBool], Below.refl _ _, ?_⟩
    cases b with
    | true => exact (hx rfl).ev hs (mem_slots (by simp [Op.operands]))
    | false => exact (hy rfl).ev hs (mem_slots (by simp [Op.operands]))

/-! ### Numbers and bools -/
theorem ot_bin {op : BinOp} {t yt : TypeId} {x y : Operand} {u v r : Value} (hx : OpT Γ x (tIs u)) (hy : OpT Γ y (tIs v))
    (hr : ∀ w, (do eqGuard op t x y u v; binOp op t u v : Sem Value).run X.P w = .ok r w) : OpTy X Γ H ⟨dst, .binOp op t x y yt, ty, pos, af, gd⟩ (tIs r) :=
  opTy_run fun a w hs => by
    have h1 : a.eval x = u := hx.ev hs (mem_slots (by simp [Op.operands]))
    have h2 : a.eval y = v := hy.ev hs (mem_slots (by simp [Op.operands]))
    refine ⟨r, w, ?_, Below.refl _ _, rfl⟩
    have := hr w
    simp only [execOp, h1, h2, Sem.run_bind, this, Result.andThen_ok, Sem.run_pure]

section
variable {t yt : TypeId} {x y : Operand} {k : IntKind} {a b r : Int}
theorem ot_add (hx : OpT Γ x (tIs (.int k a))) (hy : OpT Γ y (tIs (.int k b))) (hw : k.wrap (a + b) = r) : OpTy X Γ H ⟨dst, .binOp .add t x y yt, ty, pos, af, gd⟩ (tIs (.int k r)) :=
  ot_bin hx hy fun w => by subst hw; simp [eqGuard, binOp, Op.intArith]
theorem ot_sub (hx : OpT Γ x (tIs (.int k a))) (hy : OpT Γ y (tIs (.int k b))) (hw : k.wrap (a - b) = r) : OpTy X Γ H ⟨dst, .binOp .sub t x y yt, ty, pos, af, gd⟩ (tIs (.int k r)) :=
  ot_bin hx hy fun w => by subst hw; simp [eqGuard, binOp, Op.intArith]
theorem ot_mul (hx : OpT Γ x (tIs (.int k a))) (hy : OpT Γ y (tIs (.int k b))) (hw : k.wrap (a * b) = r) : OpTy X Γ H ⟨dst, .binOp .mul t x y yt, ty, pos, af, gd⟩ (tIs (.int k r)) :=
  ot_bin hx hy fun w => by subst hw; simp [eqGuard, binOp, Op.intArith]
theorem ot_quo (hx : OpT Γ x (tIs (.int k a))) (hy : OpT Γ y (tIs (.int k b))) (hb : b ≠ 0) (hw : k.wrap (a.tdiv b) = r) : OpTy X Γ H ⟨dst, .binOp .quo t x y yt, ty, pos, af, gd⟩ (tIs (.int k r)) :=
  ot_bin hx hy fun w => by subst hw; simp [eqGuard, binOp, Op.intDiv, hb]
theorem ot_rem (hx : OpT Γ x (tIs (.int k a))) (hy : OpT Γ y (tIs (.int k b))) (hb : b ≠ 0) (hw : a.tmod b = r) : OpTy X Γ H ⟨dst, .binOp .rem t x y yt, ty, pos, af, gd⟩ (tIs (.int k r)) :=
  ot_bin hx hy fun w => by subst hw; simp [eqGuard, binOp, Op.intDiv, hb]
theorem int_beq (a b : Int) : (a == b) = decide (a = b) := by
  by_cases h : a = b <;> simp [h]
theorem run_equal_bool {P : Program} {t : TypeId} (ht : P.underlying t = some .bool) (a b : Bool) (w : World) : (Op.equal t (.bool a) (.bool b)).run P w = .ok (a == b) w := by
  have h : ∀ d, (Op.equalIn (d + 1) t (.bool a) (.bool b)).run P w = .ok (a == b) w := fun d => by
    simp [Op.equalIn, run_underlying ht]
  exact h 9999
/-- '&', '|', '^' as the model has them. -/
def bitsOf (op : BinOp) (k : IntKind) (a b : Int) : Int := match op with
  | .and => k.wrap (BitVec.ofInt k.bits a &&& BitVec.ofInt k.bits b).toNat
  | .or => k.wrap (BitVec.ofInt k.bits a ||| BitVec.ofInt k.bits b).toNat
  | .xor => k.wrap (BitVec.ofInt k.bits a ^^^ BitVec.ofInt k.bits b).toNat
  | _ => 0
theorem ot_and (hx : OpT Γ x (tIs (.int k a))) (hy : OpT Γ y (tIs (.int k b))) (hw : bitsOf .and k a b = r) : OpTy X Γ H ⟨dst, .binOp .and t x y yt, ty, pos, af, gd⟩ (tIs (.int k r)) :=
  ot_bin hx hy fun w => by subst hw; simp [eqGuard, binOp, Op.intBits, bitsOf]
theorem ot_or (hx : OpT Γ x (tIs (.int k a))) (hy : OpT Γ y (tIs (.int k b))) (hw : bitsOf .or k a b = r) : OpTy X Γ H ⟨dst, .binOp .or t x y yt, ty, pos, af, gd⟩ (tIs (.int k r)) :=
  ot_bin hx hy fun w => by subst hw; simp [eqGuard, binOp, Op.intBits, bitsOf]
theorem ot_xor (hx : OpT Γ x (tIs (.int k a))) (hy : OpT Γ y (tIs (.int k b))) (hw : bitsOf .xor k a b = r) : OpTy X Γ H ⟨dst, .binOp .xor t x y yt, ty, pos, af, gd⟩ (tIs (.int k r)) :=
  ot_bin hx hy fun w => by subst hw; simp [eqGuard, binOp, Op.intBits, bitsOf]
theorem ot_shl {k2 : IntKind} (hx : OpT Γ x (tIs (.int k a))) (hy : OpT Γ y (tIs (.int k2 b))) (h0 : ¬ b < 0) (hw : k.wrap (a * 2 ^ (min b.toNat k.bits)) = r) : OpTy X Γ H ⟨dst, .binOp .shl t x y yt, ty, pos, af, gd⟩ (tIs (.int k r)) :=
  ot_bin hx hy fun w => by subst hw; simp [eqGuard, binOp, Op.shift, h0]
theorem ot_shr {k2 : IntKind} (hx : OpT Γ x (tIs (.int k a))) (hy : OpT Γ y (tIs (.int k2 b))) (h0 : ¬ b < 0) (hw : a.fdiv (2 ^ (min b.toNat k.bits)) = r) : OpTy X Γ H ⟨dst, .binOp .shr t x y yt, ty, pos, af, gd⟩ (tIs (.int k r)) :=
  ot_bin hx hy fun w => by subst hw; simp [eqGuard, binOp, Op.shift, h0]
theorem ot_eql (hx : OpT Γ x (tIs (.int k a))) (hy : OpT Γ y (tIs (.int k b))) : OpTy X Γ H ⟨dst, .binOp .eql t x y yt, ty, pos, af, gd⟩ (tIs (.bool (decide (a = b)))) :=
  ot_bin hx hy fun w => by simp [eqGuard, binOp, Op.intCmp, int_beq]
theorem ot_neq (hx : OpT Γ x (tIs (.int k a))) (hy : OpT Γ y (tIs (.int k b))) : OpTy X Γ H ⟨dst, .binOp .neq t x y yt, ty, pos, af, gd⟩ (tIs (.bool (!decide (a = b)))) :=
  ot_bin hx hy fun w => by simp [eqGuard, binOp, Op.intCmp, bne, int_beq]
theorem ot_lss (hx : OpT Γ x (tIs (.int k a))) (hy : OpT Γ y (tIs (.int k b))) : OpTy X Γ H ⟨dst, .binOp .lss t x y yt, ty, pos, af, gd⟩ (tIs (.bool (decide (a < b)))) :=
  ot_bin hx hy fun w => by simp [eqGuard, binOp, Op.intCmp]
theorem ot_leq (hx : OpT Γ x (tIs (.int k a))) (hy : OpT Γ y (tIs (.int k b))) : OpTy X Γ H ⟨dst, .binOp .leq t x y yt, ty, pos, af, gd⟩ (tIs (.bool (decide (a ≤ b)))) :=
  ot_bin hx hy fun w => by simp [eqGuard, binOp, Op.intCmp]
theorem ot_gtr (hx : OpT Γ x (tIs (.int k a))) (hy : OpT Γ y (tIs (.int k b))) : OpTy X Γ H ⟨dst, .binOp .gtr t x y yt, ty, pos, af, gd⟩ (tIs (.bool (decide (b < a)))) :=
  ot_bin hx hy fun w => by simp [eqGuard, binOp, Op.intCmp]
theorem ot_geq (hx : OpT Γ x (tIs (.int k a))) (hy : OpT Γ y (tIs (.int k b))) : OpTy X Γ H ⟨dst, .binOp .geq t x y yt, ty, pos, af, gd⟩ (tIs (.bool (decide (b ≤ a)))) :=
  ot_bin hx hy fun w => by simp [eqGuard, binOp, Op.intCmp]
theorem ot_neg (hx : OpT Γ x (tIs (.int k a))) (hw : k.wrap (0 - a) = r) : OpTy X Γ H ⟨dst, .unOp .neg t x, ty, pos, af, gd⟩ (tIs (.int k r)) :=
  opTy_run fun s w hs => by
    have h1 : s.eval x = .int k a := hx.ev hs (mem_slots (by simp [Op.operands]))
    subst hw
    exact ⟨_, w, by simp [execOp, h1, Op.unary, Op.intArith], Below.refl _ _, rfl⟩
theorem ot_conv {src d : TypeId} {k2 : IntKind} (hx : OpT Γ x (tIs (.int k a))) (hd : X.P.underlying d = some (.int k2)) (hs' : (X.P.underlying src).isSome = true) (hw : k2.wrap a = r) : OpTy X Γ H ⟨dst, .convert src d x, ty, pos, af, gd⟩ (tIs (.int k2 r)) :=
  opTy_run fun s w hs => by
    have h1 : s.eval x = .int k a := hx.ev hs (mem_slots (by simp [Op.operands]))
    subst hw
    obtain ⟨ds, hds⟩ := Option.isSome_iff_exists.1 hs'
    refine ⟨.int k2 (k2.wrap a), w, ?_, Below.refl _ _, rfl⟩
    simp only [execOp, h1, convert, Sem.run_bind, run_underlying hds, run_underlying hd, Result.andThen_ok]
    cases ds <;> simp [Conv.intToInt]
end
section
variable {t yt : TypeId} {x y : Operand} {a b : Bool}
theorem ot_not (hx : OpT Γ x (tIs (.bool a))) : OpTy X Γ H ⟨dst, .unOp .not t x, ty, pos, af, gd⟩ (tIs (.bool (!a))) :=
  opTy_run fun s w hs => by
    have h1 : s.eval x = .bool a := hx.ev hs (mem_slots (by simp [Op.operands]))
    exact ⟨_, w, by simp [execOp, h1, Op.unary], Below.refl _ _, rfl⟩
theorem ot_eqlb (hx : OpT Γ x (tIs (.bool a))) (hy : OpT Γ y (tIs (.bool b))) (ht : X.P.underlying t = some .bool) : OpTy X Γ H ⟨dst, .binOp .eql t x y yt, ty, pos, af, gd⟩ (tIs (.bool (a == b))) :=
  ot_bin hx hy fun w => by simp [eqGuard, binOp, run_equal_bool ht]
theorem ot_neqb (hx : OpT Γ x (tIs (.bool a))) (hy : OpT Γ y (tIs (.bool b))) (ht : X.P.underlying t = some .bool) : OpTy X Γ H ⟨dst, .binOp .neq t x y yt, ty, pos, af, gd⟩ (tIs (.bool (!(a == b)))) :=
  ot_bin hx hy fun w => by simp [eqGuard, binOp, run_equal_bool ht]
end

/-! ### Reading memory -/
/-- A pointer to cells that are not written any more and read as R. -/
def tPtr (R : CTy) : Ty := ⟨fun v s => ∃ b o cs, v = .pointer (some ⟨b, o, none⟩) ∧ R.p cs s ∧ ∀ j u, cs[j]? = some u → s.cell b (o + j) u,
  fun hl ⟨b, o, cs, h1, h2, h3⟩ => ⟨b, o, cs, h1, R.up hl h2, fun j u hu => (h3 j u hu).up hl⟩⟩

abbrev pOwn (b o : Nat) : Ty := tIs (.pointer (some ⟨b, o, none⟩))

theorem hpOk.cell {X : Cx} {H : Hp} {w : World} (h : hpOk X H w) {e : HEnt} (he : e ∈ H) : ∃ cs, e.R.p cs ⟨w, mask X.M0 H⟩ ∧ (∀ j u, cs[j]? = some u → w.cell? ⟨e.b, j, none⟩ = some u) := by
  obtain ⟨_, cs, hc, hr⟩ := h.1 e he
  exact ⟨cs.toList, hr, fun j u hu => by simp [World.cell?, hc]; simpa using hu⟩

theorem ot_load_own {t : TypeId} {x : Operand} {b o tt : Nat} {R : CTy} {T : Ty} (hx : OpT Γ x (pOwn b o)) (he : (⟨b, tt, R⟩ : HEnt) ∈ H) (hsc : scalB X.P t = true)
    (hR : ∀ cs s, R.p cs s → ∃ v, cs[o]? = some v ∧ T.p v s) : OpTy X Γ H ⟨dst, .load t x, ty, pos, af, gd⟩ T :=
  opTy_run fun a w hs => by
    have h1 : a.eval x = .pointer (some ⟨b, o, none⟩) := hx.ev hs (mem_slots (by simp [Op.operands]))
    obtain ⟨cs, hr, hc⟩ := hs.hp.cell he
    obtain ⟨v, hv, hT⟩ := hR _ _ hr
    refine ⟨v, w, ?_, Below.refl _ _, hT⟩
    simp [execOp, h1, Instr.loadAt, Instr.sureAddr, run_loadVar_scal hsc (hc _ _ hv)]

theorem ot_load_own_agg {t n : Nat} {x : Operand} {b o tt : Nat} {R : CTy} {T : Ty} (hx : OpT Γ x (pOwn b o)) (he : (⟨b, tt, R⟩ : HEnt) ∈ H) (hag : aggB X.P t = some n)
    (hR : ∀ cs s, R.p cs s → o + n ≤ cs.length ∧ T.p (.agg ((cs.drop o).take n).toArray) s) : OpTy X Γ H ⟨dst, .load t x, ty, pos, af, gd⟩ T :=
  opTy_run fun a w hs => by
    have h1 : a.eval x = .pointer (some ⟨b, o, none⟩) := hx.ev hs (mem_slots (by simp [Op.operands]))
    obtain ⟨cs, hr, hc⟩ := hs.hp.cell he
    obtain ⟨hl, hT⟩ := hR _ _ hr
    refine ⟨_, w, ?_, Below.refl _ _, hT⟩
    have := run_loadVar_agg hag (w := w) (b := b) (o := o) (cs := (cs.drop o).take n) (by simp; omega) (fun j u hu => by
      refine hc (o + j) u ?_
      rw [List.getElem?_take] at hu
      split at hu
      · rw [List.getElem?_drop] at hu; exact hu
      · cases hu)
    simp [execOp, h1, Instr.loadAt, Instr.sureAddr, this]

theorem ot_load {t : TypeId} {x : Operand} {R : CTy} {T : Ty} (hx : OpT Γ x (tPtr R)) (hsc : scalB X.P t = true)
    (hR : ∀ cs s, R.p cs s → ∃ v, cs[0]? = some v ∧ T.p v s) : OpTy X Γ H ⟨dst, .load t x, ty, pos, af, gd⟩ T :=
  opTy_run fun a w hs => by
    obtain ⟨b, o, cs, h1, hr, hc⟩ := hx.ev hs (mem_slots (by simp [Op.operands]))
    obtain ⟨v, hv, hT⟩ := hR _ _ hr
    refine ⟨v, w, ?_, Below.refl _ _, hT⟩
    have hc0 : w.cell? ⟨b, o, none⟩ = some v := (hc _ _ hv).1
    simp [execOp, h1, Instr.loadAt, Instr.sureAddr, run_loadVar_scal hsc hc0]

theorem ot_load_agg {t n : Nat} {x : Operand} {R : CTy} {T : Ty} (hx : OpT Γ x (tPtr R)) (hag : aggB X.P t = some n)
    (hR : ∀ cs s, R.p cs s → n ≤ cs.length ∧ T.p (.agg (cs.take n).toArray) s) : OpTy X Γ H ⟨dst, .load t x, ty, pos, af, gd⟩ T :=
  opTy_run fun a w hs => by
    obtain ⟨b, o, cs, h1, hr, hc⟩ := hx.ev hs (mem_slots (by simp [Op.operands]))
    obtain ⟨hl, hT⟩ := hR _ _ hr
    refine ⟨_, w, ?_, Below.refl _ _, hT⟩
    have := run_loadVar_agg hag (w := w) (b := b) (o := o) (cs := cs.take n) (by simp; omega) (fun j u hu => by
      refine (hc j u ?_).1
      rw [List.getElem?_take] at hu
      split at hu
      · exact hu
      · cases hu)
    simp [execOp, h1, Instr.loadAt, Instr.sureAddr, this]

theorem fdB_spec {P : Program} {t f off ft : Nat} (h : fdB P t f = some (off, ft)) : ∃ fs x n, P.underlying t = some (.struct fs) ∧ fs[f]? = some x ∧ x.offset = off ∧ x.type = ft ∧ szB P ft = some n ∧ n ≠ 0 := by
  unfold fdB at h
  cases hu : P.underlying t with
  | none => rw [hu] at h; cases h
  | some d =>
    rw [hu] at h
    cases d <;> first | cases h | skip
    rename_i fs
    dsimp only at h
    cases hf : fs[f]? with
    | none => rw [hf] at h; cases h
    | some x =>
      rw [hf] at h
      dsimp only at h
      split at h
      · rename_i hz
        simp only [Option.some.injEq, Prod.mk.injEq] at h
        obtain ⟨rfl, rfl⟩ := h
        obtain ⟨i, hi, hn⟩ := Option.any_eq_true .. |>.1 hz
        exact ⟨fs, x, i.size, rfl, hf, rfl, rfl, by simp [szB, hi], by simpa using hn⟩
      · cases h

theorem ot_fieldAddr_own {t f off ft b o : Nat} {x : Operand} (hx : OpT Γ x (pOwn b o)) (hf : fdB X.P t f = some (off, ft)) : OpTy X Γ H ⟨dst, .fieldAddr t x f, ty, pos, af, gd⟩ (pOwn b (o + off)) :=
  opTy_run fun a w hs => by
    have h1 : a.eval x = .pointer (some ⟨b, o, none⟩) := hx.ev hs (mem_slots (by simp [Op.operands]))
    obtain ⟨fs, x', n, hu, hx', rfl, rfl, hsz, hn⟩ := fdB_spec hf
    refine ⟨_, w, ?_, Below.refl _ _, rfl⟩
    simp [execOp, h1, Instr.fieldAt, Instr.sureAddr, run_underlying hu, hx', fieldPlace, run_sizeOf_sz hsz, hn, add_at]

theorem ot_fieldAddr {t f off ft : Nat} {x : Operand} {R R' : CTy} (hx : OpT Γ x (tPtr R)) (hf : fdB X.P t f = some (off, ft)) (hR : ∀ cs s, R.p cs s → R'.p (cs.drop off) s) : OpTy X Γ H ⟨dst, .fieldAddr t x f, ty, pos, af, gd⟩ (tPtr R') :=
  opTy_run fun a w hs => by
    obtain ⟨b, o, cs, h1, hr, hc⟩ := hx.ev hs (mem_slots (by simp [Op.operands]))
    obtain ⟨fs, x', n, hu, hx', rfl, rfl, hsz, hn⟩ := fdB_spec hf
    refine ⟨.pointer (some ⟨b, o + x'.offset, none⟩), w, ?_, Below.refl _ _, b, o + x'.offset, cs.drop x'.offset, rfl, hR _ _ hr, fun j u hu => ?_⟩
    · simp [execOp, h1, Instr.fieldAt, Instr.sureAddr, run_underlying hu, hx', fieldPlace, run_sizeOf_sz hsz, hn, add_at]
    · rw [List.getElem?_drop] at hu
      have := hc _ _ hu
      rwa [← Nat.add_assoc] at this

/-- A field of a struct value. -/
theorem ot_field_scal {t f off ft : Nat} {x : Operand} {R : CTy} {T : Ty} (hx : OpT Γ x ⟨fun v s => ∃ cs : List Value, v = .agg cs.toArray ∧ R.p cs s, fun hl ⟨cs, h, hr⟩ => ⟨cs, h, R.up hl hr⟩⟩) (hf : fdB X.P t f = some (off, ft)) (hsc : scalB X.P ft = true)
    (hR : ∀ cs s, R.p cs s → ∃ v, cs[off]? = some v ∧ T.p v s) : OpTy X Γ H ⟨dst, .field t x f, ty, pos, af, gd⟩ T :=
  opTy_run fun a w hs => by
    obtain ⟨cs, h1, hr⟩ := hx.ev hs (mem_slots (by simp [Op.operands]))
    obtain ⟨fs, x', n, hu, hx', rfl, rfl, hsz, hn⟩ := fdB_spec hf
    obtain ⟨v, hv, hT⟩ := hR _ _ hr
    exact ⟨v, w, by simp [execOp, h1, Instr.field, run_underlying hu, hx', asAgg, part, run_isAgg_scal hsc, hv], Below.refl _ _, hT⟩

/-! ### Slices -/
def slP {α : Type} (E : Enc α) (xs : List α) (v : Value) (s : St) : Prop :=
  ∃ A n c, v = .slice A n c ∧ n = xs.length ∧ n ≤ c ∧ (xs ≠ [] → ∃ b o, A = some ⟨b, o, none⟩ ∧ ∀ i x, xs[i]? = some x → ∃ cs, E.C x cs s ∧ ∀ j u, cs[j]? = some u → s.cell b (o + i * E.sz + j) u)
theorem slP.up {α : Type} {E : Enc α} {xs : List α} {v : Value} {s s' : St} (hl : Le s s') : slP E xs v s → slP E xs v s' := by
  rintro ⟨A, n, c, h1, h2, h3, h4⟩
  refine ⟨A, n, c, h1, h2, h3, fun h => ?_⟩
  obtain ⟨b, o, h5, h6⟩ := h4 h
  exact ⟨b, o, h5, fun i x hx => let ⟨cs, h7, h8⟩ := h6 i x hx; ⟨cs, E.up hl h7, fun j u hu => (h8 j u hu).up hl⟩⟩
def tSl {α : Type} (E : Enc α) (xs : List α) : Ty := ⟨slP E xs, slP.up⟩
theorem slP_nil {α : Type} (E : Enc α) (s : St) : slP E [] (.slice none 0 0) s := ⟨none, 0, 0, rfl, rfl, Nat.le_refl _, fun h => absurd rfl h⟩
theorem OpT.nil {α : Type} {E : Enc α} : OpT Γ (.const (.slice none 0 0)) (tSl E []) := .const fun s => slP_nil E s

/-- The slice value itself is known. -/
abbrev sIs (b o n c : Nat) : Ty := tIs (.slice (some ⟨b, o, none⟩) n c)

theorem ot_len {α : Type} {E : Enc α} {xs : List α} {t e sz by_ : Nat} {x : Operand} {ats : Array TypeId} (hx : OpT Γ x (tSl E xs)) (ht : slB X.P t = some (e, sz, by_)) (ha : ats = #[t]) :
    OpTy X Γ H ⟨dst, .call { callee := .builtin .len, args := #[x], argTypes := ats }, ty, pos, af, gd⟩ (tIs (.int .i64 xs.length)) :=
  opTy_run fun a w hs => by
    obtain ⟨A, n, c, h1, rfl, _⟩ := hx.ev hs (mem_slots (by simp [Op.operands, Call.operands]))
    obtain ⟨hu, _⟩ := slB_spec ht
    subst ha
    exact ⟨_, w, by simp [execOp, resolve, invoke, builtin, Builtin.len_, h1, run_underlying hu, goInt], Below.refl _ _, rfl⟩
theorem ot_len_own {A : Option Addr} {n c t e sz by_ : Nat} {x : Operand} {ats : Array TypeId} (hx : OpT Γ x (tIs (.slice A n c))) (ht : slB X.P t = some (e, sz, by_)) (ha : ats = #[t]) :
    OpTy X Γ H ⟨dst, .call { callee := .builtin .len, args := #[x], argTypes := ats }, ty, pos, af, gd⟩ (tIs (.int .i64 n)) :=
  opTy_run fun a w hs => by
    have h1 : a.eval x = .slice A n c := hx.ev hs (mem_slots (by simp [Op.operands, Call.operands]))
    obtain ⟨hu, _⟩ := slB_spec ht
    subst ha
    exact ⟨_, w, by simp [execOp, resolve, invoke, builtin, Builtin.len_, h1, run_underlying hu, goInt], Below.refl _ _, rfl⟩

theorem ot_index {α : Type} {E : Enc α} {xs : List α} {t e by_ : Nat} {x y : Operand} {k : IntKind} {n : Int} {z : α} (hx : OpT Γ x (tSl E xs)) (hy : OpT Γ y (tIs (.int k n))) (ht : slB X.P t = some (e, E.sz, by_))
    (h0 : 0 ≤ n) (hz : xs[n.toNat]? = some z) : OpTy X Γ H ⟨dst, .indexAddr t x y, ty, pos, af, gd⟩ (tPtr (cEnc E z)) :=
  opTy_run fun a w hs => by
    obtain ⟨A, m, c, h1, rfl, _, hh⟩ := hx.ev hs (mem_slots (by simp [Op.operands]))
    have h2 : a.eval y = .int k n := hy.ev hs (mem_slots (by simp [Op.operands]))
    obtain ⟨hu, i, hi, hsz, _⟩ := slB_spec ht
    have hlt : n.toNat < xs.length := (List.getElem?_eq_some_iff.1 hz).1
    obtain ⟨b, o, rfl, hc⟩ := hh (by intro h; simp [h] at hlt)
    obtain ⟨cs, hC, hcell⟩ := hc _ _ hz
    refine ⟨.pointer (some ⟨b, o + n.toNat * E.sz, none⟩), w, ?_, Below.refl _ _, b, _, cs, rfl, hC, hcell⟩
    have hn : n < xs.length := by omega
    simp [execOp, h1, h2, Instr.indexAt, asIntOf, run_underlying hu, h0, hn, sizeOf, typeInfo, hi, hsz, add_at]

theorem ot_index_own {b o m c t e sz by_ : Nat} {x y : Operand} {k : IntKind} {n : Int} (hx : OpT Γ x (sIs b o m c)) (hy : OpT Γ y (tIs (.int k n))) (ht : slB X.P t = some (e, sz, by_))
    (h0 : 0 ≤ n) (hn : n < m) : OpTy X Γ H ⟨dst, .indexAddr t x y, ty, pos, af, gd⟩ (pOwn b (o + n.toNat * sz)) :=
  opTy_run fun a w hs => by
    have h1 : a.eval x = .slice (some ⟨b, o, none⟩) m c := hx.ev hs (mem_slots (by simp [Op.operands]))
    have h2 : a.eval y = .int k n := hy.ev hs (mem_slots (by simp [Op.operands]))
    obtain ⟨hu, i, hi, hsz, _⟩ := slB_spec ht
    refine ⟨_, w, ?_, Below.refl _ _, rfl⟩
    simp [execOp, h1, h2, Instr.indexAt, asIntOf, run_underlying hu, h0, hn, sizeOf, typeInfo, hi, hsz, add_at]

/-- xs[lo:hi] (no third index), of a slice that is not written. -/
theorem ot_slice {α : Type} {E : Enc α} {xs : List α} {t e by_ : Nat} {x : Operand} {lo hi : Option Operand} {l h : Nat} {kl kh : IntKind} (hx : OpT Γ x (tSl E xs)) (ht : slB X.P t = some (e, E.sz, by_))
    (hlo : match lo with | some y => OpT Γ y (tIs (.int kl l)) | none => l = 0) (hhi : match hi with | some y => OpT Γ y (tIs (.int kh h)) | none => h = xs.length) (h1 : l ≤ h) (h2 : h ≤ xs.length) :
    OpTy X Γ H ⟨dst, .slice t x lo hi none, ty, pos, af, gd⟩ (tSl E ((xs.drop l).take (h - l))) :=
  opTy_run fun a w hs => by
    obtain ⟨A, m, c, he, rfl, hc, hh⟩ := hx.ev hs (mem_slots (by simp [Op.operands]))
    obtain ⟨hu, i, hi', hsz, _⟩ := slB_spec ht
    have hel : lo.map a.eval = if lo.isSome then some (.int kl l) else none := by
      cases lo with
      | none => rfl
      | some y => exact congrArg some (hlo.ev hs (mem_slots (by simp [Op.operands])))
    have heh : hi.map a.eval = if hi.isSome then some (.int kh h) else none := by
      cases hi with
      | none => rfl
      | some y => exact congrArg some (hhi.ev hs (mem_slots (by simp [Op.operands])))
    refine ⟨.slice (if c = l then A else A.map (·.add (l * E.sz))) (h - l) (c - l), w, ?_, Below.refl _ _, ?_⟩
    · have g2 : h ≤ c := by omega
      simp only [execOp, Instr.sliceAt, Sem.run_bind, run_underlying hu, Result.andThen_ok, Instr.slice, he, hel, heh]
      cases lo with
      | none =>
        cases hi with
        | none => dsimp only at hlo hhi; subst hlo hhi; simp [Instr.sliceBounds, sizeOf, typeInfo, hi', hsz]
        | some y => dsimp only at hlo; subst hlo; simp [Instr.sliceBounds, Instr.sliceBound, asIntOf, g2, sizeOf, typeInfo, hi', hsz]
      | some z =>
        cases hi with
        | none => dsimp only at hhi; subst hhi; simp [Instr.sliceBounds, Instr.sliceBound, asIntOf, h1, sizeOf, typeInfo, hi', hsz]
        | some y => simp [Instr.sliceBounds, Instr.sliceBound, asIntOf, h1, g2, sizeOf, typeInfo, hi', hsz]
    · refine ⟨_, _, _, rfl, by simp; omega, by omega, fun hne => ?_⟩
      have hlt : l < h := by
        rcases Nat.lt_or_ge l h with q | q
        · exact q
        · exact absurd (by rw [show h - l = 0 by omega]; simp) hne
      obtain ⟨b, o, rfl, hcell⟩ := hh (by intro q; simp [q] at h2; omega)
      refine ⟨b, o + l * E.sz, by rw [if_neg (by omega)]; simp [add_at], fun i' z hz => ?_⟩
      rw [List.getElem?_take] at hz
      split at hz
      · rw [List.getElem?_drop] at hz
        obtain ⟨cs, hC, hcs⟩ := hcell _ _ hz
        refine ⟨cs, hC, fun j u hu => ?_⟩
        have := hcs j u hu
        rw [Nat.add_mul, ← Nat.add_assoc o] at this
        exact this
      · cases hz

/-! ### Calls -/
def vsP : List Ty → List Value → St → Prop
  | [], [], _ => True
  | T :: Ts, v :: vs, s => T.p v s ∧ vsP Ts vs s
  | _, _, _ => False

/-- The contract of a function that leaves all that was there as it was. -/
def Ctr (P : Program) (f : FuncId) (Ts : List Ty) (T : Ty) : Prop :=
  ∀ (w0 : World) (M0 : Nat → Prop), (∀ k, M0 k → k < w0.heap.size) → ∀ vs, vsP Ts vs ⟨w0, M0⟩ →
    Calls P f vs.toArray w0 fun e w' => ∃ v, e = .returned v ∧ Below w0.heap.size w0 w' ∧ T.p v ⟨w', M0⟩

inductive OpTs (Γ : Gam) : List Operand → List Ty → Prop
  | nil : OpTs Γ [] []
  | cons {x : Operand} {T : Ty} {xs : List Operand} {Ts : List Ty} (h : OpT Γ x T) (hs : OpTs Γ xs Ts) : OpTs Γ (x :: xs) (T :: Ts)

theorem OpTs.ev {xs : List Operand} {Ts : List Ty} (h : OpTs Γ xs Ts) {L : List Nat} {a : Act} {w : World} (hs : SatOn X L Γ H a w) (hL : ∀ x ∈ xs, ∀ i ∈ slotOf x, i ∈ L) : vsP Ts (xs.map a.eval) ⟨w, mask X.M0 H⟩ := by
  induction h with
  | nil => exact trivial
  | cons h _ ih => exact ⟨h.ev hs (hL _ (by simp)), ih fun x hx => hL x (by simp [hx])⟩

theorem mask_lt {L : List Nat} {a : Act} {w : World} (hs : SatOn X L Γ H a w) : ∀ k, mask X.M0 H k → k < w.heap.size := by
  rintro k (hk | ⟨e, he, rfl⟩)
  · exact Nat.lt_of_lt_of_le (hs.m0 k hk).1 hs.below.size
  · exact hs.hp.lt he

theorem run_callFunc {P : Program} {f : FuncId} (hf : fnB P f = true) (args : Array Value) (w : World) : (callFunc f args).run P w = .ok (.enter f args) w := by
  unfold fnB at hf
  cases hp : P.funcs[f]? with
  | none => rw [hp] at hf; cases hf
  | some fn =>
    rw [hp] at hf
    simp only [Bool.and_eq_true, Bool.not_eq_true'] at hf
    have h2 : fn.body.isNone = false := by cases hb : fn.body <;> simp_all
    simp only [callFunc, Sem.run_bind, run_program, Result.andThen_ok, hp, hf.1, h2, Bool.false_eq_true, if_false, Sem.run_pure]

theorem ot_call {f : FuncId} {xs : List Operand} {Ts : List Ty} {T : Ty} {ats : Array TypeId} (hf : fnB X.P f = true) (hc : Ctr X.P f Ts T) (hx : OpTs Γ xs Ts) :
    OpTy X Γ H ⟨dst, .call { callee := .value (.func f), args := xs.toArray, argTypes := ats }, ty, pos, af, gd⟩ T := by
  intro a w hs
  have hv := hx.ev hs (fun x hx => mem_slots (by simp [Op.operands, Call.operands, hx]))
  have h := hc w _ (mask_lt hs) _ hv
  unfold Oper.wp
  have hr : (execOp a.eval ⟨dst, .call { callee := .value (.func f), args := xs.toArray, argTypes := ats }, ty, pos, af, gd⟩).run X.P w = .ok (.enter f (xs.map a.eval).toArray) w := by
    rw [execOp_call_go]
    have := run_callFunc hf (xs.map a.eval).toArray w
    simpa using this
  rw [hr]
  refine Calls.mono h ?_
  rintro e w' ⟨v, rfl, hb, hT⟩
  exact ⟨v, rfl, hb, hT⟩

end Go.Rt
