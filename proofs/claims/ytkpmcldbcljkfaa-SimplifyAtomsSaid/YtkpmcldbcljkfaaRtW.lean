/- The logic of the walks, part W: arrays of four small integers. Conditions: none; nothing of a program stands here. -/
import Derived.Test.YtkpmcldbcljkfaaRtV
set_option linter.unusedVariables false
set_option linter.unusedSimpArgs false
namespace Go.Rt
open Go Go.RowKit
/-- What the walks simplify their conditions by, in one name. -/
theorem bsx : (∀ a b : Bool, ((a && b) = true) = (a = true ∧ b = true)) ∧ (∀ a b : Bool, ((a || b) = true) = (a = true ∨ b = true)) ∧ (∀ b : Bool, ((!b) = true) = (b = false)) ∧ (∀ b : Bool, ((!b) = false) = (b = true)) ∧
    (∀ a b : Bool, (a && b) = false ↔ a = false ∨ b = false) ∧ (∀ a b : Bool, (a || b) = false ↔ a = false ∧ b = false) ∧ ((!true) = false) ∧ ((!false) = true) ∧
    (∀ (p : Prop) [Decidable p], (decide p = true) = p) ∧ (∀ (p : Prop) [Decidable p], decide p = false ↔ ¬ p) ∧ (∀ {α : Type} [BEq α] [LawfulBEq α] {a b : α}, (a == b) = true ↔ a = b) ∧ (∀ {α : Type} [BEq α] [LawfulBEq α] {a b : α}, (a == b) = false ↔ a ≠ b) ∧
    (∀ a b : Bool, (!a) = b ↔ a = !b) :=
  ⟨Bool.and_eq_true, Bool.or_eq_true, fun b => by cases b <;> simp, fun b => by cases b <;> simp, fun a b => by cases a <;> cases b <;> simp, fun a b => by cases a <;> cases b <;> simp, rfl, rfl,
    fun p _ => decide_eq_true_eq, fun p _ => decide_eq_false_iff_not, beq_iff_eq, beq_eq_false_iff_ne, fun a b => Bool.not_eq_eq_eq_not⟩
variable {X : Cx} {Γ : Gam} {H : Hp}
variable {dst : Option Tmp} {ty : TypeId} {pos : String} {af : Array Edge} {gd : Option (Nat × Bool)}

/-- The slot that an operation without a guard writes. -/
def opOk (N : Nat) (o : Oper) : Option Nat := match o.guard, o.dst with
  | none, some d => if Nat.blt d N = true then some d else none
  | _, _ => none
theorem opOk_spec {N d : Nat} {o : Oper} (h : opOk N o = some d) : o.dst = some d ∧ d < N ∧ o.guard = none := by
  unfold opOk at h
  split at h
  · rename_i hg hd
    split at h
    · rename_i hb
      injection h with h; subst h
      exact ⟨hd, ltN hb, hg⟩
    · cases h
  · cases h
section short
variable {ops : Array Oper} {rest all : List Oper} {Q : Exit → Act → World → Prop} {Γ' : Gam} {u : Oper} {d : Nat} {T : Ty} {x : Operand}
/-- J.op, J.op of a move, of an assignment, in fewer words. -/
theorem J.o (h : OpTy X Γ H u T) (hc : opOk X.N u = some d) (next : J X ops Q rest ((d, T) :: Γ) H) : J X ops Q (u :: rest) Γ H :=
  let ⟨h1, h2, h3⟩ := opOk_spec hc; J.op h h1 h2 h3 next
theorem J.m (h : OpT Γ x T) (hc : opOk X.N ⟨dst, .move x, ty, pos, af, gd⟩ = some d) (next : J X ops Q rest ((d, T) :: Γ) H) : J X ops Q (⟨dst, .move x, ty, pos, af, gd⟩ :: rest) Γ H := J.o (ot_move h) hc next
theorem J.a (h : OpT Γ x T) (hc : opOk X.N ⟨dst, .assign x, ty, pos, af, gd⟩ = some d) (next : J X ops Q rest ((d, T) :: Γ) H) : J X ops Q (⟨dst, .assign x, ty, pos, af, gd⟩ :: rest) Γ H := J.o (ot_assign h) hc next
theorem TW.o (h : OpTy X Γ H u T) (hc : opOk X.N u = some d) (next : TW X H all ((d, T) :: Γ) rest Γ') : TW X H all Γ (u :: rest) Γ' :=
  let ⟨h1, h2, h3⟩ := opOk_spec hc; TW.op h h1 h2 h3 next
theorem TW.m (h : OpT Γ x T) (hc : opOk X.N ⟨dst, .move x, ty, pos, af, gd⟩ = some d) (next : TW X H all ((d, T) :: Γ) rest Γ') : TW X H all Γ (⟨dst, .move x, ty, pos, af, gd⟩ :: rest) Γ' := TW.o (ot_move h) hc next
end short

def mo16T (m : Mo) : List Ty := [tIs (.int .i16 m.a), tIs (.int .i16 m.b), tIs (.int .i16 m.c), tIs (.int .i16 m.d)]
abbrev encX : Enc Mo := encF 4 mo16T
theorem mo16T_at {m : Mo} {i : Nat} (h : i < 4) : (mo16T m)[i]? = some (tIs (.int .i16 (m.at i))) := by
  match i, h with
  | 0, _ => rfl
  | 1, _ => rfl
  | 2, _ => rfl
  | 3, _ => rfl
theorem mo16_ld {m : Mo} {i : Nat} (h : i < 4) : ∀ cs s, (cTs (mo16T m)).p cs s → ∃ v, cs[i]? = some v ∧ (tIs (.int .i16 (m.at i))).p v s := cTs_ld (mo16T_at h)
/-- An array type of four numbers of one cell each: its element type. -/
def arC4 (P : Program) (t : TypeId) : Option TypeId := match P.underlying t with
  | some (.array 4 e) => match P.info? e with
    | some i => if i.size == 1 && P.cellsOf e == 1 then some e else none
    | _ => none
  | _ => none
theorem arC4_spec {P : Program} {t e : TypeId} (h : arC4 P t = some e) : P.underlying t = some (.array 4 e) ∧ ∃ i, P.info? e = some i ∧ i.size = 1 := by
  unfold arC4 at h
  split at h
  · rename_i e' hu
    split at h
    · rename_i i h2
      split at h
      · rename_i hc
        cases h
        simp only [Bool.and_eq_true, beq_iff_eq] at hc
        exact ⟨hu, i, h2, hc.1⟩
      · cases h
    · cases h
  · cases h
theorem ot_indexAddrC {t e : TypeId} {x y : Operand} {k : IntKind} {n : Int} {b o : Nat} (hx : OpT Γ x (pOwn b o)) (hy : OpT Γ y (tIs (.int k n))) (ht : arC4 X.P t = some e) (h0 : 0 ≤ n) (h4 : n < 4) :
    OpTy X Γ H ⟨dst, .indexAddr t x y, ty, pos, af, gd⟩ (pOwn b (o + n.toNat)) :=
  opTy_run fun a w hs => by
    have h1 : a.eval x = .pointer (some ⟨b, o, none⟩) := hx.ev hs (mem_slots (by simp [Op.operands]))
    have h2 : a.eval y = .int k n := hy.ev hs (mem_slots (by simp [Op.operands]))
    obtain ⟨hu, i, hi, hsz⟩ := arC4_spec ht
    refine ⟨_, w, ?_, Below.refl _ _, rfl⟩
    simp [execOp, Instr.indexAt, h1, h2, asIntOf, run_underlying hu, Instr.sureAddr, sizeOf, typeInfo, hi, hsz, h0, h4, add_at]
end Go.Rt
