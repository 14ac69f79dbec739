/- The logic of the walks, part V: letters of constant strings, labels, a row's beginning. Conditions: none; nothing of a program stands here. -/
import Derived.Test.YtkpmcldbcljkfaaRtU
import Derived.Test.YtkpmcldbcljkfaaPlM
set_option linter.unusedVariables false
set_option linter.unusedSimpArgs false
namespace Go.Rt
open Go Go.RowKit

variable {X : Cx} {ops : Array Oper} {Q : Exit → Act → World → Prop} {rest : List Oper} {Γ : Gam} {H : Hp}
variable {dst : Option Tmp} {ty : TypeId} {pos : String} {af : Array Edge} {gd : Option (Nat × Bool)}

def stB (P : Program) (t : TypeId) : Bool := match P.underlying t with
  | some .string => true
  | _ => false
theorem ot_indexS {t : TypeId} {x y : Operand} {k : IntKind} {n : Int} {s : ByteArray} {c : UInt8} {m : Int} (hx : OpT Γ x (tIs (.string s))) (hy : OpT Γ y (tIs (.int k n))) (ht : stB X.P t = true) (h0 : 0 ≤ n) (hc : s[n.toNat]? = some c) (hm : (c.toNat : Int) = m) :
    OpTy X Γ H ⟨dst, .index t x y, ty, pos, af, gd⟩ (tIs (.int .u8 m)) :=
  opTy_run fun a w hs => by
    have h1 : a.eval x = .string s := hx.ev hs (mem_slots (by simp [Op.operands]))
    have h2 : a.eval y = .int k n := hy.ev hs (mem_slots (by simp [Op.operands]))
    have hu : X.P.underlying t = some .string := by
      unfold stB at ht
      split at ht
      · assumption
      · cases ht
    refine ⟨.int .u8 m, w, ?_, Below.refl _ _, rfl⟩
    subst hm
    simp [execOp, h1, h2, Instr.index, asIntOf, run_underlying hu, h0, hc]

theorem JC.label {l : Nat} (h : JQ X Q .normal Γ H) : JC X (.label l) Q Γ H := fun a w hs => wp_label (h a w hs)

theorem cRow_take {α : Type} {E : Enc α} {xs : List α} {cap n : Nat} : ∀ cs s, (cRow E xs cap).p cs s → (cRow E (xs.take n) cap).p cs s := fun cs s ⟨h1, h2, h3⟩ =>
  ⟨by simp; omega, h2, fun i x hx => by
    rw [List.getElem?_take] at hx
    split at hx
    · exact h3 i x hx
    · cases hx⟩

/-- The table of lengths in bits. -/
def tab8 (s : ByteArray) : Bool := (List.range 256).all fun i => match s[i]? with
  | some c => Nat.beq c.toNat (bl8 i)
  | none => false
theorem ot_indexS8 {t : TypeId} {x y : Operand} {k : IntKind} {n : Nat} {s : ByteArray} (hx : OpT Γ x (tIs (.string s))) (hs : tab8 s = true) (hy : OpT Γ y (tIs (.int k ((n : Nat) : Int)))) (ht : stB X.P t = true) (hn : n < 256) :
    OpTy X Γ H ⟨dst, .index t x y, ty, pos, af, gd⟩ (tIs (.int .u8 ((bl8 n : Nat) : Int))) := by
  have h1 := List.all_eq_true.1 hs n (List.mem_range.2 hn)
  split at h1
  · rename_i c hc
    exact ot_indexS hx hy ht (by omega) (by simpa using hc) (by rw [nat_beq.1 h1])
  · cases h1
theorem row_shl {O : List Nat} {n c : Nat} {cs : List Value} {s : St} (hd : Digs O) (hv : val O = n) (h : (cRow encD O c).p cs s) : (cRow encD (dig n) c).p cs s := by
  obtain ⟨m, hm⟩ := trim_pre O
  rw [trimD_eq hd, hv] at hm
  rw [hm]; exact cRow_take cs s h
theorem vsP_at {s : St} : ∀ {Ts : List Ty} {vs : List Value} {i : Nat} {T : Ty}, vsP Ts vs s → Ts[i]? = some T → ∃ v, T.p v s
  | [], _, _, _, _, h => by simp at h
  | _ :: _, [], _, _, h, _ => h.elim
  | _ :: _, v :: _, 0, _, h, hi => by simp at hi; subst hi; exact ⟨v, h.1⟩
  | _ :: _, _ :: _, i + 1, _, h, hi => vsP_at h.2 (by simpa using hi)
theorem CtrO.know {P : Program} {f : FuncId} {Ts : List Ty} {bt : TypeId} {n c : Nat} {R : Nat → CTy} {φ : Prop} (i : Nat) {Ti : Ty} (hi : Ts[i]? = some Ti) (h : ∀ v s, Ti.p v s → φ) (hc : φ → CtrO P f Ts bt n c R) : CtrO P f Ts bt n c R := fun w0 M0 hM vs hvs => by
  obtain ⟨v, hv⟩ := vsP_at hvs hi
  exact hc (h _ _ hv) w0 M0 hM vs hvs
theorem opv_add {t t2 : Nat} {tt yt : TypeId} {k : IntKind} {x y r : Int} (h : look Γ t = some (tIs (.int k x))) (h2 : look Γ t2 = some (tIs (.int k y))) (hw : k.wrap (x + y) = r) : OpV X Γ ⟨dst, .binOp .add tt (.tmp t) (.tmp t2) yt, ty, pos, af, gd⟩ (.int k r) := fun a ha w => by
  have h1 : a.eval (.tmp t) = .int k x := ha t _ h
  have h3 : a.eval (.tmp t2) = .int k y := ha t2 _ h2
  subst hw
  simp [execOp, h1, h3, eqGuard, binOp, Op.intArith]
theorem opv_addc {t : Nat} {tt yt : TypeId} {k : IntKind} {x y r : Int} (h : look Γ t = some (tIs (.int k x))) (hw : k.wrap (x + y) = r) : OpV X Γ ⟨dst, .binOp .add tt (.tmp t) (.const (.int k y)) yt, ty, pos, af, gd⟩ (.int k r) := fun a ha w => by
  have h1 : a.eval (.tmp t) = .int k x := ha t _ h
  have h2 : a.eval (.const (.int k y)) = .int k y := rfl
  subst hw
  simp [execOp, h1, h2, eqGuard, binOp, Op.intArith]
end Go.Rt
