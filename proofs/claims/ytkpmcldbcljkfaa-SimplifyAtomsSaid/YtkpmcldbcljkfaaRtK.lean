/- The logic of the walks, part K: a loop whose first round begins otherwise. Conditions: none; nothing of a program stands here. -/
import Derived.Test.YtkpmcldbcljkfaaRtJ
set_option linter.unusedVariables false
set_option linter.unusedSimpArgs false
namespace Go.Rt
open Go Go.RowKit

variable {X : Cx} {ops : Array Oper} {Q : Exit → Act → World → Prop} {rest : List Oper} {Γ : Gam} {H : Hp}
variable {dst : Option Tmp} {ty : TypeId} {pos : String} {af : Array Edge} {gd : Option (Nat × Bool)} {o : Oper} {T T' : Ty}

theorem JC.peel {ι : Type} {c : Code} (G : ι → Gam) (HH : ι → Hp) (inv : ι → Prop) (μ : ι → Nat) (M : Nat)
    (first : JC X c (Exit.then (fun a w => ∃ j, inv j ∧ μ j < M ∧ Sat X (G j) (HH j) a w) Q) Γ H)
    (round : ∀ i, inv i → JC X c (Exit.then (fun a w => ∃ j, inv j ∧ μ j < μ i ∧ Sat X (G j) (HH j) a w) Q) (G i) (HH i)) : JC X (.loop c) Q Γ H := by
  refine JC.loop (ι := Option ι) (fun | none => Γ | some i => G i) (fun | none => H | some i => HH i) (fun | none => True | some i => inv i) (fun | none => M | some i => μ i) none trivial (fun _ _ h => h) fun i hi => ?_
  cases i with
  | none => exact fun a w hs => then_mono (fun _ _ ⟨j, h⟩ => ⟨some j, h⟩) (first a w hs)
  | some i => exact fun a w hs => then_mono (fun _ _ ⟨j, h⟩ => ⟨some j, h⟩) (round i hi a w hs)

section
variable {α β γ δ : Type} {c : Code}
theorem JC.peel3 (G : α → β → γ → Gam) (HH : α → β → γ → Hp) (inv : α → β → γ → Prop) (μ : α → β → γ → Nat) (M : Nat)
    (first : JC X c (Exit.then (fun a w => ∃ l m n, inv l m n ∧ μ l m n < M ∧ Sat X (G l m n) (HH l m n) a w) Q) Γ H)
    (round : ∀ i j k, inv i j k → JC X c (Exit.then (fun a w => ∃ l m n, inv l m n ∧ μ l m n < μ i j k ∧ Sat X (G l m n) (HH l m n) a w) Q) (G i j k) (HH i j k)) : JC X (.loop c) Q Γ H :=
  JC.peel (ι := α × β × γ) (fun i => G i.1 i.2.1 i.2.2) (fun i => HH i.1 i.2.1 i.2.2) (fun i => inv i.1 i.2.1 i.2.2) (fun i => μ i.1 i.2.1 i.2.2) M (fun a w hs => then_mono (fun _ _ ⟨k, l, m, h⟩ => ⟨(k, l, m), h⟩) (first a w hs))
    fun i hi a w hs => then_mono (fun _ _ ⟨k, l, m, h⟩ => ⟨(k, l, m), h⟩) (round i.1 i.2.1 i.2.2 hi a w hs)
theorem JC.peel4 (G : α → β → γ → δ → Gam) (HH : α → β → γ → δ → Hp) (inv : α → β → γ → δ → Prop) (μ : α → β → γ → δ → Nat) (M : Nat)
    (first : JC X c (Exit.then (fun a w => ∃ l m n p, inv l m n p ∧ μ l m n p < M ∧ Sat X (G l m n p) (HH l m n p) a w) Q) Γ H)
    (round : ∀ i j k l, inv i j k l → JC X c (Exit.then (fun a w => ∃ m n p q, inv m n p q ∧ μ m n p q < μ i j k l ∧ Sat X (G m n p q) (HH m n p q) a w) Q) (G i j k l) (HH i j k l)) : JC X (.loop c) Q Γ H :=
  JC.peel (ι := α × β × γ × δ) (fun i => G i.1 i.2.1 i.2.2.1 i.2.2.2) (fun i => HH i.1 i.2.1 i.2.2.1 i.2.2.2) (fun i => inv i.1 i.2.1 i.2.2.1 i.2.2.2) (fun i => μ i.1 i.2.1 i.2.2.1 i.2.2.2) M (fun a w hs => then_mono (fun _ _ ⟨k, l, m, n, h⟩ => ⟨(k, l, m, n), h⟩) (first a w hs))
    fun i hi a w hs => then_mono (fun _ _ ⟨k, l, m, n, h⟩ => ⟨(k, l, m, n), h⟩) (round i.1 i.2.1 i.2.2.1 i.2.2.2 hi a w hs)
theorem JQ.first4 {G : α → β → γ → δ → Gam} {HH : α → β → γ → δ → Hp} {inv : α → β → γ → δ → Prop} {μ : α → β → γ → δ → Nat} {M : Nat} (j : α) (j2 : β) (j3 : γ) (j4 : δ) (hj : inv j j2 j3 j4) (hμ : μ j j2 j3 j4 < M) (hs : ∀ a w, Sat X Γ H a w → Sat X (G j j2 j3 j4) (HH j j2 j3 j4) a w) :
    JQ X (Exit.then (fun a w => ∃ l m n p, inv l m n p ∧ μ l m n p < M ∧ Sat X (G l m n p) (HH l m n p) a w) Q) .normal Γ H := fun a w h => ⟨j, j2, j3, j4, hj, hμ, hs a w h⟩
theorem JQ.first3 {G : α → β → γ → Gam} {HH : α → β → γ → Hp} {inv : α → β → γ → Prop} {μ : α → β → γ → Nat} {M : Nat} (j : α) (j2 : β) (j3 : γ) (hj : inv j j2 j3) (hμ : μ j j2 j3 < M) (hs : ∀ a w, Sat X Γ H a w → Sat X (G j j2 j3) (HH j j2 j3) a w) :
    JQ X (Exit.then (fun a w => ∃ l m n, inv l m n ∧ μ l m n < M ∧ Sat X (G l m n) (HH l m n) a w) Q) .normal Γ H := fun a w h => ⟨j, j2, j3, hj, hμ, hs a w h⟩
end

theorem nil_sl {α : Type} {E : Enc α} : ∀ v s, (tIs (.slice none 0 0)).p v s → (tSl E []).p v s := fun v s h => by
  have h' : v = .slice none 0 0 := h
  subst h'; exact slP_nil _ _
theorem nil_z : ∀ v s, (tIs (.slice none 0 0)).p v s → tZ.p v s := fun v s h => ⟨none, h⟩
theorem ot_len_nil {t e sz by_ : Nat} {x : Operand} {ats : Array TypeId} (hx : OpT Γ x (tIs (.slice none 0 0))) (ht : slB X.P t = some (e, sz, by_)) (ha : ats = #[t]) :
    OpTy X Γ H ⟨dst, .call { callee := .builtin .len, args := #[x], argTypes := ats }, ty, pos, af, gd⟩ (tIs (.int .i64 0)) := ot_len (E := encD) (xs := []) (.sub hx nil_sl) ht ha
end Go.Rt
