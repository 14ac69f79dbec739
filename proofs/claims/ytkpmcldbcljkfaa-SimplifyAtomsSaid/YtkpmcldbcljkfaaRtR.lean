/- The logic of the walks, part R: code within a round of a range over a function. Conditions: none; nothing of a program stands here. -/
import Derived.Test.YtkpmcldbcljkfaaRtM
import Derived.RangeFuncNested
import Derived.LoopIn
import Derived.TacticsIn
set_option linter.unusedVariables false
set_option linter.unusedSimpArgs false
namespace Go.Rt
open Go Go.RowKit

variable {X : Cx} {ops : Array Oper} {Q : Exit → Act → World → Prop} {rest : List Oper} {Γ : Gam} {H : Hp} {r : Option Nat}

/-- The fence that lets all in: within the round of loop record r, or in a function's own frame. -/
abbrev fenR (r : Option Nat) : Fence := { Fence.wide with round := r }

theorem fenR_room {r : Option Nat} {n : Nat} : (fenR r).room n := fun _ h => by simp [Fence.wide] at h

/-- An operation that is no defer statement is carried out in a round as everywhere. -/
theorem op_in {P : Program} {o : Oper} {a : Act} {w : World} {K : Act → World → Prop} {Q : Exit → Act → World → Prop} (hd : ∀ c, o.op ≠ .defer c) (h : o.wp P a w K Q) : o.wpIn (fenR r) 0 P a w K Q := by
  refine ⟨fun _ _ => trivial, ?_⟩
  have hs : o.semAt (fenR r).round a.eval = execOp a.eval o := Oper.semAt_eq _ _ o hd
  rw [hs]
  unfold Oper.wp at h
  generalize (execOp a.eval o).run P w = res at h ⊢
  cases res with
  | ok nx w' =>
    cases nx
    case enter f args => exact ⟨fun q => by simp [Fence.wide] at q, (callsIn_wide.2 h : CallsIn Fence.wide 0 P f args w' _)⟩
    case row row args => exact ⟨fun q => by simp [Fence.wide] at q, fun c cs _ => let ⟨v, w', q1, q2⟩ := h c cs; ⟨v, w', q1, stepsIn_wide.2 q2⟩⟩
    all_goals first | exact h | exact h.elim
  | halt x w' =>
    cases x <;> first | exact h | exact h.elim

def noDefB (l : List Oper) : Bool := l.all fun o => match o.op with | .defer _ => false | _ => true

theorem wpN.inRound {P : Program} {ops : Array Oper} {Q : Exit → Act → World → Prop} : ∀ {l : List Oper} {a : Act} {w : World}, noDefB l = true → wpN P ops Q l a w → wpListIn (fenR r) 0 P ops Q l a w
  | [], _, _, _, h => by unfold wpN at h; exact h
  | o :: rest, a, w, hn, h => by
    unfold wpN at h
    unfold wpListIn
    simp only [noDefB, List.all_cons, Bool.and_eq_true] at hn
    split
    · rename_i hw; rw [if_pos hw] at h
      exact op_in (fun c e => by have := hn.1; rw [e] at this; cases this) (Oper.wp_mono (fun _ _ h => wpN.inRound hn.2 h) h)
    · rename_i hw; rw [if_neg hw] at h; exact ⟨fun _ _ => trivial, wpN.inRound hn.2 h⟩

def JCR (X : Cx) (r : Option Nat) (c : Code) (Q : Exit → Act → World → Prop) (Γ : Gam) (H : Hp) : Prop := ∀ a w, Sat X Γ H a w → c.wpIn (fenR r) 0 X.P Q a w
theorem JCR.seq {x y : Code} (h : JCR X r x (Exit.then (y.wpIn (fenR r) 0 X.P Q) Q) Γ H) : JCR X r (.seq x y) Q Γ H := fun a w hs => wpIn_seq (h a w hs)
theorem JCR.skip (h : JQ X Q .normal Γ H) : JCR X r .skip Q Γ H := fun a w hs => wpIn_skip (h a w hs)
theorem JCR.exit {id : Nat} (h : JQ X Q (.exit id) Γ H) : JCR X r (.exit id) Q Γ H := fun a w hs => wpIn_exit (h a w hs)
theorem JCR.ret (h : JQ X Q .ret Γ H) : JCR X r .ret Q Γ H := fun a w hs => wpIn_ret (h a w hs)
theorem JCR.block {id : Nat} {c : Code} (h : JCR X r c (Exit.inBlock id Q) Γ H) : JCR X r (.block id c) Q Γ H := fun a w hs => wpIn_block (h a w hs)
theorem JCR.region {id : Nat} {l : List Oper} (h : J X l.toArray Q l Γ H) (hn : noDefB l = true := by rfl) : JCR X r (.region id l.toArray false) Q Γ H := fun a w hs => wpIn_region_lit (wpN.inRound hn (h a w hs))
theorem JCR.cond {c : Operand} {x y : Code} {t : Bool} (hc : OpT Γ c (tIs (.bool t))) (ht : t = true → JCR X r x Q Γ H) (hf : t = false → JCR X r y Q Γ H) : JCR X r (.cond c x y) Q Γ H := fun a w hs =>
  wpIn_cond_split (hc.ev (hs.on (slotOf c)) (fun _ h => h)) (fun h => ht h a w hs) (fun h => hf h a w hs)
theorem JCR.cond_true {c : Operand} {x y : Code} (hc : OpT Γ c (tIs (.bool true))) (ht : JCR X r x Q Γ H) : JCR X r (.cond c x y) Q Γ H := fun a w hs =>
  wpIn_cond_true (hc.ev (hs.on (slotOf c)) (fun _ h => h)) (ht a w hs)
theorem JCR.cond_false {c : Operand} {x y : Code} (hc : OpT Γ c (tIs (.bool false))) (hf : JCR X r y Q Γ H) : JCR X r (.cond c x y) Q Γ H := fun a w hs =>
  wpIn_cond_false (hc.ev (hs.on (slotOf c)) (fun _ h => h)) (hf a w hs)
theorem JQR.then_normal {c : Code} {Q' : Exit → Act → World → Prop} (h : JCR X r c Q Γ H) : JQ X (Exit.then (c.wpIn (fenR r) 0 X.P Q) Q') .normal Γ H := h
theorem JCR.weak {c : Code} {Γ' : Gam} {H' : Hp} (h : ∀ a w, Sat X Γ H a w → Sat X Γ' H' a w) (next : JCR X r c Q Γ' H') : JCR X r c Q Γ H := fun a w hs => next a w (h a w hs)
theorem thenR_mono {P : Program} {c : Code} {K K' : Act → World → Prop} {a : Act} {w : World} (h : ∀ a w, K a w → K' a w) (hc : c.wpIn (fenR r) 0 P (Exit.then K Q) a w) : c.wpIn (fenR r) 0 P (Exit.then K' Q) a w :=
  wpIn_mono hc fun e a w q => by cases e <;> first | exact h _ _ q | exact q

theorem least {p : Nat → Prop} (h : ∃ n, p n) : ∃ n, p n ∧ ∀ k, p k → n ≤ k := by
  obtain ⟨n, hn⟩ := h
  induction n using Nat.strongRecOn with
  | _ n ih =>
    by_cases q : ∃ k, k < n ∧ p k
    · obtain ⟨k, hk, hp⟩ := q
      exact ih k hk hp
    · exact ⟨n, hn, fun k hk => Nat.le_of_not_lt fun hlt => q ⟨k, hlt, hk⟩⟩
theorem JCR.loop {ι : Type} {c : Code} (G : ι → Gam) (HH : ι → Hp) (inv : ι → Prop) (μ : ι → Nat) (i0 : ι) (h0 : inv i0) (hs0 : ∀ a w, Sat X Γ H a w → Sat X (G i0) (HH i0) a w)
    (round : ∀ i, inv i → JCR X r c (Exit.then (fun a w => ∃ j, inv j ∧ μ j < μ i ∧ Sat X (G j) (HH j) a w) Q) (G i) (HH i)) : JCR X r (.loop c) Q Γ H := by
  classical
  intro a w hs
  let I : Act → World → Prop := fun a w => ∃ n i, μ i = n ∧ inv i ∧ Sat X (G i) (HH i) a w
  let m : Act → World → Nat := fun a w => if h : I a w then Classical.choose (least h) else 0
  refine wpIn_loop I m ⟨_, i0, rfl, h0, hs0 a w hs⟩ fun a w hI => ?_
  obtain ⟨⟨i, hi, hinv, hsat⟩, _⟩ := Classical.choose_spec (least hI)
  have hm : m a w = Classical.choose (least hI) := dif_pos hI
  refine thenR_mono (fun a' w' ⟨j, hj, hlt, hs'⟩ => ?_) (round i hinv a w hsat)
  have hI' : I a' w' := ⟨_, j, rfl, hj, hs'⟩
  refine ⟨hI', ?_⟩
  have hm' : m a' w' = Classical.choose (least hI') := dif_pos hI'
  have : Classical.choose (least hI') ≤ μ j := (Classical.choose_spec (least hI')).2 _ ⟨j, rfl, hj, hs'⟩
  rw [hm, hm', ← hi]
  omega
section
variable {α β γ δ ε : Type} {c : Code}
theorem JCR.loop2 (G : α → β → Gam) (HH : α → β → Hp) (inv : α → β → Prop) (μ : α → β → Nat) (a0 : α) (b0 : β) (h0 : inv a0 b0) (hs0 : ∀ a w, Sat X Γ H a w → Sat X (G a0 b0) (HH a0 b0) a w)
    (round : ∀ i j, inv i j → JCR X r c (Exit.then (fun a w => ∃ k l, inv k l ∧ μ k l < μ i j ∧ Sat X (G k l) (HH k l) a w) Q) (G i j) (HH i j)) : JCR X r (.loop c) Q Γ H :=
  JCR.loop (ι := α × β) (fun i => G i.1 i.2) (fun i => HH i.1 i.2) (fun i => inv i.1 i.2) (fun i => μ i.1 i.2) (a0, b0) h0 hs0 fun i hi a w hs => thenR_mono (fun _ _ ⟨k, l, h⟩ => ⟨(k, l), h⟩) (round i.1 i.2 hi a w hs)
theorem JCR.loop3 (G : α → β → γ → Gam) (HH : α → β → γ → Hp) (inv : α → β → γ → Prop) (μ : α → β → γ → Nat) (a0 : α) (b0 : β) (c0 : γ) (h0 : inv a0 b0 c0) (hs0 : ∀ a w, Sat X Γ H a w → Sat X (G a0 b0 c0) (HH a0 b0 c0) a w)
    (round : ∀ i j k, inv i j k → JCR X r c (Exit.then (fun a w => ∃ l m n, inv l m n ∧ μ l m n < μ i j k ∧ Sat X (G l m n) (HH l m n) a w) Q) (G i j k) (HH i j k)) : JCR X r (.loop c) Q Γ H :=
  JCR.loop (ι := α × β × γ) (fun i => G i.1 i.2.1 i.2.2) (fun i => HH i.1 i.2.1 i.2.2) (fun i => inv i.1 i.2.1 i.2.2) (fun i => μ i.1 i.2.1 i.2.2) (a0, b0, c0) h0 hs0 fun i hi a w hs => thenR_mono (fun _ _ ⟨k, l, m, h⟩ => ⟨(k, l, m), h⟩) (round i.1 i.2.1 i.2.2 hi a w hs)
theorem JCR.loop4 (G : α → β → γ → δ → Gam) (HH : α → β → γ → δ → Hp) (inv : α → β → γ → δ → Prop) (μ : α → β → γ → δ → Nat) (a0 : α) (b0 : β) (c0 : γ) (d0 : δ) (h0 : inv a0 b0 c0 d0) (hs0 : ∀ a w, Sat X Γ H a w → Sat X (G a0 b0 c0 d0) (HH a0 b0 c0 d0) a w)
    (round : ∀ i j k l, inv i j k l → JCR X r c (Exit.then (fun a w => ∃ m n p q, inv m n p q ∧ μ m n p q < μ i j k l ∧ Sat X (G m n p q) (HH m n p q) a w) Q) (G i j k l) (HH i j k l)) : JCR X r (.loop c) Q Γ H :=
  JCR.loop (ι := α × β × γ × δ) (fun i => G i.1 i.2.1 i.2.2.1 i.2.2.2) (fun i => HH i.1 i.2.1 i.2.2.1 i.2.2.2) (fun i => inv i.1 i.2.1 i.2.2.1 i.2.2.2) (fun i => μ i.1 i.2.1 i.2.2.1 i.2.2.2) (a0, b0, c0, d0) h0 hs0 fun i hi a w hs => thenR_mono (fun _ _ ⟨k, l, m, n, h⟩ => ⟨(k, l, m, n), h⟩) (round i.1 i.2.1 i.2.2.1 i.2.2.2 hi a w hs)
theorem JCR.loop5 (G : α → β → γ → δ → ε → Gam) (HH : α → β → γ → δ → ε → Hp) (inv : α → β → γ → δ → ε → Prop) (μ : α → β → γ → δ → ε → Nat) (a0 : α) (b0 : β) (c0 : γ) (d0 : δ) (e0 : ε) (h0 : inv a0 b0 c0 d0 e0) (hs0 : ∀ a w, Sat X Γ H a w → Sat X (G a0 b0 c0 d0 e0) (HH a0 b0 c0 d0 e0) a w)
    (round : ∀ i j k l m, inv i j k l m → JCR X r c (Exit.then (fun a w => ∃ n p q r s, inv n p q r s ∧ μ n p q r s < μ i j k l m ∧ Sat X (G n p q r s) (HH n p q r s) a w) Q) (G i j k l m) (HH i j k l m)) : JCR X r (.loop c) Q Γ H :=
  JCR.loop (ι := α × β × γ × δ × ε) (fun i => G i.1 i.2.1 i.2.2.1 i.2.2.2.1 i.2.2.2.2) (fun i => HH i.1 i.2.1 i.2.2.1 i.2.2.2.1 i.2.2.2.2) (fun i => inv i.1 i.2.1 i.2.2.1 i.2.2.2.1 i.2.2.2.2) (fun i => μ i.1 i.2.1 i.2.2.1 i.2.2.2.1 i.2.2.2.2) (a0, b0, c0, d0, e0) h0 hs0
    fun i hi a w hs => thenR_mono (fun _ _ ⟨n, p, q, r, s, h⟩ => ⟨(n, p, q, r, s), h⟩) (round i.1 i.2.1 i.2.2.1 i.2.2.2.1 i.2.2.2.2 hi a w hs)
end
end Go.Rt
