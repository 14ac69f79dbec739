/- The logic of the walks, and the plain mathematics, part 1: how a program logic for the model steps through code, and what the functions compute. Conditions: those of each theorem. -/
import Derived.WalkKit
import Derived.Orders
import Derived.KernelRfl
import Derived.Laws.Tables
import Derived.ChangeKeysEq
import Derived.Laws.StructEq
import Derived.Scope
import Derived.RangeFuncNested
import Derived.LoopIn
import Derived.TacticsIn
import Derived.OrdersIn
import Derived.ProofKit
import Derived.OpenShut
import Derived.Deep.Slices
import Derived.Carry
set_option linter.unusedVariables false
set_option linter.unusedSimpArgs false
namespace Go.Rt
open Go Go.RowKit
structure St where
 w : World
 M : Nat → Prop
structure Le (s s' : St) : Prop where
 size : s.w.heap.size ≤ s'.w.heap.size
 block : ∀ k, k < s.w.heap.size → ¬ s.M k → s'.w.heap[k]? = s.w.heap[k]?
 mask : ∀ k, k < s.w.heap.size → s'.M k → s.M k
theorem Le.refl (s : St) : Le s s := ⟨Nat.le_refl _, fun _ _ _ => rfl, fun _ _ h => h⟩
theorem Le.trans {a b c : St} (h : Le a b) (k : Le b c) : Le a c :=
 ⟨Nat.le_trans h.size k.size,
  fun i hi hm => (k.block i (Nat.lt_of_lt_of_le hi h.size) (fun hb => hm (h.mask i hi hb))).trans (h.block i hi hm),
  fun i hi hc => h.mask i hi (k.mask i (Nat.lt_of_lt_of_le hi h.size) hc)⟩
theorem Le.below {w w' : World} (M : Nat → Prop) (h : Below w.heap.size w w') : Le ⟨w, M⟩ ⟨w', M⟩ :=
 ⟨h.size, fun k hk _ => h.block k hk, fun _ _ h => h⟩
def St.cell (s : St) (b o : Nat) (v : Value) : Prop := s.w.cell? ⟨b, o, none⟩ = some v ∧ ¬ s.M b
theorem St.cell.up {s s' : St} (h : Le s s') {b o : Nat} {v : Value} (hc : s.cell b o v) : s'.cell b o v := by
 have hb : b < s.w.heap.size := World.block_lt_of_cell? s.w ⟨b, o, none⟩ hc.1
 exact ⟨(World.cell?_of_block (w := s.w) (a := ⟨b, o, none⟩) (h.block b hb hc.2)).trans hc.1, fun hm => hc.2 (h.mask b hb hm)⟩
structure Ty where
 p : Value → St → Prop
 up : ∀ {v : Value} {s s' : St}, Le s s' → p v s → p v s'
structure CTy where
 p : List Value → St → Prop
 up : ∀ {cs : List Value} {s s' : St}, Le s s' → p cs s → p cs s'
def tIs (u : Value) : Ty := ⟨fun v _ => v = u, fun _ h => h⟩
def K5 : Ty := ⟨fun _ _ => True, fun _ h => h⟩
def tIf (c : Prop) (T : Ty) : Ty := ⟨fun v s => (c → T.p v s) ∧ (¬ c → v = undef), fun hl h => ⟨fun hc => T.up hl (h.1 hc), h.2⟩⟩
def Value.isAgg : Value → Bool
 | .agg _ => true
 | _ => false
structure Enc (α : Type) where
 sz : Nat
 ag : Bool
 C : α → List Value → St → Prop
 up : ∀ {x : α} {cs : List Value} {s s' : St}, Le s s' → C x cs s → C x cs s'
 len : ∀ {x : α} {cs : List Value} {s : St}, C x cs s → cs.length = sz
 one : ∀ {x : α} {cs : List Value} {s : St}, C x cs s → ∀ u ∈ cs, u.oneCell' = true
def tV {α : Type} (E : Enc α) (x : α) : Ty :=
 ⟨fun v s => Value.isAgg v = E.ag ∧ E.C x v.cells.toList s, fun hl h => ⟨h.1, E.up hl h.2⟩⟩
def cellsP : List Ty → List Value → St → Prop
 | [], [], _ => True
 | T :: Ts, v :: vs, s => T.p v s ∧ v.oneCell' = true ∧ cellsP Ts vs s
 | _, _, _ => False
theorem cellsP.up {s s' : St} (hl : Le s s') : ∀ {Ts : List Ty} {cs : List Value}, cellsP Ts cs s → cellsP Ts cs s'
 | [], [], _ => trivial
 | [], _ :: _, h => h.elim
 | _ :: _, [], h => h.elim
 | T :: _, _ :: _, h => ⟨T.up hl h.1, h.2.1, cellsP.up hl h.2.2⟩
theorem cellsP.length {s : St} : ∀ {Ts : List Ty} {cs : List Value}, cellsP Ts cs s → cs.length = Ts.length
 | [], [], _ => rfl
 | [], _ :: _, h => h.elim
 | _ :: _, [], h => h.elim
 | _ :: _, _ :: _, h => by simp [cellsP.length h.2.2]
def cTs (Ts : List Ty) : CTy := ⟨cellsP Ts, fun hl h => cellsP.up hl h⟩
def cEnc {α : Type} (E : Enc α) (x : α) : CTy := ⟨E.C x, E.up⟩
abbrev Gam := List (Nat × Ty)
def look : Gam → Nat → Option Ty
 | [], _ => none
 | (j, T) :: r, i => bif Nat.beq j i then some T else look r i
structure HEnt where
 b : Nat
 ty : TypeId
 R : CTy
abbrev Hp := List HEnt
def mask (M0 : Nat → Prop) (H : Hp) : Nat → Prop := fun k => M0 k ∨ ∃ e ∈ H, e.b = k
structure Kept (L : List Nat) (w w' : World) : Prop where
 os : w'.os = w.os
 tape : w'.tape = w.tape
 output : w'.output = w.output
 size : w.heap.size ≤ w'.heap.size
 block : ∀ k, k < w.heap.size → k ∉ L → w'.heap[k]? = w.heap[k]?
theorem Kept.refl (L : List Nat) (w : World) : Kept L w w := ⟨rfl, rfl, rfl, Nat.le_refl _, fun _ _ _ => rfl⟩
theorem Kept.below {w w' : World} (h : Kept [] w w') : Below w.heap.size w w' := ⟨h.os, h.tape, h.output, h.size, fun k hk => h.block k hk (by simp)⟩
theorem Kept.ext {L : List Nat} {w0 w w' : World} (h : Kept L w0 w) (hb : Below w.heap.size w w') : Kept L w0 w' :=
 ⟨hb.os.trans h.os, hb.tape.trans h.tape, hb.output.trans h.output, Nat.le_trans h.size hb.size, fun k hk hL => (hb.block k (Nat.lt_of_lt_of_le hk h.size)).trans (h.block k hk hL)⟩
structure Cx where
 P : Program
 w0 : World
 M0 : Nat → Prop
 L : List Nat
 N : Nat
 Df : List Deferred
def hpOk (X : Cx) (H : Hp) (w : World) : Prop :=
 (∀ e ∈ H, (X.w0.heap.size ≤ e.b ∨ e.b ∈ X.L) ∧ ∃ cs, w.heap[e.b]? = some (.cells cs e.ty (0, 0)) ∧ e.R.p cs.toList ⟨w, mask X.M0 H⟩) ∧ (H.map (·.b)).Pairwise (· ≠ ·)
structure SatOn (X : Cx) (L : List Nat) (Γ : Gam) (H : Hp) (a : Act) (w : World) : Prop where
 size : a.tmps.size = X.N
 defers : a.defers = X.Df
 m0 : ∀ k, X.M0 k → k < X.w0.heap.size ∧ k ∉ X.L
 below : Kept X.L X.w0 w
 slots : ∀ i T, i ∈ L → look Γ i = some T → T.p (a.tmps.getD i undef) ⟨w, mask X.M0 H⟩
 hp : hpOk X H w
structure Sat (X : Cx) (Γ : Gam) (H : Hp) (a : Act) (w : World) : Prop where
 size : a.tmps.size = X.N
 defers : a.defers = X.Df
 m0 : ∀ k, X.M0 k → k < X.w0.heap.size ∧ k ∉ X.L
 below : Kept X.L X.w0 w
 slots : ∀ i T, look Γ i = some T → T.p (a.tmps.getD i undef) ⟨w, mask X.M0 H⟩
 hp : hpOk X H w
theorem Sat.on {X : Cx} {Γ : Gam} {H : Hp} {a : Act} {w : World} (h : Sat X Γ H a w) (L : List Nat) : SatOn X L Γ H a w :=
 ⟨h.size, h.defers, h.m0, h.below, fun i T _ hi => h.slots i T hi, h.hp⟩
theorem hpOk.lt {X : Cx} {H : Hp} {w : World} (h : hpOk X H w) {e : HEnt} (he : e ∈ H) : e.b < w.heap.size := by
 obtain ⟨_, cs, hc, _⟩ := h.1 e he
 exact (Array.getElem?_eq_some_iff.1 hc).1
theorem hpOk.ext {X : Cx} {H : Hp} {w w' : World} (h : hpOk X H w) (hb : Below w.heap.size w w') : hpOk X H w' := by
 refine ⟨fun e he => ?_, h.2⟩
 obtain ⟨h1, cs, hc, hr⟩ := h.1 e he
 exact ⟨h1, cs, (hb.block e.b (h.lt he)).trans hc, e.R.up (Le.below _ hb) hr⟩
theorem Sat.ext {X : Cx} {Γ : Gam} {H : Hp} {a : Act} {w w' : World} (h : Sat X Γ H a w) (hb : Below w.heap.size w w') : Sat X Γ H a w' :=
 ⟨h.size, h.defers, h.m0, h.below.ext hb, fun i T hi => T.up (Le.below _ hb) (h.slots i T hi), h.hp.ext hb⟩
theorem SatOn.ext {X : Cx} {L : List Nat} {Γ : Gam} {H : Hp} {a : Act} {w w' : World} (h : SatOn X L Γ H a w) (hb : Below w.heap.size w w') : SatOn X L Γ H a w' :=
 ⟨h.size, h.defers, h.m0, h.below.ext hb, fun i T hL hi => T.up (Le.below _ hb) (h.slots i T hL hi), h.hp.ext hb⟩
theorem getD_put {a : Act} {d i : Nat} {v : Value} (hd : d < a.tmps.size) : ((a.put (some d) v).tmps.getD i undef) = bif Nat.beq d i then v else a.tmps.getD i undef := by
 simp only [Act.put, Array.getD_eq_getD_getElem?]
 by_cases h : d = i
 ·subst h
  simp [hd]
 ·have : Nat.beq d i = false := by
   cases hb : Nat.beq d i with
   | false => rfl
   | true => exact absurd (Nat.eq_of_beq_eq_true hb) h
  rw [this, Array.getElem?_setIfInBounds_ne h]
  rfl
theorem size_put (a : Act) (d : Option Nat) (v : Value) : (a.put d v).tmps.size = a.tmps.size := by
 cases d <;> simp [Act.put]
theorem defers_put (a : Act) (d : Option Nat) (v : Value) : (a.put d v).defers = a.defers := by
 cases d <;> rfl
theorem T6 (j : Nat) (T : Ty) (r : Gam) (i : Nat) : look ((j, T) :: r) i = bif Nat.beq j i then some T else look r i := rfl
theorem Sat.put {X : Cx} {Γ : Gam} {H : Hp} {a : Act} {w : World} (h : Sat X Γ H a w) {d : Nat} (hd : d < X.N) {T : Ty} {v : Value} (hv : T.p v ⟨w, mask X.M0 H⟩) :
  Sat X ((d, T) :: Γ) H (a.put (some d) v) w := by
 refine ⟨(size_put _ _ _).trans h.size, (defers_put _ _ _).trans h.defers, h.m0, h.below, fun i T' hi => ?_, h.hp⟩
 rw [getD_put (by rw [h.size]; exact hd)]
 rw [T6] at hi
 cases hb : Nat.beq d i with
 | true => rw [hb] at hi; cases hi; exact hv
 | false => rw [hb] at hi; exact h.slots i T' hi
inductive OpT (Γ : Gam) : Operand → Ty → Prop
 | tmp {t : Nat} {T : Ty} (h : look Γ t = some T) : OpT Γ (.tmp t) T
 | const {v : Value} {T : Ty} (h : ∀ s, T.p v s) : OpT Γ (.const v) T
 | func {f : FuncId} {T : Ty} (h : ∀ s, T.p (.func (.func f) #[] #[]) s) : OpT Γ (.func f) T
 | glob {g : Nat} {T : Ty} (h : ∀ s, T.p (.pointer (some ⟨g, 0, none⟩)) s) : OpT Γ (.global g) T
 | sub {x : Operand} {T T' : Ty} (h : OpT Γ x T) (hs : ∀ v s, T.p v s → T'.p v s) : OpT Γ x T'
def T7 : Operand → List Nat
 | .tmp t => [t]
 | _ => []
theorem OpT.ev {Γ : Gam} {x : Operand} {T : Ty} (h : OpT Γ x T) {X : Cx} {L : List Nat} {H : Hp} {a : Act} {w : World} (hs : SatOn X L Γ H a w) (hL : ∀ i ∈ T7 x, i ∈ L) :
  T.p (a.eval x) ⟨w, mask X.M0 H⟩ := by
 induction h with
 | tmp h => exact hs.slots _ _ (hL _ (by simp [T7])) h
 | const h => exact h _
 | func h => exact h _
 | glob h => exact h _
 | sub _ hsub ih => exact hsub _ _ (ih hL)
theorem OpT.is {Γ : Gam} {v : Value} : OpT Γ (.const v) (tIs v) := .const fun _ => rfl
theorem OpT.eq {Γ : Gam} {x : Operand} {T T' : Ty} (h : OpT Γ x T) (e : T = T') : OpT Γ x T' := e ▸ h
def slotsOf (o : Oper) : List Nat := o.op.operands.toList.flatMap T7
def R2 (X : Cx) (Γ : Gam) (H : Hp) (o : Oper) (T : Ty) : Prop :=
 ∀ a w, SatOn X (slotsOf o) Γ H a w → o.wp X.P a w (fun a' w' => ∃ v, a' = a.put o.dst v ∧ Below w.heap.size w w' ∧ T.p v ⟨w', mask X.M0 H⟩) (fun _ _ _ => False)
theorem letsOut_false : ¬ LetsOut (fun _ _ _ => False) := fun ⟨_, _, h⟩ => h
theorem upon_mono {P : Program} {o : Oper} {a : Act} {K K' : Act → World → Prop} {Q : Exit → Act → World → Prop} (h : ∀ a w, K a w → K' a w) :
  ∀ r, o.upon P a K (fun _ _ _ => False) r → o.upon P a K' Q r := by
 intro r hr
 cases r with
 | ok n w' =>
  cases n <;> simp only [Oper.upon] at hr ⊢ <;>
   first
    | exact h _ _ hr
    | exact Calls.mono hr (fun e w'' he => by cases e <;> first | exact h _ _ he | exact he.elim | exact (letsOut_false he).elim)
    | exact Rows.mono hr (fun _ _ he => h _ _ he)
    | exact hr.elim
 | halt x w' => cases x <;> simp only [Oper.upon] at hr ⊢ <;> exact hr.elim
theorem wp_mono_false {P : Program} {o : Oper} {a : Act} {w : World} {K K' : Act → World → Prop} {Q : Exit → Act → World → Prop} (h : ∀ a w, K a w → K' a w)
  (hh : o.wp P a w K (fun _ _ _ => False)) : o.wp P a w K' Q := upon_mono h _ hh
def wpN (P : Program) (ops : Array Oper) (Q : Exit → Act → World → Prop) : List Oper → Act → World → Prop
 | [], a, w => Q .normal a w
 | o :: rest, a, w => if Region.wanted o (yielded ops a.tmps) then o.wp P a w (wpN P ops Q rest) Q else wpN P ops Q rest (a.put o.dst undef) w
theorem wpN.list {P : Program} {ops : Array Oper} {Q : Exit → Act → World → Prop} : ∀ {l : List Oper} {a : Act} {w : World}, wpN P ops Q l a w → wpList P ops Q l a w
 | [], _, _, h => h
 | o :: rest, a, w, h => by
  unfold wpN at h
  unfold wpList
  split
  ·rename_i hw; rw [if_pos hw] at h; exact .inl (Oper.wp_mono (fun _ _ h => wpN.list h) h)
  ·rename_i hw; rw [if_neg hw] at h; exact wpN.list h
def J (X : Cx) (ops : Array Oper) (Q : Exit → Act → World → Prop) (l : List Oper) (Γ : Gam) (H : Hp) : Prop := ∀ a w, Sat X Γ H a w → wpN X.P ops Q l a w
def JC (X : Cx) (c : Code) (Q : Exit → Act → World → Prop) (Γ : Gam) (H : Hp) : Prop := ∀ a w, Sat X Γ H a w → c.wp X.P Q a w
def JQ (X : Cx) (Q : Exit → Act → World → Prop) (e : Exit) (Γ : Gam) (H : Hp) : Prop := ∀ a w, Sat X Γ H a w → Q e a w
variable {X : Cx} {ops : Array Oper} {Q : Exit → Act → World → Prop} {rest : List Oper} {Γ : Gam} {H : Hp}
theorem J.nil (h : JQ X Q .normal Γ H) : J X ops Q [] Γ H := fun a w hs => h a w hs
theorem V6 {o : Oper} (hg : o.guard = none) (f : Nat → Option Bool) : Region.wanted o f = true := by simp [Region.wanted, hg]
theorem J.op {o : Oper} {d : Nat} {T : Ty} (h : R2 X Γ H o T) (hd : o.dst = some d) (hN : d < X.N) (hg : o.guard = none) (next : J X ops Q rest ((d, T) :: Γ) H) : J X ops Q (o :: rest) Γ H := by
 intro a w hs
 unfold wpN
 rw [if_pos (V6 hg _)]
 refine wp_mono_false ?_ (h a w (hs.on _))
 rintro a' w' ⟨v, rfl, hb, hv⟩
 rw [hd]
 exact next _ _ ((hs.ext hb).put hN hv)
attribute [irreducible] wpN
theorem J.weak {l : List Oper} {Γ' : Gam} {H' : Hp} (h : ∀ a w, Sat X Γ H a w → Sat X Γ' H' a w) (next : J X ops Q l Γ' H') : J X ops Q l Γ H := fun a w hs => next a w (h a w hs)
theorem JC.weak {c : Code} {Γ' : Gam} {H' : Hp} (h : ∀ a w, Sat X Γ H a w → Sat X Γ' H' a w) (next : JC X c Q Γ' H') : JC X c Q Γ H := fun a w hs => next a w (h a w hs)
theorem JQ.weak {e : Exit} {Γ' : Gam} {H' : Hp} (h : ∀ a w, Sat X Γ H a w → Sat X Γ' H' a w) (next : JQ X Q e Γ' H') : JQ X Q e Γ H := fun a w hs => next a w (h a w hs)
theorem JC.seq {x y : Code} (h : JC X x (Exit.then (y.wp X.P Q) Q) Γ H) : JC X (.seq x y) Q Γ H := fun a w hs => wp_seq (h a w hs)
theorem JC.skip (h : JQ X Q .normal Γ H) : JC X .skip Q Γ H := fun a w hs => wp_skip (h a w hs)
theorem JC.exit {id : Nat} (h : JQ X Q (.exit id) Γ H) : JC X (.exit id) Q Γ H := fun a w hs => wp_exit (h a w hs)
theorem JC.ret (h : JQ X Q .ret Γ H) : JC X .ret Q Γ H := fun a w hs => wp_ret (h a w hs)
theorem JC.block {id : Nat} {c : Code} (h : JC X c (Exit.inBlock id Q) Γ H) : JC X (.block id c) Q Γ H := fun a w hs => wp_block (h a w hs)
theorem JC.region {id : Nat} {l : List Oper} (h : J X l.toArray Q l Γ H) : JC X (.region id l.toArray false) Q Γ H := fun a w hs => wp_region_lit (h a w hs).list
theorem JC.cond {c : Operand} {x y : Code} {t : Bool} (hc : OpT Γ c (tIs (.bool t))) (ht : t = true → JC X x Q Γ H) (hf : t = false → JC X y Q Γ H) : JC X (.cond c x y) Q Γ H := fun a w hs =>
 wp_cond_split (hc.ev (hs.on (T7 c)) (fun _ h => h)) (fun h => ht h a w hs) (fun h => hf h a w hs)
theorem JC.cond_true {c : Operand} {x y : Code} (hc : OpT Γ c (tIs (.bool true))) (ht : JC X x Q Γ H) : JC X (.cond c x y) Q Γ H := fun a w hs =>
 wp_cond_true (hc.ev (hs.on (T7 c)) (fun _ h => h)) (ht a w hs)
theorem JC.cond_false {c : Operand} {x y : Code} (hc : OpT Γ c (tIs (.bool false))) (hf : JC X y Q Γ H) : JC X (.cond c x y) Q Γ H := fun a w hs =>
 wp_cond_false (hc.ev (hs.on (T7 c)) (fun _ h => h)) (hf a w hs)
theorem JQ.then_normal {c : Code} {Q' : Exit → Act → World → Prop} (h : JC X c Q Γ H) : JQ X (Exit.then (c.wp X.P Q) Q') .normal Γ H := h
theorem JQ.then_exit {K : Act → World → Prop} {id : Nat} (h : JQ X Q (.exit id) Γ H) : JQ X (Exit.then K Q) (.exit id) Γ H := h
theorem JQ.then_ret {K : Act → World → Prop} (h : JQ X Q .ret Γ H) : JQ X (Exit.then K Q) .ret Γ H := h
theorem JQ.block_normal {id : Nat} (h : JQ X Q .normal Γ H) : JQ X (Exit.inBlock id Q) .normal Γ H := h
theorem JQ.block_ret {id : Nat} (h : JQ X Q .ret Γ H) : JQ X (Exit.inBlock id Q) .ret Γ H := h
theorem JQ.block_exit {id : Nat} (h : JQ X Q .normal Γ H) : JQ X (Exit.inBlock id Q) (.exit id) Γ H := fun a w hs => by
 show (if id = id then _ else _)
 rw [if_pos rfl]; exact h a w hs
theorem JQ.block_other {id j : Nat} (hne : Nat.beq j id = false) (h : JQ X Q (.exit j) Γ H) : JQ X (Exit.inBlock id Q) (.exit j) Γ H := fun a w hs => by
 have hn : ¬ j = id := fun e => by subst e; rw [Nat.beq_refl] at hne; cases hne
 show (if j = id then _ else _)
 rw [if_neg hn]; exact h a w hs
theorem JC.loop {ι : Type} {c : Code} (G : ι → Gam) (HH : ι → Hp) (inv : ι → Prop) (μ : ι → Nat) (i0 : ι) (h0 : inv i0) (hs0 : ∀ a w, Sat X Γ H a w → Sat X (G i0) (HH i0) a w)
  (round : ∀ i, inv i → JC X c (Exit.then (fun a w => ∃ j, inv j ∧ μ j < μ i ∧ Sat X (G j) (HH j) a w) Q) (G i) (HH i)) : JC X (.loop c) Q Γ H := by
 intro a w hs
 intro b k cs
 have key : ∀ m (j : ι), μ j = m → inv j → ∀ a w, Sat X (G j) (HH j) a w →
   ∃ e a' w', Q e a' w' ∧ Arrives X.P (lone (b.at a (.code c :: .inLoop c :: k)) cs w) b k cs e a' w' := by
  intro m
  induction m using Nat.strongRecOn with
  | _ m ih2 =>
   intro j hm hj a w hs
   obtain ⟨e, a₁, w₁, hq, harr⟩ := round j hj a w hs b (.inLoop c :: k) cs
   cases e with
   | normal =>
    obtain ⟨j2, hj2, hlt, hs2⟩ := hq
    obtain ⟨e₂, a₂, w₂, hq₂, harr₂⟩ := ih2 (μ j2) (hm ▸ hlt) j2 rfl hj2 a₁ w₁ hs2
    exact ⟨e₂, a₂, w₂, hq₂, .of_steps (Steps.trans harr (.one step_inLoop)) harr₂⟩
   | exit id => exact ⟨_, a₁, w₁, hq, .pass (x := .inLoop c) rfl (fun _ _ => .inl (by simp)) harr⟩
   | goto l => exact ⟨_, a₁, w₁, hq, .pass (x := .inLoop c) rfl (fun _ _ => .inl (by simp)) harr⟩
   | ret => exact ⟨_, a₁, w₁, hq, .pass (x := .inLoop c) rfl (fun _ _ => .inl (by simp)) harr⟩
   | panic ch => exact ⟨_, a₁, w₁, hq, .pass (x := .inLoop c) rfl (fun _ _ => .inl (by simp)) harr⟩
   | outgrown => exact ⟨_, a₁, w₁, hq, .pass (x := .inLoop c) rfl (fun _ _ => .inl (by simp)) harr⟩
 obtain ⟨e, a', w', hq, harr⟩ := key _ i0 rfl h0 a w (hs0 a w hs)
 exact ⟨e, a', w', hq, .of_steps (.one step_loop) harr⟩
theorem JQ.round {ι : Type} {G : ι → Gam} {HH : ι → Hp} {inv : ι → Prop} {μ : ι → Nat} {i : ι} (j : ι) (hj : inv j) (hμ : μ j < μ i) (hs : ∀ a w, Sat X Γ H a w → Sat X (G j) (HH j) a w) :
  JQ X (Exit.then (fun a w => ∃ j, inv j ∧ μ j < μ i ∧ Sat X (G j) (HH j) a w) Q) .normal Γ H := fun a w h => ⟨j, hj, hμ, hs a w h⟩
theorem sub_nil (hH : ∀ a w, Sat X Γ H a w → Sat X Γ H a w := fun _ _ h => h) : ∀ a w, Sat X Γ H a w → Sat X [] H a w := fun a w h =>
 have h := hH a w h
 ⟨h.size, h.defers, h.m0, h.below, fun _ _ hi => by simp [look] at hi, h.hp⟩
theorem sub_cons {Γ' : Gam} {i : Nat} {T : Ty} (hT : OpT Γ (.tmp i) T) (h : ∀ a w, Sat X Γ H a w → Sat X Γ' H a w) : ∀ a w, Sat X Γ H a w → Sat X ((i, T) :: Γ') H a w := fun a w hs => by
 have h' := h a w hs
 refine ⟨h'.size, h'.defers, h'.m0, h'.below, fun j T' hj => ?_, h'.hp⟩
 rw [T6] at hj
 cases hb : Nat.beq i j with
 | true =>
  rw [hb] at hj; cases hj
  have := hT.ev (hs.on [i]) (by simp [T7])
  rw [← Nat.eq_of_beq_eq_true hb]
  exact this
 | false => rw [hb] at hj; exact h'.slots j T' hj
theorem Q8 {Γ1 Γ2 : Gam} {H1 H2 : Hp} (h1 : ∀ a w, Sat X Γ H a w → Sat X Γ1 H1 a w) (h2 : ∀ a w, Sat X Γ1 H1 a w → Sat X Γ2 H2 a w) : ∀ a w, Sat X Γ H a w → Sat X Γ2 H2 a w := fun a w h => h2 a w (h1 a w h)
theorem mask_le {w : World} {M0 : Nat → Prop} {H H' : Hp} (h : ∀ e ∈ H', ∃ e' ∈ H, e'.b = e.b) : Le ⟨w, mask M0 H⟩ ⟨w, mask M0 H'⟩ :=
 ⟨Nat.le_refl _, fun _ _ _ => rfl, fun k _ hk => by
  rcases hk with hk | ⟨e, he, rfl⟩
  ·exact .inl hk
  ·obtain ⟨e', he', hb⟩ := h e he
   exact .inr ⟨e', he', hb⟩⟩
inductive HSub : Hp → Hp → Prop
 | nil : HSub [] []
 | drop {e : HEnt} {H H' : Hp} (h : HSub H H') : HSub (e :: H) H'
 | keep {b : Nat} {ty : TypeId} {R R' : CTy} {H H' : Hp} (hR : ∀ cs s, R.p cs s → R'.p cs s) (h : HSub H H') : HSub (⟨b, ty, R⟩ :: H) (⟨b, ty, R'⟩ :: H')
theorem HSub.mem {H H' : Hp} (h : HSub H H') : ∀ e' ∈ H', ∃ e ∈ H, e.b = e'.b ∧ e.ty = e'.ty ∧ ∀ cs s, e.R.p cs s → e'.R.p cs s := by
 induction h with
 | nil => intro e h; cases h
 | drop _ ih => intro e' he'; obtain ⟨e, he, h⟩ := ih e' he'; exact ⟨e, .tail _ he, h⟩
 | keep hR _ ih =>
  intro e' he'
  cases he' with
  | head => exact ⟨_, .head _, rfl, rfl, hR⟩
  | tail _ he' => obtain ⟨e, he, h⟩ := ih e' he'; exact ⟨e, .tail _ he, h⟩
theorem HSub.sublist {H H' : Hp} (h : HSub H H') : (H'.map (·.b)).Sublist (H.map (·.b)) := by
 induction h with
 | nil => exact .slnil
 | drop _ ih => exact .cons _ ih
 | keep _ _ ih => exact .cons_cons _ ih
theorem HSub.refl : ∀ (H : Hp), HSub H H
 | [] => .nil
 | ⟨_, _, _⟩ :: H => .keep (fun _ _ h => h) (HSub.refl H)
theorem X3 {H' : Hp} (h : HSub H H') : ∀ a w, Sat X Γ H a w → Sat X Γ H' a w := fun a w hs => by
 have hm : Le ⟨w, mask X.M0 H⟩ ⟨w, mask X.M0 H'⟩ := mask_le fun e he => let ⟨e', he', hb, _⟩ := h.mem e he; ⟨e', he', hb⟩
 refine ⟨hs.size, hs.defers, hs.m0, hs.below, fun i T hi => T.up hm (hs.slots i T hi), fun e' he' => ?_, hs.hp.2.sublist h.sublist⟩
 obtain ⟨e, he, hb, ht, hr⟩ := h.mem e' he'
 obtain ⟨h1, cs, hc, hR⟩ := hs.hp.1 e he
 rw [← hb, ← ht]
 exact ⟨h1, cs, hc, e'.R.up hm (hr _ _ hR)⟩
end Go.Rt
namespace Go.Rt
open Go Go.RowKit
variable {X : Cx} {ops : Array Oper} {Q : Exit → Act → World → Prop} {rest : List Oper} {Γ : Gam} {H : Hp}
variable {dst : Option Tmp} {ty : TypeId} {pos : String} {af : Array Edge} {gd : Option (Nat × Bool)}
def scalB (P : Program) (t : TypeId) : Bool := match P.underlying t with
 | some (.struct _) => false
 | some (.array _ _) => false
 | some _ => true
 | none => false
def aggB (P : Program) (t : TypeId) : Option Nat := match P.underlying t with
 | some (.struct _) => (P.info? t).map (·.size)
 | some (.array _ _) => (P.info? t).map (·.size)
 | _ => none
def szB (P : Program) (t : TypeId) : Option Nat := (P.info? t).map (·.size)
def slB (P : Program) (t : TypeId) : Option (Nat × Nat × Nat) := match P.underlying t with
 | some (.slice e) => (P.info? e).map fun i => (e, i.size, i.bytes)
 | _ => none
def fdB (P : Program) (t f : Nat) : Option (Nat × Nat) := match P.underlying t with
 | some (.struct fs) => match fs[f]? with
  | some x => if (P.info? x.type).any (fun i => i.size != 0) then some (x.offset, x.type) else none
  | none => none
 | _ => none
def zeroB (P : Program) (t : TypeId) : Option Value := (P.info? t).bind (·.zero)
def fnB (P : Program) (f : FuncId) : Bool := match P.funcs[f]? with
 | some fn => !(fn.name == "runtime.NumGoroutine") && fn.body.isSome
 | none => false
theorem run_isAgg_scal {P : Program} {t : TypeId} (h : scalB P t = true) (w : World) : (isAgg t).run P w = .ok false w := by
 unfold scalB at h
 cases hu : P.underlying t with
 | none => rw [hu] at h; cases h
 | some d => rw [hu] at h; cases d <;> first | exact absurd h Bool.false_ne_true | simp [isAgg, run_underlying hu]
theorem run_isAgg_agg {P : Program} {t : TypeId} {n : Nat} (h : aggB P t = some n) (w : World) : (isAgg t).run P w = .ok true w ∧ (sizeOf t).run P w = .ok n w := by
 unfold aggB at h
 cases hu : P.underlying t with
 | none => rw [hu] at h; cases h
 | some d =>
  rw [hu] at h
  cases d <;> first | cases h | skip
  all_goals
   cases hi : P.info? t with
   | none => rw [hi] at h; cases h
   | some i => rw [hi] at h; cases h; exact ⟨by simp [isAgg, run_underlying hu], by simp [sizeOf, typeInfo, hi]⟩
theorem run_sizeOf_sz {P : Program} {t : TypeId} {n : Nat} (h : szB P t = some n) (w : World) : (sizeOf t).run P w = .ok n w := by
 unfold szB at h
 cases hi : P.info? t with
 | none => rw [hi] at h; cases h
 | some i => rw [hi] at h; cases h; simp [sizeOf, typeInfo, hi]
theorem slB_spec {P : Program} {t e sz by_ : Nat} (h : slB P t = some (e, sz, by_)) : P.underlying t = some (.slice e) ∧ ∃ i, P.info? e = some i ∧ i.size = sz ∧ i.bytes = by_ := by
 unfold slB at h
 cases hu : P.underlying t with
 | none => rw [hu] at h; cases h
 | some d =>
  rw [hu] at h
  cases d <;> first | cases h | skip
  rename_i e'
  cases hi : P.info? e' with
  | none => simp [hi] at h
  | some i => simp [hi] at h; obtain ⟨rfl, rfl, rfl⟩ := h; exact ⟨rfl, i, hi, rfl, rfl⟩
theorem add_at (b o n : Nat) : (⟨b, o, none⟩ : Addr).add n = ⟨b, o + n, none⟩ := by unfold Addr.add; split <;> simp_all
theorem run_loadVar_scal {P : Program} {t : TypeId} (h : scalB P t = true) {w : World} {b o : Nat} {v : Value} (hc : w.cell? ⟨b, o, none⟩ = some v) : (loadVar t ⟨b, o, none⟩).run P w = .ok v w := by
 simp [loadVar, run_isAgg_scal h, hc]
theorem run_loadVar_agg {P : Program} {t n : Nat} (h : aggB P t = some n) {w : World} {b o : Nat} {cs : List Value} (hn : cs.length = n) (hc : ∀ j u, cs[j]? = some u → w.cell? ⟨b, o + j, none⟩ = some u) : (loadVar t ⟨b, o, none⟩).run P w = .ok (.agg cs.toArray) w := by
 obtain ⟨h1, h2⟩ := run_isAgg_agg h w
 have h3 := run_loadCells_list (P := P) w ⟨b, o, none⟩ cs (by intro j u hu; rw [add_at]; exact hc j u hu)
 rw [hn] at h3
 simp [loadVar, h1, h2, h3]
theorem V4 {o : Oper} {T : Ty} (h : ∀ a w, SatOn X (slotsOf o) Γ H a w → ∃ v w', (execOp a.eval o).run X.P w = .ok (.value v) w' ∧ Below w.heap.size w w' ∧ T.p v ⟨w', mask X.M0 H⟩) : R2 X Γ H o T := by
 intro a w hs
 obtain ⟨v, w', hr, hb, hv⟩ := h a w hs
 unfold Oper.wp
 rw [hr]
 exact ⟨v, rfl, hb, hv⟩
theorem Y1 {o : Oper} {x : Operand} (hx : x ∈ o.op.operands.toList) : ∀ i ∈ T7 x, i ∈ slotsOf o := fun _ hi => List.mem_flatMap.2 ⟨x, hx, hi⟩
theorem Y0 {x : Operand} {T : Ty} (hx : OpT Γ x T) : R2 X Γ H ⟨dst, .move x, ty, pos, af, gd⟩ T :=
 V4 fun _ w hs => ⟨_, w, rfl, Below.refl _ _, hx.ev hs (Y1 (by simp [Op.operands]))⟩
theorem Y2 {x : Operand} {T : Ty} (hx : OpT Γ x T) : R2 X Γ H ⟨dst, .assign x, ty, pos, af, gd⟩ T :=
 V4 fun _ w hs => ⟨_, w, rfl, Below.refl _ _, hx.ev hs (Y1 (by simp [Op.operands]))⟩
theorem ot_pick {c x y : Operand} {b : Bool} {T : Ty} (hc : OpT Γ c (tIs (.bool b))) (hx : b = true → OpT Γ x T) (hy : b = false → OpT Γ y T) : R2 X Γ H ⟨dst, .pick c x y, ty, pos, af, gd⟩ T :=
 V4 fun a w hs => by
  have h1 : a.eval c = .bool b := hc.ev hs (Y1 (by simp [Op.operands]))
  refine ⟨if b then a.eval x else a.eval y, w, by simp [execOp, h1, asBool], Below.refl _ _, ?_⟩
  cases b with
  | true => exact (hx rfl).ev hs (Y1 (by simp [Op.operands]))
  | false => exact (hy rfl).ev hs (Y1 (by simp [Op.operands]))
theorem ot_bin {op : BinOp} {t yt : TypeId} {x y : Operand} {u v r : Value} (hx : OpT Γ x (tIs u)) (hy : OpT Γ y (tIs v))
  (hr : ∀ w, (do eqGuard op t x y u v; binOp op t u v : Sem Value).run X.P w = .ok r w) : R2 X Γ H ⟨dst, .binOp op t x y yt, ty, pos, af, gd⟩ (tIs r) :=
 V4 fun a w hs => by
  have h1 : a.eval x = u := hx.ev hs (Y1 (by simp [Op.operands]))
  have h2 : a.eval y = v := hy.ev hs (Y1 (by simp [Op.operands]))
  refine ⟨r, w, ?_, Below.refl _ _, rfl⟩
  have := hr w
  simp only [execOp, h1, h2, Sem.run_bind, this, Result.andThen_ok, Sem.run_pure]
section
variable {t yt : TypeId} {x y : Operand} {k : IntKind} {a b r : Int}
theorem Z6 (hx : OpT Γ x (tIs (.int k a))) (hy : OpT Γ y (tIs (.int k b))) (hw : k.wrap (a + b) = r) : R2 X Γ H ⟨dst, .binOp .add t x y yt, ty, pos, af, gd⟩ (tIs (.int k r)) :=
 ot_bin hx hy fun w => by subst hw; simp [eqGuard, binOp, Op.intArith]
theorem K4 (hx : OpT Γ x (tIs (.int k a))) (hy : OpT Γ y (tIs (.int k b))) (hw : k.wrap (a - b) = r) : R2 X Γ H ⟨dst, .binOp .sub t x y yt, ty, pos, af, gd⟩ (tIs (.int k r)) :=
 ot_bin hx hy fun w => by subst hw; simp [eqGuard, binOp, Op.intArith]
theorem ot_mul (hx : OpT Γ x (tIs (.int k a))) (hy : OpT Γ y (tIs (.int k b))) (hw : k.wrap (a * b) = r) : R2 X Γ H ⟨dst, .binOp .mul t x y yt, ty, pos, af, gd⟩ (tIs (.int k r)) :=
 ot_bin hx hy fun w => by subst hw; simp [eqGuard, binOp, Op.intArith]
theorem ot_quo (hx : OpT Γ x (tIs (.int k a))) (hy : OpT Γ y (tIs (.int k b))) (hb : b ≠ 0) (hw : k.wrap (a.tdiv b) = r) : R2 X Γ H ⟨dst, .binOp .quo t x y yt, ty, pos, af, gd⟩ (tIs (.int k r)) :=
 ot_bin hx hy fun w => by subst hw; simp [eqGuard, binOp, Op.intDiv, hb]
theorem ot_rem (hx : OpT Γ x (tIs (.int k a))) (hy : OpT Γ y (tIs (.int k b))) (hb : b ≠ 0) (hw : a.tmod b = r) : R2 X Γ H ⟨dst, .binOp .rem t x y yt, ty, pos, af, gd⟩ (tIs (.int k r)) :=
 ot_bin hx hy fun w => by subst hw; simp [eqGuard, binOp, Op.intDiv, hb]
theorem int_beq (a b : Int) : (a == b) = decide (a = b) := by
 by_cases h : a = b <;> simp [h]
theorem run_equal_bool {P : Program} {t : TypeId} (ht : P.underlying t = some .bool) (a b : Bool) (w : World) : (Op.equal t (.bool a) (.bool b)).run P w = .ok (a == b) w := by
 have h : ∀ d, (Op.equalIn (d + 1) t (.bool a) (.bool b)).run P w = .ok (a == b) w := fun d => by
  simp [Op.equalIn, run_underlying ht]
 exact h 9999
def bitsOf (op : BinOp) (k : IntKind) (a b : Int) : Int := match op with
 | .and => k.wrap (BitVec.ofInt k.bits a &&& BitVec.ofInt k.bits b).toNat
 | .or => k.wrap (BitVec.ofInt k.bits a ||| BitVec.ofInt k.bits b).toNat
 | .xor => k.wrap (BitVec.ofInt k.bits a ^^^ BitVec.ofInt k.bits b).toNat
 | _ => 0
theorem ot_and (hx : OpT Γ x (tIs (.int k a))) (hy : OpT Γ y (tIs (.int k b))) (hw : bitsOf .and k a b = r) : R2 X Γ H ⟨dst, .binOp .and t x y yt, ty, pos, af, gd⟩ (tIs (.int k r)) :=
 ot_bin hx hy fun w => by subst hw; simp [eqGuard, binOp, Op.intBits, bitsOf]
theorem ot_or (hx : OpT Γ x (tIs (.int k a))) (hy : OpT Γ y (tIs (.int k b))) (hw : bitsOf .or k a b = r) : R2 X Γ H ⟨dst, .binOp .or t x y yt, ty, pos, af, gd⟩ (tIs (.int k r)) :=
 ot_bin hx hy fun w => by subst hw; simp [eqGuard, binOp, Op.intBits, bitsOf]
theorem ot_xor (hx : OpT Γ x (tIs (.int k a))) (hy : OpT Γ y (tIs (.int k b))) (hw : bitsOf .xor k a b = r) : R2 X Γ H ⟨dst, .binOp .xor t x y yt, ty, pos, af, gd⟩ (tIs (.int k r)) :=
 ot_bin hx hy fun w => by subst hw; simp [eqGuard, binOp, Op.intBits, bitsOf]
theorem ot_shl {k2 : IntKind} (hx : OpT Γ x (tIs (.int k a))) (hy : OpT Γ y (tIs (.int k2 b))) (h0 : ¬ b < 0) (hw : k.wrap (a * 2 ^ (min b.toNat k.bits)) = r) : R2 X Γ H ⟨dst, .binOp .shl t x y yt, ty, pos, af, gd⟩ (tIs (.int k r)) :=
 ot_bin hx hy fun w => by subst hw; simp [eqGuard, binOp, Op.shift, h0]
theorem ot_shr {k2 : IntKind} (hx : OpT Γ x (tIs (.int k a))) (hy : OpT Γ y (tIs (.int k2 b))) (h0 : ¬ b < 0) (hw : a.fdiv (2 ^ (min b.toNat k.bits)) = r) : R2 X Γ H ⟨dst, .binOp .shr t x y yt, ty, pos, af, gd⟩ (tIs (.int k r)) :=
 ot_bin hx hy fun w => by subst hw; simp [eqGuard, binOp, Op.shift, h0]
theorem U5 (hx : OpT Γ x (tIs (.int k a))) (hy : OpT Γ y (tIs (.int k b))) : R2 X Γ H ⟨dst, .binOp .eql t x y yt, ty, pos, af, gd⟩ (tIs (.bool (decide (a = b)))) :=
 ot_bin hx hy fun w => by simp [eqGuard, binOp, Op.intCmp, int_beq]
theorem ot_neq (hx : OpT Γ x (tIs (.int k a))) (hy : OpT Γ y (tIs (.int k b))) : R2 X Γ H ⟨dst, .binOp .neq t x y yt, ty, pos, af, gd⟩ (tIs (.bool (!decide (a = b)))) :=
 ot_bin hx hy fun w => by simp [eqGuard, binOp, Op.intCmp, bne, int_beq]
theorem Y6 (hx : OpT Γ x (tIs (.int k a))) (hy : OpT Γ y (tIs (.int k b))) : R2 X Γ H ⟨dst, .binOp .lss t x y yt, ty, pos, af, gd⟩ (tIs (.bool (decide (a < b)))) :=
 ot_bin hx hy fun w => by simp [eqGuard, binOp, Op.intCmp]
theorem ot_leq (hx : OpT Γ x (tIs (.int k a))) (hy : OpT Γ y (tIs (.int k b))) : R2 X Γ H ⟨dst, .binOp .leq t x y yt, ty, pos, af, gd⟩ (tIs (.bool (decide (a ≤ b)))) :=
 ot_bin hx hy fun w => by simp [eqGuard, binOp, Op.intCmp]
theorem ot_gtr (hx : OpT Γ x (tIs (.int k a))) (hy : OpT Γ y (tIs (.int k b))) : R2 X Γ H ⟨dst, .binOp .gtr t x y yt, ty, pos, af, gd⟩ (tIs (.bool (decide (b < a)))) :=
 ot_bin hx hy fun w => by simp [eqGuard, binOp, Op.intCmp]
theorem ot_geq (hx : OpT Γ x (tIs (.int k a))) (hy : OpT Γ y (tIs (.int k b))) : R2 X Γ H ⟨dst, .binOp .geq t x y yt, ty, pos, af, gd⟩ (tIs (.bool (decide (b ≤ a)))) :=
 ot_bin hx hy fun w => by simp [eqGuard, binOp, Op.intCmp]
theorem ot_neg (hx : OpT Γ x (tIs (.int k a))) (hw : k.wrap (0 - a) = r) : R2 X Γ H ⟨dst, .unOp .neg t x, ty, pos, af, gd⟩ (tIs (.int k r)) :=
 V4 fun s w hs => by
  have h1 : s.eval x = .int k a := hx.ev hs (Y1 (by simp [Op.operands]))
  subst hw
  exact ⟨_, w, by simp [execOp, h1, Op.unary, Op.intArith], Below.refl _ _, rfl⟩
theorem K7 {src d : TypeId} {k2 : IntKind} (hx : OpT Γ x (tIs (.int k a))) (hd : X.P.underlying d = some (.int k2)) (hs' : (X.P.underlying src).isSome = true) (hw : k2.wrap a = r) : R2 X Γ H ⟨dst, .convert src d x, ty, pos, af, gd⟩ (tIs (.int k2 r)) :=
 V4 fun s w hs => by
  have h1 : s.eval x = .int k a := hx.ev hs (Y1 (by simp [Op.operands]))
  subst hw
  obtain ⟨ds, hds⟩ := Option.isSome_iff_exists.1 hs'
  refine ⟨.int k2 (k2.wrap a), w, ?_, Below.refl _ _, rfl⟩
  simp only [execOp, h1, convert, Sem.run_bind, run_underlying hds, run_underlying hd, Result.andThen_ok]
  cases ds <;> simp [Conv.intToInt]
end
section
variable {t yt : TypeId} {x y : Operand} {a b : Bool}
theorem ot_not (hx : OpT Γ x (tIs (.bool a))) : R2 X Γ H ⟨dst, .unOp .not t x, ty, pos, af, gd⟩ (tIs (.bool (!a))) :=
 V4 fun s w hs => by
  have h1 : s.eval x = .bool a := hx.ev hs (Y1 (by simp [Op.operands]))
  exact ⟨_, w, by simp [execOp, h1, Op.unary], Below.refl _ _, rfl⟩
theorem ot_eqlb (hx : OpT Γ x (tIs (.bool a))) (hy : OpT Γ y (tIs (.bool b))) (ht : X.P.underlying t = some .bool) : R2 X Γ H ⟨dst, .binOp .eql t x y yt, ty, pos, af, gd⟩ (tIs (.bool (a == b))) :=
 ot_bin hx hy fun w => by simp [eqGuard, binOp, run_equal_bool ht]
theorem ot_neqb (hx : OpT Γ x (tIs (.bool a))) (hy : OpT Γ y (tIs (.bool b))) (ht : X.P.underlying t = some .bool) : R2 X Γ H ⟨dst, .binOp .neq t x y yt, ty, pos, af, gd⟩ (tIs (.bool (!(a == b)))) :=
 ot_bin hx hy fun w => by simp [eqGuard, binOp, run_equal_bool ht]
end
def tPtr (R : CTy) : Ty := ⟨fun v s => ∃ b o cs, v = .pointer (some ⟨b, o, none⟩) ∧ R.p cs s ∧ ∀ j u, cs[j]? = some u → s.cell b (o + j) u,
 fun hl ⟨b, o, cs, h1, h2, h3⟩ => ⟨b, o, cs, h1, R.up hl h2, fun j u hu => (h3 j u hu).up hl⟩⟩
abbrev X7 (b o : Nat) : Ty := tIs (.pointer (some ⟨b, o, none⟩))
theorem hpOk.cell {X : Cx} {H : Hp} {w : World} (h : hpOk X H w) {e : HEnt} (he : e ∈ H) : ∃ cs, e.R.p cs ⟨w, mask X.M0 H⟩ ∧ (∀ j u, cs[j]? = some u → w.cell? ⟨e.b, j, none⟩ = some u) := by
 obtain ⟨_, cs, hc, hr⟩ := h.1 e he
 exact ⟨cs.toList, hr, fun j u hu => by simp [World.cell?, hc]; simpa using hu⟩
theorem ol {t : TypeId} {x : Operand} {b o tt : Nat} {R : CTy} {T : Ty} (hx : OpT Γ x (X7 b o)) (he : (⟨b, tt, R⟩ : HEnt) ∈ H) (hsc : scalB X.P t = true)
  (hR : ∀ cs s, R.p cs s → ∃ v, cs[o]? = some v ∧ T.p v s) : R2 X Γ H ⟨dst, .load t x, ty, pos, af, gd⟩ T :=
 V4 fun a w hs => by
  have h1 : a.eval x = .pointer (some ⟨b, o, none⟩) := hx.ev hs (Y1 (by simp [Op.operands]))
  obtain ⟨cs, hr, hc⟩ := hs.hp.cell he
  obtain ⟨v, hv, hT⟩ := hR _ _ hr
  refine ⟨v, w, ?_, Below.refl _ _, hT⟩
  simp [execOp, h1, Instr.loadAt, Instr.sureAddr, run_loadVar_scal hsc (hc _ _ hv)]
theorem oa {t n : Nat} {x : Operand} {b o tt : Nat} {R : CTy} {T : Ty} (hx : OpT Γ x (X7 b o)) (he : (⟨b, tt, R⟩ : HEnt) ∈ H) (hag : aggB X.P t = some n)
  (hR : ∀ cs s, R.p cs s → o + n ≤ cs.length ∧ T.p (.agg ((cs.drop o).take n).toArray) s) : R2 X Γ H ⟨dst, .load t x, ty, pos, af, gd⟩ T :=
 V4 fun a w hs => by
  have h1 : a.eval x = .pointer (some ⟨b, o, none⟩) := hx.ev hs (Y1 (by simp [Op.operands]))
  obtain ⟨cs, hr, hc⟩ := hs.hp.cell he
  obtain ⟨hl, hT⟩ := hR _ _ hr
  refine ⟨_, w, ?_, Below.refl _ _, hT⟩
  have := run_loadVar_agg hag (w := w) (b := b) (o := o) (cs := (cs.drop o).take n) (by simp; omega) (fun j u hu => by
   refine hc (o + j) u ?_
   rw [List.getElem?_take] at hu
   split at hu
   ·rw [List.getElem?_drop] at hu; exact hu
   ·cases hu)
  simp [execOp, h1, Instr.loadAt, Instr.sureAddr, this]
theorem ld {t : TypeId} {x : Operand} {R : CTy} {T : Ty} (hx : OpT Γ x (tPtr R)) (hsc : scalB X.P t = true)
  (hR : ∀ cs s, R.p cs s → ∃ v, cs[0]? = some v ∧ T.p v s) : R2 X Γ H ⟨dst, .load t x, ty, pos, af, gd⟩ T :=
 V4 fun a w hs => by
  obtain ⟨b, o, cs, h1, hr, hc⟩ := hx.ev hs (Y1 (by simp [Op.operands]))
  obtain ⟨v, hv, hT⟩ := hR _ _ hr
  refine ⟨v, w, ?_, Below.refl _ _, hT⟩
  have hc0 : w.cell? ⟨b, o, none⟩ = some v := (hc _ _ hv).1
  simp [execOp, h1, Instr.loadAt, Instr.sureAddr, run_loadVar_scal hsc hc0]
theorem lda {t n : Nat} {x : Operand} {R : CTy} {T : Ty} (hx : OpT Γ x (tPtr R)) (hag : aggB X.P t = some n)
  (hR : ∀ cs s, R.p cs s → n ≤ cs.length ∧ T.p (.agg (cs.take n).toArray) s) : R2 X Γ H ⟨dst, .load t x, ty, pos, af, gd⟩ T :=
 V4 fun a w hs => by
  obtain ⟨b, o, cs, h1, hr, hc⟩ := hx.ev hs (Y1 (by simp [Op.operands]))
  obtain ⟨hl, hT⟩ := hR _ _ hr
  refine ⟨_, w, ?_, Below.refl _ _, hT⟩
  have := run_loadVar_agg hag (w := w) (b := b) (o := o) (cs := cs.take n) (by simp; omega) (fun j u hu => by
   refine (hc j u ?_).1
   rw [List.getElem?_take] at hu
   split at hu
   ·exact hu
   ·cases hu)
  simp [execOp, h1, Instr.loadAt, Instr.sureAddr, this]
theorem fdB_spec {P : Program} {t f off ft : Nat} (h : fdB P t f = some (off, ft)) : ∃ fs x n, P.underlying t = some (.struct fs) ∧ fs[f]? = some x ∧ x.offset = off ∧ x.type = ft ∧ szB P ft = some n ∧ n ≠ 0 := by
 unfold fdB at h
 cases hu : P.underlying t with
 | none => rw [hu] at h; cases h
 | some d =>
  rw [hu] at h
  cases d <;> first | cases h | skip
  rename_i fs
  dsimp only at h
  cases hf : fs[f]? with
  | none => rw [hf] at h; cases h
  | some x =>
   rw [hf] at h
   dsimp only at h
   split at h
   ·rename_i hz
    simp only [Option.some.injEq, Prod.mk.injEq] at h
    obtain ⟨rfl, rfl⟩ := h
    obtain ⟨i, hi, hn⟩ := Option.any_eq_true .. |>.1 hz
    exact ⟨fs, x, i.size, rfl, hf, rfl, rfl, by simp [szB, hi], by simpa using hn⟩
   ·cases h
theorem ofa {t f off ft b o : Nat} {x : Operand} (hx : OpT Γ x (X7 b o)) (hf : fdB X.P t f = some (off, ft)) : R2 X Γ H ⟨dst, .fieldAddr t x f, ty, pos, af, gd⟩ (X7 b (o + off)) :=
 V4 fun a w hs => by
  have h1 : a.eval x = .pointer (some ⟨b, o, none⟩) := hx.ev hs (Y1 (by simp [Op.operands]))
  obtain ⟨fs, x', n, hu, hx', rfl, rfl, hsz, hn⟩ := fdB_spec hf
  refine ⟨_, w, ?_, Below.refl _ _, rfl⟩
  simp [execOp, h1, Instr.fieldAt, Instr.sureAddr, run_underlying hu, hx', fieldPlace, run_sizeOf_sz hsz, hn, add_at]
theorem ofp {t f off ft : Nat} {x : Operand} {R R' : CTy} (hx : OpT Γ x (tPtr R)) (hf : fdB X.P t f = some (off, ft)) (hR : ∀ cs s, R.p cs s → R'.p (cs.drop off) s) : R2 X Γ H ⟨dst, .fieldAddr t x f, ty, pos, af, gd⟩ (tPtr R') :=
 V4 fun a w hs => by
  obtain ⟨b, o, cs, h1, hr, hc⟩ := hx.ev hs (Y1 (by simp [Op.operands]))
  obtain ⟨fs, x', n, hu, hx', rfl, rfl, hsz, hn⟩ := fdB_spec hf
  refine ⟨.pointer (some ⟨b, o + x'.offset, none⟩), w, ?_, Below.refl _ _, b, o + x'.offset, cs.drop x'.offset, rfl, hR _ _ hr, fun j u hu => ?_⟩
  ·simp [execOp, h1, Instr.fieldAt, Instr.sureAddr, run_underlying hu, hx', fieldPlace, run_sizeOf_sz hsz, hn, add_at]
  ·rw [List.getElem?_drop] at hu
   have := hc _ _ hu
   rwa [← Nat.add_assoc] at this
theorem ot_field_scal {t f off ft : Nat} {x : Operand} {R : CTy} {T : Ty} (hx : OpT Γ x ⟨fun v s => ∃ cs : List Value, v = .agg cs.toArray ∧ R.p cs s, fun hl ⟨cs, h, hr⟩ => ⟨cs, h, R.up hl hr⟩⟩) (hf : fdB X.P t f = some (off, ft)) (hsc : scalB X.P ft = true)
  (hR : ∀ cs s, R.p cs s → ∃ v, cs[off]? = some v ∧ T.p v s) : R2 X Γ H ⟨dst, .field t x f, ty, pos, af, gd⟩ T :=
 V4 fun a w hs => by
  obtain ⟨cs, h1, hr⟩ := hx.ev hs (Y1 (by simp [Op.operands]))
  obtain ⟨fs, x', n, hu, hx', rfl, rfl, hsz, hn⟩ := fdB_spec hf
  obtain ⟨v, hv, hT⟩ := hR _ _ hr
  exact ⟨v, w, by simp [execOp, h1, Instr.field, run_underlying hu, hx', asAgg, part, run_isAgg_scal hsc, hv], Below.refl _ _, hT⟩
def slP {α : Type} (E : Enc α) (xs : List α) (v : Value) (s : St) : Prop :=
 ∃ A n c, v = .slice A n c ∧ n = xs.length ∧ n ≤ c ∧ (xs ≠ [] → ∃ b o, A = some ⟨b, o, none⟩ ∧ ∀ i x, xs[i]? = some x → ∃ cs, E.C x cs s ∧ ∀ j u, cs[j]? = some u → s.cell b (o + i * E.sz + j) u)
theorem slP.up {α : Type} {E : Enc α} {xs : List α} {v : Value} {s s' : St} (hl : Le s s') : slP E xs v s → slP E xs v s' := by
 rintro ⟨A, n, c, h1, h2, h3, h4⟩
 refine ⟨A, n, c, h1, h2, h3, fun h => ?_⟩
 obtain ⟨b, o, h5, h6⟩ := h4 h
 exact ⟨b, o, h5, fun i x hx => let ⟨cs, h7, h8⟩ := h6 i x hx; ⟨cs, E.up hl h7, fun j u hu => (h8 j u hu).up hl⟩⟩
def tSl {α : Type} (E : Enc α) (xs : List α) : Ty := ⟨slP E xs, slP.up⟩
theorem Q9 {α : Type} (E : Enc α) (s : St) : slP E [] (.slice none 0 0) s := ⟨none, 0, 0, rfl, rfl, Nat.le_refl _, fun h => absurd rfl h⟩
theorem OpT.nil {α : Type} {E : Enc α} : OpT Γ (.const (.slice none 0 0)) (tSl E []) := .const fun s => Q9 E s
abbrev sIs (b o n c : Nat) : Ty := tIs (.slice (some ⟨b, o, none⟩) n c)
theorem Y8 {α : Type} {E : Enc α} {xs : List α} {t e sz by_ : Nat} {x : Operand} {ats : Array TypeId} (hx : OpT Γ x (tSl E xs)) (ht : slB X.P t = some (e, sz, by_)) (ha : ats = #[t]) :
  R2 X Γ H ⟨dst, .call { callee := .builtin .len, args := #[x], argTypes := ats }, ty, pos, af, gd⟩ (tIs (.int .i64 xs.length)) :=
 V4 fun a w hs => by
  obtain ⟨A, n, c, h1, rfl, _⟩ := hx.ev hs (Y1 (by simp [Op.operands, Call.operands]))
  obtain ⟨hu, _⟩ := slB_spec ht
  subst ha
  exact ⟨_, w, by simp [execOp, resolve, invoke, builtin, Builtin.len_, h1, run_underlying hu, goInt], Below.refl _ _, rfl⟩
theorem T8 {A : Option Addr} {n c t e sz by_ : Nat} {x : Operand} {ats : Array TypeId} (hx : OpT Γ x (tIs (.slice A n c))) (ht : slB X.P t = some (e, sz, by_)) (ha : ats = #[t]) :
  R2 X Γ H ⟨dst, .call { callee := .builtin .len, args := #[x], argTypes := ats }, ty, pos, af, gd⟩ (tIs (.int .i64 n)) :=
 V4 fun a w hs => by
  have h1 : a.eval x = .slice A n c := hx.ev hs (Y1 (by simp [Op.operands, Call.operands]))
  obtain ⟨hu, _⟩ := slB_spec ht
  subst ha
  exact ⟨_, w, by simp [execOp, resolve, invoke, builtin, Builtin.len_, h1, run_underlying hu, goInt], Below.refl _ _, rfl⟩
theorem ixo {α : Type} {E : Enc α} {xs : List α} {t e by_ : Nat} {x y : Operand} {k : IntKind} {n : Int} {z : α} (hx : OpT Γ x (tSl E xs)) (hy : OpT Γ y (tIs (.int k n))) (ht : slB X.P t = some (e, E.sz, by_))
  (h0 : 0 ≤ n) (hz : xs[n.toNat]? = some z) : R2 X Γ H ⟨dst, .indexAddr t x y, ty, pos, af, gd⟩ (tPtr (cEnc E z)) :=
 V4 fun a w hs => by
  obtain ⟨A, m, c, h1, rfl, _, hh⟩ := hx.ev hs (Y1 (by simp [Op.operands]))
  have h2 : a.eval y = .int k n := hy.ev hs (Y1 (by simp [Op.operands]))
  obtain ⟨hu, i, hi, hsz, _⟩ := slB_spec ht
  have hlt : n.toNat < xs.length := (List.getElem?_eq_some_iff.1 hz).1
  obtain ⟨b, o, rfl, hc⟩ := hh (by intro h; simp [h] at hlt)
  obtain ⟨cs, hC, hcell⟩ := hc _ _ hz
  refine ⟨.pointer (some ⟨b, o + n.toNat * E.sz, none⟩), w, ?_, Below.refl _ _, b, _, cs, rfl, hC, hcell⟩
  have hn : n < xs.length := by omega
  simp [execOp, h1, h2, Instr.indexAt, asIntOf, run_underlying hu, h0, hn, sizeOf, typeInfo, hi, hsz, add_at]
theorem oix {b o m c t e sz by_ : Nat} {x y : Operand} {k : IntKind} {n : Int} (hx : OpT Γ x (sIs b o m c)) (hy : OpT Γ y (tIs (.int k n))) (ht : slB X.P t = some (e, sz, by_))
  (h0 : 0 ≤ n) (hn : n < m) : R2 X Γ H ⟨dst, .indexAddr t x y, ty, pos, af, gd⟩ (X7 b (o + n.toNat * sz)) :=
 V4 fun a w hs => by
  have h1 : a.eval x = .slice (some ⟨b, o, none⟩) m c := hx.ev hs (Y1 (by simp [Op.operands]))
  have h2 : a.eval y = .int k n := hy.ev hs (Y1 (by simp [Op.operands]))
  obtain ⟨hu, i, hi, hsz, _⟩ := slB_spec ht
  refine ⟨_, w, ?_, Below.refl _ _, rfl⟩
  simp [execOp, h1, h2, Instr.indexAt, asIntOf, run_underlying hu, h0, hn, sizeOf, typeInfo, hi, hsz, add_at]
theorem ot_slice {α : Type} {E : Enc α} {xs : List α} {t e by_ : Nat} {x : Operand} {lo hi : Option Operand} {l h : Nat} {kl kh : IntKind} (hx : OpT Γ x (tSl E xs)) (ht : slB X.P t = some (e, E.sz, by_))
  (hlo : match lo with | some y => OpT Γ y (tIs (.int kl l)) | none => l = 0) (hhi : match hi with | some y => OpT Γ y (tIs (.int kh h)) | none => h = xs.length) (h1 : l ≤ h) (h2 : h ≤ xs.length) :
  R2 X Γ H ⟨dst, .slice t x lo hi none, ty, pos, af, gd⟩ (tSl E ((xs.drop l).take (h - l))) :=
 V4 fun a w hs => by
  obtain ⟨A, m, c, he, rfl, hc, hh⟩ := hx.ev hs (Y1 (by simp [Op.operands]))
  obtain ⟨hu, i, hi', hsz, _⟩ := slB_spec ht
  have hel : lo.map a.eval = if lo.isSome then some (.int kl l) else none := by
   cases lo with
   | none => rfl
   | some y => exact congrArg some (hlo.ev hs (Y1 (by simp [Op.operands])))
  have heh : hi.map a.eval = if hi.isSome then some (.int kh h) else none := by
   cases hi with
   | none => rfl
   | some y => exact congrArg some (hhi.ev hs (Y1 (by simp [Op.operands])))
  refine ⟨.slice (if c = l then A else A.map (·.add (l * E.sz))) (h - l) (c - l), w, ?_, Below.refl _ _, ?_⟩
  ·have g2 : h ≤ c := by omega
   simp only [execOp, Instr.sliceAt, Sem.run_bind, run_underlying hu, Result.andThen_ok, Instr.slice, he, hel, heh]
   cases lo with
   | none =>
    cases hi with
    | none => dsimp only at hlo hhi; subst hlo hhi; simp [Instr.sliceBounds, sizeOf, typeInfo, hi', hsz]
    | some y => dsimp only at hlo; subst hlo; simp [Instr.sliceBounds, Instr.sliceBound, asIntOf, g2, sizeOf, typeInfo, hi', hsz]
   | some z =>
    cases hi with
    | none => dsimp only at hhi; subst hhi; simp [Instr.sliceBounds, Instr.sliceBound, asIntOf, h1, sizeOf, typeInfo, hi', hsz]
    | some y => simp [Instr.sliceBounds, Instr.sliceBound, asIntOf, h1, g2, sizeOf, typeInfo, hi', hsz]
  ·refine ⟨_, _, _, rfl, by simp; omega, by omega, fun hne => ?_⟩
   have hlt : l < h := by
    rcases Nat.lt_or_ge l h with q | q
    ·exact q
    ·exact absurd (by rw [show h - l = 0 by omega]; simp) hne
   obtain ⟨b, o, rfl, hcell⟩ := hh (by intro q; simp [q] at h2; omega)
   refine ⟨b, o + l * E.sz, by rw [if_neg (by omega)]; simp [add_at], fun i' z hz => ?_⟩
   rw [List.getElem?_take] at hz
   split at hz
   ·rw [List.getElem?_drop] at hz
    obtain ⟨cs, hC, hcs⟩ := hcell _ _ hz
    refine ⟨cs, hC, fun j u hu => ?_⟩
    have := hcs j u hu
    rw [Nat.add_mul, ← Nat.add_assoc o] at this
    exact this
   ·cases hz
def vsP : List Ty → List Value → St → Prop
 | [], [], _ => True
 | T :: Ts, v :: vs, s => T.p v s ∧ vsP Ts vs s
 | _, _, _ => False
def Ctr (P : Program) (f : FuncId) (Ts : List Ty) (T : Ty) : Prop :=
 ∀ (w0 : World) (M0 : Nat → Prop), (∀ k, M0 k → k < w0.heap.size) → ∀ vs, vsP Ts vs ⟨w0, M0⟩ →
  Calls P f vs.toArray w0 fun e w' => ∃ v, e = .returned v ∧ Below w0.heap.size w0 w' ∧ T.p v ⟨w', M0⟩
inductive OpTs (Γ : Gam) : List Operand → List Ty → Prop
 | nil : OpTs Γ [] []
 | cons {x : Operand} {T : Ty} {xs : List Operand} {Ts : List Ty} (h : OpT Γ x T) (hs : OpTs Γ xs Ts) : OpTs Γ (x :: xs) (T :: Ts)
theorem OpTs.ev {xs : List Operand} {Ts : List Ty} (h : OpTs Γ xs Ts) {L : List Nat} {a : Act} {w : World} (hs : SatOn X L Γ H a w) (hL : ∀ x ∈ xs, ∀ i ∈ T7 x, i ∈ L) : vsP Ts (xs.map a.eval) ⟨w, mask X.M0 H⟩ := by
 induction h with
 | nil => exact trivial
 | cons h _ ih => exact ⟨h.ev hs (hL _ (by simp)), ih fun x hx => hL x (by simp [hx])⟩
theorem mask_lt {L : List Nat} {a : Act} {w : World} (hs : SatOn X L Γ H a w) : ∀ k, mask X.M0 H k → k < w.heap.size := by
 rintro k (hk | ⟨e, he, rfl⟩)
 ·exact Nat.lt_of_lt_of_le (hs.m0 k hk).1 hs.below.size
 ·exact hs.hp.lt he
theorem run_callFunc {P : Program} {f : FuncId} (hf : fnB P f = true) (args : Array Value) (w : World) : (callFunc f args).run P w = .ok (.enter f args) w := by
 unfold fnB at hf
 cases hp : P.funcs[f]? with
 | none => rw [hp] at hf; cases hf
 | some fn =>
  rw [hp] at hf
  simp only [Bool.and_eq_true, Bool.not_eq_true'] at hf
  have h2 : fn.body.isNone = false := by cases hb : fn.body <;> simp_all
  simp only [callFunc, Sem.run_bind, run_program, Result.andThen_ok, hp, hf.1, h2, Bool.false_eq_true, if_false, Sem.run_pure]
theorem oc {f : FuncId} {xs : List Operand} {Ts : List Ty} {T : Ty} {ats : Array TypeId} (hf : fnB X.P f = true) (hc : Ctr X.P f Ts T) (hx : OpTs Γ xs Ts) :
  R2 X Γ H ⟨dst, .call { callee := .value (.func f), args := xs.toArray, argTypes := ats }, ty, pos, af, gd⟩ T := by
 intro a w hs
 have hv := hx.ev hs (fun x hx => Y1 (by simp [Op.operands, Call.operands, hx]))
 have h := hc w _ (mask_lt hs) _ hv
 unfold Oper.wp
 have hr : (execOp a.eval ⟨dst, .call { callee := .value (.func f), args := xs.toArray, argTypes := ats }, ty, pos, af, gd⟩).run X.P w = .ok (.enter f (xs.map a.eval).toArray) w := by
  rw [execOp_call_go]
  have := run_callFunc hf (xs.map a.eval).toArray w
  simpa using this
 rw [hr]
 refine Calls.mono h ?_
 rintro e w' ⟨v, rfl, hb, hT⟩
 exact ⟨v, rfl, hb, hT⟩
end Go.Rt
namespace Go.Rt
open Go Go.RowKit
variable {X : Cx} {ops : Array Oper} {Q : Exit → Act → World → Prop} {rest : List Oper} {Γ : Gam} {H : Hp}
variable {ty : TypeId} {pos : String} {af : Array Edge} {gd : Option (Nat × Bool)}
theorem wanted_of {o : Oper} {g : Nat} {b : Bool} (hg : o.guard = some (g, b)) {f : Nat → Option Bool} {c : Bool} (hf : f g = some c) : Region.wanted o f = (c == b) := by
 simp only [Region.wanted, hg, hf]
 cases c <;> cases b <;> rfl
theorem J.opg {o : Oper} {d g t : Nat} {b c : Bool} {T : Ty} (hg : o.guard = some (g, b)) (hs : (ops[g]?).bind (·.dst) = some t) (ht : look Γ t = some (tIs (.bool c))) (htN : t < X.N) (h : c = b → R2 X Γ H o T) (hd : o.dst = some d) (hN : d < X.N)
  (next : J X ops Q rest ((d, tIf (c = b) T) :: Γ) H) : J X ops Q (o :: rest) Γ H := by
 intro a w hsat
 have hv : a.tmps.getD t undef = .bool c := hsat.slots t _ ht
 have hy : yielded ops a.tmps g = some c := by
  have hlt : t < a.tmps.size := by rw [hsat.size]; exact htN
  simp only [Array.getD_eq_getD_getElem?, Array.getElem?_eq_getElem hlt, Option.getD_some] at hv
  simp [yielded, hs, Array.getElem?_eq_getElem hlt, hv]
 unfold wpN
 rw [wanted_of hg hy]
 by_cases hcb : c = b
 ·rw [if_pos (by simp [hcb])]
  refine wp_mono_false ?_ (h hcb a w (hsat.on _))
  rintro a' w' ⟨v, rfl, hb, hv'⟩
  rw [hd]
  exact next _ _ ((hsat.ext hb).put hN ⟨fun _ => hv', fun h => absurd hcb h⟩)
 ·rw [if_neg (by simp [hcb]), hd]
  exact next _ _ (hsat.put hN ⟨fun h => absurd h hcb, fun _ => rfl⟩)
theorem J.opgg {o : Oper} {d g t : Nat} {b c : Bool} {c0 : Prop} {T : Ty} (hg : o.guard = some (g, b)) (hs : (ops[g]?).bind (·.dst) = some t) (ht : look Γ t = some (tIf c0 (tIs (.bool c)))) (htN : t < X.N) (h : c0 ∧ c = b → R2 X Γ H o T) (hd : o.dst = some d) (hN : d < X.N)
  (next : J X ops Q rest ((d, tIf (c0 ∧ c = b) T) :: Γ) H) : J X ops Q (o :: rest) Γ H := by
 intro a w hsat
 have hv0 := hsat.slots t _ ht
 have hlt : t < a.tmps.size := by rw [hsat.size]; exact htN
 by_cases h0 : c0
 ·have hv : a.tmps.getD t undef = .bool c := hv0.1 h0
  have hy : yielded ops a.tmps g = some c := by
   simp only [Array.getD_eq_getD_getElem?, Array.getElem?_eq_getElem hlt, Option.getD_some] at hv
   simp [yielded, hs, Array.getElem?_eq_getElem hlt, hv]
  unfold wpN
  rw [wanted_of hg hy]
  by_cases hcb : c = b
  ·rw [if_pos (by simp [hcb])]
   refine wp_mono_false ?_ (h ⟨h0, hcb⟩ a w (hsat.on _))
   rintro a' w' ⟨v, rfl, hb, hv'⟩
   rw [hd]
   exact next _ _ ((hsat.ext hb).put hN ⟨fun _ => hv', fun h => absurd ⟨h0, hcb⟩ h⟩)
  ·rw [if_neg (by simp [hcb]), hd]
   exact next _ _ (hsat.put hN ⟨fun h => absurd h.2 hcb, fun _ => rfl⟩)
 ·have hv : a.tmps.getD t undef = undef := hv0.2 h0
  have hy : yielded ops a.tmps g = none := by
   simp only [Array.getD_eq_getD_getElem?, Array.getElem?_eq_getElem hlt, Option.getD_some] at hv
   simp [yielded, hs, Array.getElem?_eq_getElem hlt, hv, undef]
  unfold wpN
  have hw : Region.wanted o (yielded ops a.tmps) = false := by simp only [Region.wanted, hg, hy]; rfl
  rw [hw, if_neg (by simp), hd]
  exact next _ _ (hsat.put hN ⟨fun h => absurd h.1 h0, fun _ => rfl⟩)
theorem Sat.alloc {a : Act} {w : World} (h : Sat X Γ H a w) {cs : List Value} {t : TypeId} {R : CTy} (hR : R.p cs ⟨w, mask X.M0 H⟩) :
  Sat X Γ (⟨w.heap.size, t, R⟩ :: H) a (w.alloc (.cells cs.toArray t)) := by
 have hl : Le ⟨w, mask X.M0 H⟩ ⟨w.alloc (.cells cs.toArray t), mask X.M0 (⟨w.heap.size, t, R⟩ :: H)⟩ :=
  ⟨by simp, fun k hk _ => Below.heap_alloc w _ k hk, fun k hk hm => by
   rcases hm with hm | ⟨e, he, rfl⟩
   ·exact .inl hm
   ·cases he with
    | head => exact absurd hk (Nat.lt_irrefl _)
    | tail _ he => exact .inr ⟨e, he, rfl⟩⟩
 refine ⟨h.size, h.defers, h.m0, h.below.ext ((Below.refl _ w).alloc (Nat.le_refl _) _), fun i T hi => T.up hl (h.slots i T hi), fun e he => ?_, ?_⟩
 ·cases he with
  | head => exact ⟨.inl h.below.size, cs.toArray, heap_alloc_new w _, R.up hl (by simpa using hR)⟩
  | tail _ he =>
   obtain ⟨h1, cs', hc, hr⟩ := h.hp.1 e he
   exact ⟨h1, cs', (Below.heap_alloc w _ _ (h.hp.lt he)).trans hc, e.R.up hl hr⟩
 ·refine List.Pairwise.cons (fun b hb => ?_) h.hp.2
  obtain ⟨e, he, rfl⟩ := List.mem_map.1 hb
  exact fun q => absurd (h.hp.lt he) (by have q' : w.heap.size = e.b := q; omega)
theorem J.box {d : Nat} {t : TypeId} {x : Operand} {T : Ty} {R : CTy} (hx : OpT Γ x T) (hR : ∀ v s, T.p v s → R.p v.cells.toList s) (hN : d < X.N)
  (next : ∀ b, J X ops Q rest ((d, X7 b 0) :: Γ) (⟨b, t, R⟩ :: H)) : J X ops Q (⟨some d, .box t x, ty, pos, af, none⟩ :: rest) Γ H := by
 intro a w hs
 unfold wpN
 rw [if_pos (V6 rfl _)]
 have hv := hx.ev (hs.on (T7 x)) (fun _ h => h)
 have ha := hs.alloc (t := t) (hR _ _ hv)
 have hr : (execOp a.eval ⟨some d, .box t x, ty, pos, af, none⟩).run X.P w = .ok (.value (.pointer (some ⟨w.heap.size, 0, none⟩))) (w.alloc (.cells (a.eval x).cells.toList.toArray t)) := by
  simp [execOp, Instr.box, newVar, newRow]
 unfold Oper.wp
 rw [hr]
 exact next _ _ _ (ha.put hN rfl)
theorem J.alloc {d : Nat} {t : TypeId} {z : Value} {R : CTy} (hz : zeroB X.P t = some z) (hR : ∀ s, R.p z.cells.toList s) (hN : d < X.N)
  (next : ∀ b, J X ops Q rest ((d, X7 b 0) :: Γ) (⟨b, t, R⟩ :: H)) : J X ops Q (⟨some d, .alloc t, ty, pos, af, none⟩ :: rest) Γ H := by
 intro a w hs
 unfold wpN
 rw [if_pos (V6 rfl _)]
 have ha := hs.alloc (t := t) (hR ⟨w, mask X.M0 H⟩)
 unfold zeroB at hz
 obtain ⟨i, hi, hzi⟩ := Option.bind_eq_some_iff.1 hz
 have hr : (execOp a.eval ⟨some d, .alloc t, ty, pos, af, none⟩).run X.P w = .ok (.value (.pointer (some ⟨w.heap.size, 0, none⟩))) (w.alloc (.cells z.cells.toList.toArray t)) := by
  simp [execOp, Instr.alloc, newVar, newRow, zeroValue, typeInfo, hi, hzi]
 unfold Oper.wp
 rw [hr]
 exact next _ _ _ (ha.put hN rfl)
inductive HUpd (b : Nat) (t : TypeId) (R R' : CTy) : Hp → Hp → Prop
 | here {H : Hp} : HUpd b t R R' (⟨b, t, R⟩ :: H) (⟨b, t, R'⟩ :: H)
 | there {e : HEnt} {H H' : Hp} (h : HUpd b t R R' H H') : HUpd b t R R' (e :: H) (e :: H')
theorem HUpd.mem {b : Nat} {t : TypeId} {R R' : CTy} {H H' : Hp} (h : HUpd b t R R' H H') : (⟨b, t, R⟩ : HEnt) ∈ H := by
 induction h with
 | here => exact .head _
 | there _ ih => exact .tail _ ih
theorem HUpd.blocks {b : Nat} {t : TypeId} {R R' : CTy} {H H' : Hp} (h : HUpd b t R R' H H') : H'.map (·.b) = H.map (·.b) := by
 induction h with
 | here => rfl
 | there _ ih => simp [ih]
theorem HUpd.back {b : Nat} {t : TypeId} {R R' : CTy} {H H' : Hp} (h : HUpd b t R R' H H') (hp : (H.map (·.b)).Pairwise (· ≠ ·)) : ∀ e ∈ H', e = ⟨b, t, R'⟩ ∨ (e ∈ H ∧ e.b ≠ b) := by
 induction h with
 | here =>
  rename_i H0
  intro e he
  cases he with
  | head => exact .inl rfl
  | tail _ he =>
   refine .inr ⟨.tail _ he, ?_⟩
   have := List.rel_of_pairwise_cons hp (List.mem_map.2 ⟨e, he, rfl⟩)
   exact Ne.symm this
 | there h0 ih =>
  rename_i e0 H0 H1
  intro e he
  cases he with
  | head =>
   refine .inr ⟨.head _, ?_⟩
   have := List.rel_of_pairwise_cons hp (List.mem_map.2 ⟨_, h0.mem, rfl⟩)
   exact this
  | tail _ he =>
   rcases ih hp.of_cons e he with h | ⟨h, h'⟩
   ·exact .inl h
   ·exact .inr ⟨.tail _ h, h'⟩
theorem HUpd.mask {b : Nat} {t : TypeId} {R R' : CTy} {H H' : Hp} (h : HUpd b t R R' H H') (M0 : Nat → Prop) : mask M0 H' = mask M0 H := by
 funext k
 have e := h.blocks
 have q : (∃ e ∈ H', e.b = k) ↔ (∃ e ∈ H, e.b = k) := by
  have h1 : (∃ e ∈ H', e.b = k) ↔ k ∈ H'.map (·.b) := by simp
  have h2 : (∃ e ∈ H, e.b = k) ↔ k ∈ H.map (·.b) := by simp
  rw [h1, h2, e]
 simp only [Rt.mask, q]
structure Wrote (b : Nat) (t : TypeId) (cs : List Value) (w w' : World) : Prop where
 os : w'.os = w.os
 tape : w'.tape = w.tape
 output : w'.output = w.output
 size : w.heap.size ≤ w'.heap.size
 here : w'.heap[b]? = some (.cells cs.toArray t (0, 0))
 other : ∀ k, k < w.heap.size → k ≠ b → w'.heap[k]? = w.heap[k]?
theorem Sat.write {a : Act} {w w' : World} {b : Nat} {t : TypeId} {R R' : CTy} {H' : Hp} {cs : List Value} (h : Sat X Γ H a w) (hU : HUpd b t R R' H H') (hw : Wrote b t cs w w') (hR : R'.p cs ⟨w', Rt.mask X.M0 H⟩) : Sat X Γ H' a w' := by
 have hm := hU.mask X.M0
 have hbm : Rt.mask X.M0 H b := .inr ⟨_, hU.mem, rfl⟩
 have hl : Le ⟨w, Rt.mask X.M0 H⟩ ⟨w', Rt.mask X.M0 H'⟩ := ⟨hw.size, fun k hks hk => hw.other k hks (fun q => hk (q ▸ hbm)), fun k _ hk => by rw [hm] at hk; exact hk⟩
 obtain ⟨hb0, cs0, hc0, _⟩ := h.hp.1 _ hU.mem
 refine ⟨h.size, h.defers, h.m0, ?_, fun i T hi => T.up hl (h.slots i T hi), fun e he => ?_, by rw [hU.blocks]; exact h.hp.2⟩
 ·refine ⟨hw.os.trans h.below.os, hw.tape.trans h.below.tape, hw.output.trans h.below.output, Nat.le_trans h.below.size hw.size, fun k hk hkL => (hw.other k (Nat.lt_of_lt_of_le hk h.below.size) ?_).trans (h.below.block k hk hkL)⟩
  have hb0' : X.w0.heap.size ≤ b ∨ b ∈ X.L := hb0
  rcases hb0' with q | q
  ·omega
  ·exact fun e => hkL (e ▸ q)
 ·rcases hU.back h.hp.2 e he with rfl | ⟨he', hne⟩
  ·exact ⟨hb0, cs.toArray, hw.here, by rw [hm]; simpa using hR⟩
  ·obtain ⟨h1, cs', hc, hr⟩ := h.hp.1 e he'
   exact ⟨h1, cs', (hw.other _ (h.hp.lt he') hne).trans hc, e.R.up hl hr⟩
theorem wrote_setRow {w : World} {b : Nat} {t : TypeId} {cur : Array Value} {fr : Nat × Nat} (h : w.heap[b]? = some (.cells cur t fr)) (hfr : fr = (0, 0)) (cs : List Value) : Wrote b t cs w (w.setRow b cs.toArray) := by
 subst hfr
 exact ⟨rfl, rfl, rfl, by simp [World.setRow], setRow_heap w b cur _ t _ h, fun k _ hk => setRow_other w b k _ hk⟩
theorem J.store {t : TypeId} {x y : Operand} {b o tt n : Nat} {R R' : CTy} {T : Ty} {H' : Hp} (hx : OpT Γ x (X7 b o)) (hy : OpT Γ y T) (hU : HUpd b tt R R' H H') (hz : szB X.P t = some n)
  (hR : ∀ cs v s, R.p cs s → T.p v s → v.cells.size = n ∧ o + n ≤ cs.length ∧ (∀ u ∈ v.cells.toList, u.oneCell' = true) ∧ R'.p (cs.take o ++ v.cells.toList ++ cs.drop (o + n)) s)
  (next : J X ops Q rest Γ H') : J X ops Q (⟨none, .store t x y, ty, pos, af, none⟩ :: rest) Γ H := by
 intro a w hs
 unfold wpN
 rw [if_pos (V6 rfl _)]
 have h1 : a.eval x = .pointer (some ⟨b, o, none⟩) := hx.ev (hs.on (T7 x)) (fun _ h => h)
 have h2 := hy.ev (hs.on (T7 y)) (fun _ h => h)
 obtain ⟨_, cs, hc, hr⟩ := hs.hp.1 _ hU.mem
 obtain ⟨e1, e2, e3, e4⟩ := hR _ _ _ hr h2
 have hst := run_storeCells_at X.P b o tt (a.eval y).cells.toList 0 cs w hc (by simp at e2; simp [e1]; omega) e3
 simp only [Nat.add_zero] at hst
 have hlen : (a.eval y).cells.toList.length = n := by simpa using e1
 rw [hlen] at hst
 have hrun : (execOp a.eval ⟨none, .store t x y, ty, pos, af, none⟩).run X.P w = .ok .skip (w.setRow b (cs.toList.take o ++ (a.eval y).cells.toList ++ cs.toList.drop (o + n)).toArray) := by
  simp [execOp, Instr.storeAt, h1, Instr.sureAddr, storeVar, run_sizeOf_sz hz, e1, hst]
 unfold Oper.wp
 rw [hrun]
 have hw := wrote_setRow hc rfl (cs.toList.take o ++ (a.eval y).cells.toList ++ cs.toList.drop (o + n))
 refine next _ _ (hs.write hU hw (R'.up ?_ e4))
 exact ⟨hw.size, fun k hks hk => hw.other k hks (fun q => hk (q ▸ .inr ⟨_, hU.mem, rfl⟩)), fun k _ hk => hk⟩
def gam0 : Nat → List Ty → Gam
 | _, [] => []
 | i, T :: Ts => (i, T) :: gam0 (i + 1) Ts
def Post (X : Cx) (T : Ty) : Ending → World → Prop := fun e w' => ∃ v, e = .returned v ∧ Kept X.L X.w0 w' ∧ T.p v ⟨w', X.M0⟩
theorem slots0 {s : St} : ∀ {Ts : List Ty} {vs : List Value} (i : Nat), vsP Ts vs s → ∀ j T, look (gam0 i Ts) j = some T → i ≤ j ∧ ∃ v, vs[j - i]? = some v ∧ T.p v s
 | [], _, _, _, _, _, h => by simp [gam0, look] at h
 | _ :: _, [], _, hv, _, _, _ => hv.elim
 | T0 :: Ts, v :: vs, i, hv, j, T, h => by
  rw [gam0, T6] at h
  cases hb : Nat.beq i j with
  | true =>
   rw [hb] at h; cases h
   have := Nat.eq_of_beq_eq_true hb
   subst this
   exact ⟨Nat.le_refl _, v, by simp, hv.1⟩
  | false =>
   rw [hb] at h
   obtain ⟨h1, u, h2, h3⟩ := slots0 (i + 1) hv.2 j T h
   exact ⟨by omega, u, by rw [show j - i = (j - (i + 1)) + 1 by omega]; simpa using h2, h3⟩
theorem vsP.length {s : St} : ∀ {Ts : List Ty} {vs : List Value}, vsP Ts vs s → vs.length = Ts.length
 | [], [], _ => rfl
 | [], _ :: _, h => h.elim
 | _ :: _, [], h => h.elim
 | _ :: _, _ :: _, h => by simp [vsP.length h.2]
theorem Ctr.of {P : Program} {f N : Nat} {fn : Func} {c : Code} {Ts : List Ty} {T : Ty} (hf : P.funcs[f]? = some fn) (hb : fn.body = some c) (hN : fn.ntmps = N) (hl : Ts.length ≤ N)
  (h : ∀ w0 M0, JC ⟨P, w0, M0, [], N, []⟩ c (bodyPost P fn (Post ⟨P, w0, M0, [], N, []⟩ T)) (gam0 0 Ts) []) : Ctr P f Ts T := by
 intro w0 M0 hM vs hvs
 refine Calls.mono (calls_of_wp (R := Post ⟨P, w0, M0, [], N, []⟩ T) hf hb ?_) fun e w' ⟨v, h1, h2, h3⟩ => ⟨v, h1, h2.below, h3⟩
 subst hN
 refine h w0 M0 _ _ ⟨?_, rfl, fun k hk => ⟨hM k hk, by simp⟩, Kept.refl _ _, fun i T hi => ?_, ⟨fun e he => by (cases he), List.Pairwise.nil⟩⟩
 ·have := hvs.length
  simp; omega
 ·obtain ⟨_, v, hv, hT⟩ := slots0 0 hvs i T hi
  have hM' : mask M0 [] = M0 := by funext k; simp [mask]
  show T.p _ ⟨w0, mask M0 []⟩
  rw [hM']
  have hlt : i < vs.length := (List.getElem?_eq_some_iff.1 hv).1
  have : (vs.toArray ++ Array.replicate (fn.ntmps - vs.toArray.size) undef).getD i undef = v := by
   rw [Array.getD_eq_getD_getElem?, Array.getElem?_append_left (by simpa using hlt)]
   simp at hv
   simp [hv]
  rw [this]; exact hT
inductive ResT (X : Cx) (Γ : Gam) (H : Hp) : ResultVar → Ty → Prop
 | tmp {t : Nat} {T : Ty} (h : OpT Γ (.tmp t) T) : ResT X Γ H (.tmp t) T
 | scal {t b o tt cty : Nat} {R : CTy} {T : Ty} (h : OpT Γ (.tmp t) (X7 b o)) (he : (⟨b, tt, R⟩ : HEnt) ∈ H) (hs : scalB X.P cty = true) (hR : ∀ cs s, R.p cs s → ∃ v, cs[o]? = some v ∧ T.p v s) : ResT X Γ H (.cell t cty) T
 | agg {t b o tt cty n : Nat} {R : CTy} {T : Ty} (h : OpT Γ (.tmp t) (X7 b o)) (he : (⟨b, tt, R⟩ : HEnt) ∈ H) (hs : aggB X.P cty = some n) (hR : ∀ cs s, R.p cs s → o + n ≤ cs.length ∧ T.p (.agg ((cs.drop o).take n).toArray) s) : ResT X Γ H (.cell t cty) T
def resOne (tmps : Array Value) : ResultVar → Sem Value
 | .tmp t => pure (tmps.getD t undef)
 | .cell a t => do loadVar t (← asAddr (tmps.getD a undef))
theorem ResT.run {r : ResultVar} {T : Ty} (h : ResT X Γ H r T) {a : Act} {w : World} (hs : Sat X Γ H a w) : ∃ v, (resOne a.tmps r).run X.P w = .ok v w ∧ T.p v ⟨w, mask X.M0 H⟩ := by
 cases h with
 | tmp h => exact ⟨_, rfl, h.ev (hs.on (T7 (.tmp _))) (fun _ h => h)⟩
 | scal h he hsc hR =>
  have h1 := h.ev (hs.on (T7 (.tmp _))) (fun _ h => h)
  obtain ⟨cs, hr, hc⟩ := hs.hp.cell he
  obtain ⟨v, hv, hT⟩ := hR _ _ hr
  refine ⟨v, ?_, hT⟩
  have h1' : a.tmps.getD _ undef = _ := h1
  simp only [resOne, h1', asAddr, Sem.run_bind, Sem.run_pure, Result.andThen_ok, run_loadVar_scal hsc (hc _ _ hv)]
 | agg h he hag hR =>
  have h1 := h.ev (hs.on (T7 (.tmp _))) (fun _ h => h)
  obtain ⟨cs, hr, hc⟩ := hs.hp.cell he
  obtain ⟨hl, hT⟩ := hR _ _ hr
  refine ⟨_, ?_, hT⟩
  have h1' : a.tmps.getD _ undef = _ := h1
  rename_i t b o tt cty n R
  have := run_loadVar_agg hag (w := w) (b := b) (o := o) (cs := (cs.drop o).take n) (by simp; omega) (fun j u hu => by
   refine hc (o + j) u ?_
   rw [List.getElem?_take] at hu
   split at hu
   ·rw [List.getElem?_drop] at hu; exact hu
   ·cases hu)
  simp only [resOne, h1', asAddr, Sem.run_bind, Sem.run_pure, Result.andThen_ok, this]
theorem results_eq (fn : Func) (tmps : Array Value) : results fn tmps = (do let vs ← fn.results.mapM (resOne tmps); pure (if h : vs.size = 1 then vs[0] else .tuple vs)) := by
 unfold results
 congr 1
def V5 (Ts : List Ty) : Ty := ⟨fun v s => ∃ vs : List Value, v = .tuple vs.toArray ∧ vsP Ts vs s, fun {v s s'} hl ⟨vs, h, hv⟩ => ⟨vs, h, by
 have key : ∀ {Ts : List Ty} {vs : List Value}, vsP Ts vs s → vsP Ts vs s' := by
  intro Ts
  induction Ts with
  | nil => intro vs h; cases vs <;> first | exact trivial | exact h.elim
  | cons T Ts ih => intro vs h; cases vs <;> first | exact h.elim | exact ⟨T.up hl h.1, ih h.2⟩
 exact key hv⟩⟩
theorem mask_out (w : World) : Le ⟨w, mask X.M0 H⟩ ⟨w, X.M0⟩ := ⟨Nat.le_refl _, fun _ _ _ => rfl, fun _ _ h => .inl h⟩
variable {fn : Func}
theorem ret_done {a : Act} {w : World} {v : Value} {T : Ty} (hs : Sat X Γ H a w) (hr : (results fn a.tmps).run X.P w = .ok v w) (hv : T.p v ⟨w, mask X.M0 H⟩) (hD : X.Df = [] := by rfl) : bodyPost X.P fn (Post X T) .ret a w ∧ bodyPost X.P fn (Post X T) .normal a w :=
 have h : Post X T (.returned v) w := ⟨v, rfl, hs.below, T.up (mask_out w) hv⟩
 ⟨⟨hs.defers.trans hD, v, hr, h⟩, ⟨hs.defers.trans hD, v, hr, h⟩⟩
theorem JQ.ret1 {r : ResultVar} {T : Ty} (hf : fn.results = #[r]) (h : ResT X Γ H r T) (hD : X.Df = [] := by rfl) : JQ X (bodyPost X.P fn (Post X T)) .ret Γ H := fun a w hs => by
 obtain ⟨v, hr, hT⟩ := h.run hs
 exact (ret_done hs (by rw [results_eq, hf]; simp [hr]) hT hD).1
theorem JQ.ret2 {r r2 : ResultVar} {T T2 : Ty} (hf : fn.results = #[r, r2]) (h : ResT X Γ H r T) (h2 : ResT X Γ H r2 T2) (hD : X.Df = [] := by rfl) : JQ X (bodyPost X.P fn (Post X (V5 [T, T2]))) .ret Γ H := fun a w hs => by
 obtain ⟨v, hr, hT⟩ := h.run hs
 obtain ⟨v2, hr2, hT2⟩ := h2.run hs
 exact (ret_done (v := .tuple #[v, v2]) (T := V5 [T, T2]) hs (by rw [results_eq, hf]; simp [hr, hr2]) ⟨[v, v2], rfl, hT, hT2, trivial⟩ hD).1
theorem JQ.ret3 {r r2 r3 : ResultVar} {T T2 T3 : Ty} (hf : fn.results = #[r, r2, r3]) (h : ResT X Γ H r T) (h2 : ResT X Γ H r2 T2) (h3 : ResT X Γ H r3 T3) (hD : X.Df = [] := by rfl) : JQ X (bodyPost X.P fn (Post X (V5 [T, T2, T3]))) .ret Γ H := fun a w hs => by
 obtain ⟨v, hr, hT⟩ := h.run hs
 obtain ⟨v2, hr2, hT2⟩ := h2.run hs
 obtain ⟨v3, hr3, hT3⟩ := h3.run hs
 exact (ret_done (v := .tuple #[v, v2, v3]) (T := V5 [T, T2, T3]) hs (by rw [results_eq, hf]; simp [hr, hr2, hr3]) ⟨[v, v2, v3], rfl, hT, hT2, hT3, trivial⟩ hD).1
theorem Z1 {x : Operand} {Ts : List Ty} {n : Nat} {T : Ty} {dst : Option Tmp} (hx : OpT Γ x (V5 Ts)) (hT : Ts[n]? = some T) : R2 X Γ H ⟨dst, .extract x n, ty, pos, af, gd⟩ T :=
 V4 fun a w hs => by
  obtain ⟨vs, h1, hv⟩ := hx.ev hs (Y1 (by simp [Op.operands]))
  have key : ∀ {Ts : List Ty} {vs : List Value} (n : Nat), vsP Ts vs ⟨w, mask X.M0 H⟩ → Ts[n]? = some T → ∃ v, vs[n]? = some v ∧ T.p v ⟨w, mask X.M0 H⟩ := by
   intro Ts
   induction Ts with
   | nil => intro vs n _ h; simp at h
   | cons T0 Ts ih =>
    intro vs n hv h
    cases vs with
    | nil => exact hv.elim
    | cons v vs =>
     cases n with
     | zero => simp at h; subst h; exact ⟨v, rfl, hv.1⟩
     | succ n => exact ih n hv.2 (by simpa using h)
  obtain ⟨v, hv', hT'⟩ := key n hv hT
  exact ⟨v, w, by simp [execOp, h1, Instr.extract, hv'], Below.refl _ _, hT'⟩
end Go.Rt
namespace Go.Rt
open Go Go.RowKit
variable {X : Cx} {Q : Exit → Act → World → Prop} {rest : List Oper} {Γ : Gam} {H : Hp}
def backTo (o : Oper) (i : Nat) : Bool := o.after.toList.any fun e => Region.binds .any e && Nat.beq e.on i
def guardSlot (all : List Oper) (o : Oper) : List Nat := match o.guard with
 | some (g, _) => ((all[g]?).bind (·.dst)).toList
 | none => []
def readsOf (all : List Oper) (o : Oper) : List Nat := slotsOf o ++ guardSlot all o
def W6 (all : List Oper) (i : Nat) : Option Nat := (all[i]?).bind (·.dst)
def opAtB (all : List Oper) (i : Nat) (p : Oper → Bool) : Bool := match all[i]? with
 | some o => p o
 | none => true
def okEdges (all : List Oper) : Bool := (List.range all.length).all fun i => opAtB all i fun o => o.after.toList.all fun e => !Region.binds .any e || Nat.blt e.on i
def okPair (all : List Oper) (i j : Nat) : Bool :=
 (Nat.beq i j || !(match W6 all i, W6 all j with | some a, some b => Nat.beq a b | _, _ => false)) &&
 opAtB all i fun oi => opAtB all j fun oj => match oj.dst with
  | some x => !(readsOf all oi).any (Nat.beq x) || ((!Nat.blt j i || backTo oi j) && (!Nat.blt i j || backTo oj i))
  | none => true
def okR (all : List Oper) (n : Nat) : Bool :=
 okEdges all && ((List.range n).all fun i => (List.range n).all fun j => okPair all i j) && Nat.ble n all.length &&
 (Nat.beq all.length n || (List.range n).all fun i => (List.range (n + 1)).any fun j => Nat.blt i j && opAtB all j (backTo · i)) &&
 (List.range all.length).all fun q => !Nat.blt n q || opAtB all q (backTo · (q - 1))
theorem K9 {n : Nat} {p : Nat → Bool} (h : (List.range n).all p = true) {i : Nat} (hi : i < n) : p i = true := List.all_eq_true.1 h i (List.mem_range.2 hi)
theorem R0 {a b : Nat} : Nat.beq a b = true ↔ a = b := ⟨Nat.eq_of_beq_eq_true, fun h => h ▸ Nat.beq_refl _⟩
theorem nat_blt {a b : Nat} : Nat.blt a b = true ↔ a < b := by simp [Nat.blt, Nat.lt_iff_add_one_le]
section spec
variable {all : List Oper} {n : Nat}
theorem W4 {o : Oper} {i : Nat} (h : backTo o i = true) : ∃ e ∈ o.after, Region.binds .any e = true ∧ e.on = i := by
 obtain ⟨e, he, h2⟩ := List.any_eq_true.1 h
 simp only [Bool.and_eq_true] at h2
 exact ⟨e, by simpa using he, h2.1, R0.1 h2.2⟩
theorem okEdges_spec (h : okEdges all = true) {i : Nat} {o : Oper} (hi : all[i]? = some o) : ∀ e ∈ o.after, Region.binds .any e = true → e.on < i := by
 intro e he hb
 have hlt := (List.getElem?_eq_some_iff.1 hi).1
 have h1 := K9 h hlt
 simp only [opAtB, hi] at h1
 have h2 := List.all_eq_true.1 h1 e (by simpa using he)
 rw [hb] at h2
 simpa using h2
theorem okPair_dst {i j : Nat} (h : okPair all i j = true) (hne : i ≠ j) {d : Nat} (hi : W6 all i = some d) : W6 all j ≠ some d := by
 intro hj
 simp only [okPair, Bool.and_eq_true, hi, hj] at h
 have h1 := h.1
 simp only [Bool.or_eq_true, R0, hne, false_or, Nat.beq_refl] at h1
 cases h1
theorem okPair_read {i j x : Nat} {oi oj : Oper} (h : okPair all i j = true) (hi : all[i]? = some oi) (hj : all[j]? = some oj) (hx : oj.dst = some x) (hr : x ∈ readsOf all oi) :
  (j < i → backTo oi j = true) ∧ (i < j → backTo oj i = true) := by
 simp only [okPair, Bool.and_eq_true, opAtB, hi, hj, hx] at h
 have h2 := h.2
 have h3 : (readsOf all oi).any (Nat.beq x) = true := List.any_eq_true.2 ⟨x, hr, Nat.beq_refl _⟩
 rw [h3] at h2
 simp only [Bool.not_true, Bool.false_or, Bool.and_eq_true, Bool.or_eq_true, Bool.not_eq_true'] at h2
 refine ⟨fun hl => ?_, fun hl => ?_⟩
 ·rcases h2.1 with q | q
  ·rw [nat_blt.2 hl] at q; cases q
  ·exact q
 ·rcases h2.2 with q | q
  ·rw [nat_blt.2 hl] at q; cases q
  ·exact q
end spec
def OpOk (X : Cx) (Γ : Gam) (H : Hp) (all : List Oper) (o : Oper) (T : Ty) : Prop :=
 (o.guard = none ∧ R2 X Γ H o T) ∨
 (∃ g b t c T0, o.guard = some (g, b) ∧ (all[g]?).bind (·.dst) = some t ∧ t < X.N ∧ look Γ t = some (tIs (.bool c)) ∧ T = tIf (c = b) T0 ∧ (c = b → R2 X Γ H o T0))
inductive TW (X : Cx) (H : Hp) (all : List Oper) : Gam → List Oper → Gam → Prop
 | nil {Γ : Gam} : TW X H all Γ [] Γ
 | cons {Γ Γ' : Gam} {o : Oper} {rest : List Oper} {d : Nat} {T : Ty} (hd : o.dst = some d) (hN : d < X.N) (h : OpOk X Γ H all o T) (next : TW X H all ((d, T) :: Γ) rest Γ') : TW X H all Γ (o :: rest) Γ'
theorem TW.op {all : List Oper} {Γ Γ' : Gam} {o : Oper} {rest : List Oper} {d : Nat} {T : Ty} (h : R2 X Γ H o T) (hd : o.dst = some d) (hN : d < X.N) (hg : o.guard = none) (next : TW X H all ((d, T) :: Γ) rest Γ') : TW X H all Γ (o :: rest) Γ' :=
 .cons hd hN (.inl ⟨hg, h⟩) next
theorem TW.opg {all : List Oper} {Γ Γ' : Gam} {o : Oper} {rest : List Oper} {d g t : Nat} {b c : Bool} {T : Ty} (hg : o.guard = some (g, b)) (hs : (all[g]?).bind (·.dst) = some t) (ht : look Γ t = some (tIs (.bool c))) (htN : t < X.N) (h : c = b → R2 X Γ H o T)
  (hd : o.dst = some d) (hN : d < X.N) (next : TW X H all ((d, tIf (c = b) T) :: Γ) rest Γ') : TW X H all Γ (o :: rest) Γ' :=
 .cons hd hN (.inr ⟨g, b, t, c, T, hg, hs, htN, ht, rfl, h⟩) next
theorem TW.seq {all : List Oper} {Γ Γ' : Gam} {l : List Oper} (h : TW X H all Γ l Γ') : ∃ (G : Nat → Gam) (T : Nat → Ty), G 0 = Γ ∧ G l.length = Γ' ∧
  ∀ i o, l[i]? = some o → ∃ d, o.dst = some d ∧ d < X.N ∧ G (i + 1) = (d, T i) :: G i ∧ OpOk X (G i) H all o (T i) := by
 induction h with
 | nil => rename_i Γ; exact ⟨fun _ => Γ, fun _ => K5, rfl, rfl, fun i o h => by simp at h⟩
 | cons hd hN h _ ih =>
  rename_i Γ Γ' o rest d T _
  obtain ⟨G, T', h0, h1, h2⟩ := ih
  refine ⟨fun i => match i with | 0 => Γ | i + 1 => G i, fun i => match i with | 0 => T | i + 1 => T' i, rfl, h1, fun i o' ho => ?_⟩
  cases i with
  | zero => simp at ho; subst ho; exact ⟨d, hd, hN, h0, h⟩
  | succ i => exact h2 i o' (by simpa using ho)
theorem G_look {n : Nat} {G : Nat → Gam} {T : Nat → Ty} {all : List Oper} (hG : ∀ i, i < n → ∃ d, W6 all i = some d ∧ G (i + 1) = (d, T i) :: G i) : ∀ i, i ≤ n → ∀ x U, look (G i) x = some U →
  (∃ j, j < i ∧ W6 all j = some x ∧ U = T j) ∨ ((∀ j, j < i → W6 all j ≠ some x) ∧ look (G 0) x = some U) := by
 intro i
 induction i with
 | zero => intro _ x U h; exact .inr ⟨fun j hj => by omega, h⟩
 | succ i ih =>
  intro hi x U h
  obtain ⟨d, hd, hg⟩ := hG i (by omega)
  rw [hg, T6] at h
  cases hb : Nat.beq d x with
  | true =>
   rw [hb] at h; cases h
   exact .inl ⟨i, by omega, by rw [hd, R0.1 hb], rfl⟩
  | false =>
   rw [hb] at h
   have hne : d ≠ x := fun e => by rw [e, Nat.beq_refl] at hb; cases hb
   rcases ih (by omega) x U h with ⟨j, h1, h2, h3⟩ | ⟨h1, h2⟩
   ·exact .inl ⟨j, by omega, h2, h3⟩
   ·refine .inr ⟨fun j hj => ?_, h2⟩
    rcases Nat.lt_or_ge j i with q | q
    ·exact h1 j q
    ·have : j = i := by omega
     subst this
     rw [hd]; exact fun e => hne (by simpa using e)
structure RInv (X : Cx) (H : Hp) (Γ : Gam) (all : List Oper) (n : Nat) (T : Nat → Ty) (listed : Array Bool) (a : Act) (w : World) : Prop where
 size : a.tmps.size = X.N
 defers : a.defers = X.Df
 m0 : ∀ k, X.M0 k → k < X.w0.heap.size ∧ k ∉ X.L
 below : Kept X.L X.w0 w
 hp : hpOk X H w
 lsize : listed.size = all.length
 closed : ∀ (i : Nat) (o : Oper), all[i]? = some o → listed.getD i false = true → ∀ e ∈ o.after, Region.binds .any e = true → listed.getD e.on false = true
 done : ∀ i x, i < n → listed.getD i false = true → W6 all i = some x → (T i).p (a.tmps.getD x undef) ⟨w, mask X.M0 H⟩
 old : ∀ x U, look Γ x = some U → (∀ i, i < n → listed.getD i false = true → W6 all i ≠ some x) → U.p (a.tmps.getD x undef) ⟨w, mask X.M0 H⟩
def unl (listed : Array Bool) (N : Nat) : Nat := ((List.range N).filter fun i => !listed.getD i true).length
theorem filter_lt {α : Type} {p q : α → Bool} (hpq : ∀ x, p x = true → q x = true) : ∀ {l : List α} {x : α}, x ∈ l → p x = false → q x = true → (l.filter p).length < (l.filter q).length
 | [], _, h, _, _ => by cases h
 | y :: l, x, h, hp, hq => by
  have le : ∀ l : List α, (l.filter p).length ≤ (l.filter q).length := by
   intro l
   induction l with
   | nil => exact Nat.le_refl _
   | cons z l ih =>
    simp only [List.filter_cons]
    cases hz : p z with
    | true => simp [hpq z hz, ih]
    | false =>
     cases hz2 : q z with
     | true => simp; omega
     | false => simp [ih]
  cases h with
  | head =>
   have := le l
   simp only [List.filter_cons, hp, hq, if_true]
   simp; omega
  | tail _ h =>
   have := filter_lt hpq h hp hq
   simp only [List.filter_cons]
   cases hy : p y with
   | true => simp [hpq y hy]; exact this
   | false =>
    cases hy2 : q y with
    | true => simp; omega
    | false => simp; exact this
theorem R6 {l : Array Bool} {i j : Nat} {d : Bool} (hi : i < l.size) : (l.setIfInBounds i true).getD j d = if i = j then true else l.getD j d := by
 simp only [Array.getD_eq_getD_getElem?]
 by_cases h : i = j
 ·subst h; simp [hi]
 ·rw [Array.getElem?_setIfInBounds_ne h, if_neg h]
theorem R7 {l : Array Bool} {i : Nat} (hi : i < l.size) (d d' : Bool) : l.getD i d = l.getD i d' := by simp [Array.getD_eq_getD_getElem?, hi]
theorem unl_set {l : Array Bool} {i N : Nat} (hi : i < N) (hN : l.size = N) (hl : l.getD i true = false) : unl (l.setIfInBounds i true) N < unl l N := by
 refine filter_lt (x := i) (fun x hx => ?_) (List.mem_range.2 hi) ?_ ?_
 ·rw [R6 (by omega)] at hx
  by_cases h : i = x
  ·simp [h] at hx
  ·simpa [h] using hx
 ·rw [R6 (by omega)]; simp
 ·simp [hl]
theorem wpAny_all {P : Program} {ops : Array Oper} {listed : Array Bool} {a : Act} {w : World} (h : ∀ i, i < ops.size → listed.getD i true = true) (hQ : Q .normal a w) : ∀ fuel, wpAny P .any ops Q fuel listed a w := by
 have hr : Region.ready .any ops listed = [] := by
  cases hr : Region.ready .any ops listed with
  | nil => rfl
  | cons j l =>
   have hj : j ∈ Region.ready .any ops listed := by rw [hr]; exact .head _
   obtain ⟨h1, o, ho, _⟩ := mem_ready.1 hj
   have := h j (Array.getElem?_eq_some_iff.1 ho).1
   rw [this] at h1; cases h1
 intro fuel
 cases fuel with
 | zero => exact ⟨hr, hQ⟩
 | succ f => exact ⟨fun _ => hQ, by rw [hr]; intro i hi; cases hi⟩
section main
variable {all : List Oper} {n : Nat} {T : Nat → Ty} {G : Nat → Gam}
theorem RInv.start {a : Act} {w : World} (hs : Sat X Γ H a w) : RInv X H Γ all n T (Array.replicate all.length false) a w :=
 have hf : ∀ i, (Array.replicate all.length false).getD i false = false := fun i => by
  simp only [Array.getD_eq_getD_getElem?, Array.getElem?_replicate]; split <;> rfl
 ⟨hs.size, hs.defers, hs.m0, hs.below, hs.hp, by simp, fun i o _ h => by (rw [hf] at h; cases h), fun i x _ h => by (rw [hf] at h; cases h), fun x U hU _ => hs.slots x U hU⟩
theorem RInv.reads {listed : Array Bool} {a : Act} {w : World} (hi : RInv X H Γ all n T listed a w) (hG0 : G 0 = Γ) (hG : ∀ i, i < n → ∃ d, W6 all i = some d ∧ G (i + 1) = (d, T i) :: G i)
  (hok : ∀ i j, i < n → j < n → okPair all i j = true) {i : Nat} (hin : i < n) {o : Oper} (ho : all[i]? = some o) (hun : listed.getD i false = false) (hready : ∀ e ∈ o.after, Region.binds .any e = true → listed.getD e.on false = true)
  {x : Nat} (hx : x ∈ readsOf all o) {U : Ty} (hU : look (G i) x = some U) : U.p (a.tmps.getD x undef) ⟨w, mask X.M0 H⟩ := by
 have wr : ∀ j, j < n → W6 all j = some x → ∃ oj, all[j]? = some oj ∧ oj.dst = some x := fun j _ hj => by
  unfold W6 at hj
  obtain ⟨oj, h1, h2⟩ := Option.bind_eq_some_iff.1 hj
  exact ⟨oj, h1, h2⟩
 rcases G_look hG i (by omega) x U hU with ⟨j, hj, hd, rfl⟩ | ⟨hno, hU0⟩
 ·obtain ⟨oj, h1, h2⟩ := wr j (by omega) hd
  obtain ⟨e, he, hb, hon⟩ := W4 ((okPair_read (hok i j hin (by omega)) ho h1 h2 hx).1 hj)
  exact hi.done j x (by omega) (by rw [← hon]; exact hready e he hb) hd
 ·rw [hG0] at hU0
  refine hi.old x U hU0 fun j hjn hl hd => ?_
  rcases Nat.lt_trichotomy j i with q | q | q
  ·exact hno j q hd
  ·subst q; rw [hun] at hl; cases hl
  ·obtain ⟨oj, h1, h2⟩ := wr j hjn hd
   obtain ⟨e, he, hb, hon⟩ := W4 ((okPair_read (hok i j hin hjn) ho h1 h2 hx).2 q)
   have := hi.closed j oj h1 hl e he hb
   rw [hon, hun] at this; cases this
theorem RInv.next {listed : Array Bool} {a : Act} {w w' : World} (hi : RInv X H Γ all n T listed a w) (hok : ∀ i j, i < n → j < n → okPair all i j = true) {i d : Nat} (hin : i < n) {o : Oper} (ho : all[i]? = some o) (hd : o.dst = some d) (hdN : d < X.N)
  (hready : ∀ e ∈ o.after, Region.binds .any e = true → listed.getD e.on false = true) {v : Value} (hb : Below w.heap.size w w') (hv : (T i).p v ⟨w', mask X.M0 H⟩) :
  RInv X H Γ all n T (listed.setIfInBounds i true) (a.put (some d) v) w' := by
 have hlt : i < listed.size := by rw [hi.lsize]; exact (List.getElem?_eq_some_iff.1 ho).1
 have hdi : W6 all i = some d := by simp [W6, ho, hd]
 have hput : ∀ x, d ≠ x → (a.put (some d) v).tmps.getD x undef = a.tmps.getD x undef := fun x hne => by
  rw [getD_put (by rw [hi.size]; exact hdN)]
  have : Nat.beq d x = false := by
   cases hb : Nat.beq d x with
   | false => rfl
   | true => exact absurd (R0.1 hb) hne
  rw [this]; rfl
 have hput0 : (a.put (some d) v).tmps.getD d undef = v := by
  rw [getD_put (by rw [hi.size]; exact hdN), Nat.beq_refl]; rfl
 refine ⟨(size_put _ _ _).trans hi.size, (defers_put _ _ _).trans hi.defers, hi.m0, hi.below.ext hb, hi.hp.ext hb, by simp [hi.lsize], fun j oj hj hl e he hbd => ?_, fun j x hj hl hx => ?_, fun x U hU hno => ?_⟩
 ·rw [R6 hlt]
  rw [R6 hlt] at hl
  by_cases hon : i = e.on
  ·simp [hon]
  ·rw [if_neg hon]
   by_cases hij : i = j
   ·subst hij; rw [ho] at hj; cases hj; exact hready e he hbd
   ·rw [if_neg hij] at hl; exact hi.closed j oj hj hl e he hbd
 ·rw [R6 hlt] at hl
  by_cases hij : i = j
  ·subst hij
   rw [hdi] at hx; cases hx
   rw [hput0]; exact hv
  ·rw [if_neg hij] at hl
   have hne : d ≠ x := fun e => by subst e; exact okPair_dst (hok i j hin hj) hij hdi hx
   rw [hput x hne]
   exact (T j).up (Le.below _ hb) (hi.done j x hj hl hx)
 ·have hne : d ≠ x := fun e => by
   subst e
   exact hno i hin (by rw [R6 hlt]; simp) hdi
  rw [hput x hne]
  refine U.up (Le.below _ hb) (hi.old x U hU fun j hj hl => hno j hj ?_)
  rw [R6 hlt]
  by_cases hij : i = j
  ·simp [hij]
  ·rw [if_neg hij]; exact hl
theorem RInv.fin {listed : Array Bool} {a : Act} {w : World} (hi : RInv X H Γ all n T listed a w) (hG0 : G 0 = Γ) (hG : ∀ i, i < n → ∃ d, W6 all i = some d ∧ G (i + 1) = (d, T i) :: G i) (hl : ∀ i, i < n → listed.getD i false = true) : Sat X (G n) H a w := by
 refine ⟨hi.size, hi.defers, hi.m0, hi.below, fun x U hU => ?_, hi.hp⟩
 rcases G_look hG n (Nat.le_refl _) x U hU with ⟨j, hj, hd, rfl⟩ | ⟨hno, hU0⟩
 ·exact hi.done j x hj (hl j hj) hd
 ·rw [hG0] at hU0
  exact hi.old x U hU0 fun j hj _ => hno j hj
theorem tail_run (hokE : okEdges all = true) (hch : ∀ q o, n < q → all[q]? = some o → backTo o (q - 1) = true) :
  ∀ m p fuel listed a w, all.length - p = m → n ≤ p → p ≤ all.length → m ≤ fuel → listed.size = all.length → (∀ i, i < p → listed.getD i false = true) → (∀ i, p ≤ i → i < all.length → listed.getD i false = false) →
   wpList X.P all.toArray Q (all.drop p) a w → wpAny X.P .any all.toArray Q fuel listed a w := by
 intro m
 induction m with
 | zero =>
  intro p fuel listed a w hm hnp hpl hf hls h1 _ hw
  have hp : p = all.length := by omega
  subst hp
  rw [List.drop_length] at hw
  exact wpAny_all (fun i hi => by rw [R7 (by rw [hls]; simpa using hi) true false]; exact h1 i (by simpa using hi)) hw fuel
 | succ m ih =>
  intro p fuel listed a w hm hnp hpl hf hls h1 h2 hw
  have hlt : p < all.length := by omega
  have hpr : p ∈ Region.ready .any all.toArray listed := mem_ready.2 ⟨by rw [R7 (by omega) true false]; exact h2 p (Nat.le_refl _) hlt, all[p], by simp [hlt], fun e he hb => h1 e.on (okEdges_spec hokE (List.getElem?_eq_getElem hlt) e he hb)⟩
  cases fuel with
  | zero => omega
  | succ fuel =>
   refine ⟨fun hr => by (rw [hr] at hpr; cases hpr), fun i hir => ?_⟩
   obtain ⟨hun, o, ho, hready⟩ := mem_ready.1 hir
   have ho' : all[i]? = some o := by simpa using ho
   have hil : i < all.length := (List.getElem?_eq_some_iff.1 ho').1
   have hip : i = p := by
    rcases Nat.lt_trichotomy i p with q | q | q
    ·rw [R7 (by omega) true false, h1 i q] at hun; cases hun
    ·exact q
    ·obtain ⟨e, he, hb, hon⟩ := W4 (hch i o (by omega) ho')
     have h3 := hready e he hb
     rw [hon, h2 (i - 1) (by omega) (by omega)] at h3; cases h3
   subst hip
   rw [List.drop_eq_getElem_cons hlt] at hw
   have hoo : all[i] = o := by rw [List.getElem?_eq_getElem hlt] at ho'; exact Option.some.inj ho'
   rw [hoo] at hw
   unfold wpList at hw
   have hgoal : wpOp X.P all.toArray Q i (wpList X.P all.toArray Q (all.drop (i + 1))) a w := by
    unfold wpOp
    simp only [ho]
    exact hw
   refine wpOp_mono (fun a' w' hq => ?_) hgoal
   refine ih (i + 1) fuel _ a' w' (by omega) (by omega) (by omega) (by omega) (by simp [hls]) (fun j hj => ?_) (fun j hj hjl => ?_) hq
   ·rw [R6 (by omega)]
    by_cases hij : i = j
    ·simp [hij]
    ·rw [if_neg hij]; exact h1 j (by omega)
   ·rw [R6 (by omega), if_neg (by omega)]; exact h2 j (by omega) hjl
theorem region_run (fl : Nat → Bool) (hokE : okEdges all = true) (hok : ∀ i j, i < n → j < n → okPair all i j = true) (hnl : n ≤ all.length) (hsucc : all.length ≠ n → ∀ i, i < n → fl i = true ∨ ∃ j o, i < j ∧ j ≤ n ∧ all[j]? = some o ∧ backTo o i = true)
  (hch : ∀ q o, n < q → all[q]? = some o → backTo o (q - 1) = true)
  (hG0 : G 0 = Γ) (hG : ∀ i o, i < n → all[i]? = some o → ∃ d, o.dst = some d ∧ d < X.N ∧ G (i + 1) = (d, T i) :: G i ∧ OpOk X (G i) H all o (T i))
  (hk : ∀ a w, Sat X (G n) H a w → wpList X.P all.toArray Q (all.drop n) a w) :
  ∀ fuel listed a w, unl listed all.length ≤ fuel → RInv X H Γ all n T listed a w → (∀ i, i < n → fl i = true → listed.getD i false = true) → (∀ q, n ≤ q → q < all.length → listed.getD q false = false) → wpAny X.P .any all.toArray Q fuel listed a w := by
 have hG' : ∀ i, i < n → ∃ d, W6 all i = some d ∧ G (i + 1) = (d, T i) :: G i := fun i hi => by
  have hlt : i < all.length := by omega
  obtain ⟨d, h1, _, h2, _⟩ := hG i all[i] hi (List.getElem?_eq_getElem hlt)
  exact ⟨d, by simp [W6, List.getElem?_eq_getElem hlt, h1], h2⟩
 -- all the first n have run: the others follow
 have fin : ∀ fuel listed a w, unl listed all.length ≤ fuel → RInv X H Γ all n T listed a w → (∀ q, n ≤ q → q < all.length → listed.getD q false = false) → (∀ i, i < n → listed.getD i false = true) → wpAny X.P .any all.toArray Q fuel listed a w := by
  intro fuel listed a w hu hi htail hdone
  refine tail_run hokE hch (all.length - n) n fuel listed a w rfl (Nat.le_refl _) hnl ?_ hi.lsize hdone htail (hk a w (hi.fin hG0 hG' hdone))
  refine Nat.le_trans ?_ hu
  have hsub : ((List.range all.length).drop n).length ≤ unl listed all.length := by
   unfold unl
   have hs : ((List.range all.length).drop n).filter (fun i => !listed.getD i true) = (List.range all.length).drop n := by
    rw [List.filter_eq_self]
    intro q hq
    obtain ⟨k, hk, hkq⟩ := List.mem_iff_getElem.1 hq
    simp only [List.getElem_drop, List.getElem_range] at hkq
    simp only [List.length_drop, List.length_range] at hk
    have := htail q (by omega) (by omega)
    rw [R7 (by rw [hi.lsize]; omega) false true] at this
    simp [this]
   rw [← hs]
   exact ((List.drop_sublist n _).filter _).length_le
  simpa using hsub
 intro fuel
 induction fuel with
 | zero =>
  intro listed a w hu hi hfl htail
  have hall : ∀ i, i < all.length → listed.getD i true = true := fun i hi' => by
   cases hb : listed.getD i true with
   | true => rfl
   | false =>
    have hm : i ∈ (List.range all.length).filter fun i => !listed.getD i true := List.mem_filter.2 ⟨List.mem_range.2 hi', by simp [hb]⟩
    have : 0 < unl listed all.length := List.length_pos_of_mem hm
    omega
  exact fin 0 listed a w hu hi htail fun i hi' => by rw [R7 (by rw [hi.lsize]; omega) false true]; exact hall i (by omega)
 | succ fuel ih =>
  intro listed a w hu hi hfl htail
  by_cases hdone : ∀ i, i < n → listed.getD i false = true
  ·exact fin _ listed a w hu hi htail hdone
  have prog : ∃ i, i < n ∧ i ∈ Region.ready .any all.toArray listed := by
   have key : ∀ m i, i ≤ m → i < n → listed.getD i false = false → ∃ i, i < n ∧ i ∈ Region.ready .any all.toArray listed := by
    intro m
    induction m with
    | zero =>
     intro i him hin hl
     refine ⟨i, hin, mem_ready.2 ⟨by rw [R7 (by rw [hi.lsize]; omega) true false]; exact hl, all[i]'(by omega), by simp [show i < all.length by omega], fun e he hbd => ?_⟩⟩
     have := okEdges_spec hokE (List.getElem?_eq_getElem (show i < all.length by omega)) e he hbd
     omega
    | succ m ihm =>
     intro i him hin hl
     by_cases hex : ∃ k, k < i ∧ listed.getD k false = false
     ·obtain ⟨k, hk, hkl⟩ := hex
      exact ihm k (by omega) (by omega) hkl
     ·refine ⟨i, hin, mem_ready.2 ⟨by rw [R7 (by rw [hi.lsize]; omega) true false]; exact hl, all[i]'(by omega), by simp [show i < all.length by omega], fun e he hbd => ?_⟩⟩
      have hlt := okEdges_spec hokE (List.getElem?_eq_getElem (show i < all.length by omega)) e he hbd
      cases hb : listed.getD e.on false with
      | true => rfl
      | false => exact absurd ⟨e.on, hlt, hb⟩ hex
   obtain ⟨i, hh⟩ := Classical.not_forall.1 hdone
   obtain ⟨hin, hl⟩ := Classical.not_imp.1 hh
   exact key i i (Nat.le_refl _) hin (by cases hb : listed.getD i false with | false => rfl | true => exact absurd hb hl)
  refine ⟨fun hr => ?_, fun i hir => ?_⟩
  ·obtain ⟨i, _, h⟩ := prog
   rw [hr] at h; cases h
  ·obtain ⟨hun, o, ho, hready⟩ := mem_ready.1 hir
   have ho' : all[i]? = some o := by simpa using ho
   have hil : i < all.length := (List.getElem?_eq_some_iff.1 ho').1
   have hun' : listed.getD i false = false := by rw [R7 (by rw [hi.lsize]; omega) false true]; exact hun
   have hu' : unl (listed.setIfInBounds i true) all.length ≤ fuel := by
    have := unl_set hil hi.lsize hun
    omega
   have hin : i < n := by
    rcases Nat.lt_or_ge i n with q | q
    ·exact q
    ·exfalso
     have hne : all.length ≠ n := by omega
     have hsc := hsucc hne
     rcases Nat.lt_or_ge n i with q2 | q2
     ·obtain ⟨e, he, hbd, hon⟩ := W4 (hch i o q2 ho')
      have h3 := hready e he hbd
      rw [hon, htail (i - 1) (by omega) (by omega)] at h3; cases h3
     ·have hieq : i = n := by omega
      subst hieq
      refine hdone ?_
      have hb : ∀ m j, i - j ≤ m → j < i → listed.getD j false = true := by
       intro m
       induction m with
       | zero => intro j h1 h2; omega
       | succ m ihm =>
        intro j h1 h2
        rcases hsc j h2 with hfj | ⟨k, ok, hjk, hki, hok', hbk⟩
        ·exact hfl j h2 hfj
        obtain ⟨e, he, hbd, hon⟩ := W4 hbk
        rcases Nat.lt_or_ge k i with q | q
        ·have := hi.closed k ok hok' (ihm k (by omega) q) e he hbd
         rw [hon] at this; exact this
        ·have hki : k = i := by omega
         subst hki
         rw [ho'] at hok'; cases hok'
         have := hready e he hbd
         rw [hon] at this; exact this
      exact fun j hj => hb (i - j) j (Nat.le_refl _) hj
   obtain ⟨d, hd, hdN, hg, hopok⟩ := hG i o hin ho'
   have htail' : ∀ q, n ≤ q → q < all.length → (listed.setIfInBounds i true).getD q false = false := fun q hq hql => by
    rw [R6 (by rw [hi.lsize]; exact hil), if_neg (by omega)]; exact htail q hq hql
   have hfl' : ∀ j, j < n → fl j = true → (listed.setIfInBounds i true).getD j false = true := fun j hj hjf => by
    rw [R6 (by rw [hi.lsize]; exact hil)]
    split
    ·rfl
    ·exact hfl j hj hjf
   have hso : ∀ Γx, (∀ x U, x ∈ slotsOf o → look Γx x = some U → U.p (a.tmps.getD x undef) ⟨w, mask X.M0 H⟩) → SatOn X (slotsOf o) Γx H a w := fun Γx h =>
    ⟨hi.size, hi.defers, hi.m0, hi.below, fun x U hx hU => h x U hx hU, hi.hp⟩
   have hson := hso (G i) fun x U hx hU => hi.reads hG0 hG' hok hin ho' hun' hready (List.mem_append.2 (.inl hx)) hU
   unfold wpOp
   simp only [ho]
   rcases hopok with ⟨hgn, hop⟩ | ⟨g, b, t, c, T0, hgs, hst, htN, hlt, hT, hop⟩
   ·rw [if_pos (V6 hgn _)]
    refine .inl (wp_mono_false ?_ (hop a w hson))
    rintro a' w' ⟨v, rfl, hb, hv⟩
    rw [hd]
    exact ih _ _ _ hu' (hi.next hok hin ho' hd hdN hready hb hv) hfl' htail'
   ·have hv : a.tmps.getD t undef = .bool c := hi.reads hG0 hG' hok hin ho' hun' hready (List.mem_append.2 (.inr (by simp [guardSlot, hgs, hst]))) hlt
    have hy : yielded all.toArray a.tmps g = some c := by
     have hlt' : t < a.tmps.size := by rw [hi.size]; exact htN
     simp only [Array.getD_eq_getD_getElem?, Array.getElem?_eq_getElem hlt', Option.getD_some] at hv
     simp [yielded, hst, Array.getElem?_eq_getElem hlt', hv]
    rw [wanted_of hgs hy]
    by_cases hcb : c = b
    ·rw [if_pos (by simp [hcb])]
     refine .inl (wp_mono_false ?_ (hop hcb a w hson))
     rintro a' w' ⟨v, rfl, hb, hv'⟩
     rw [hd]
     exact ih _ _ _ hu' (hi.next hok hin ho' hd hdN hready hb (by rw [hT]; exact ⟨fun _ => hv', fun h => absurd hcb h⟩)) hfl' htail'
    ·rw [if_neg (by simp [hcb]), hd]
     exact ih _ _ _ hu' (hi.next hok hin ho' hd hdN hready (Below.refl _ _) (by rw [hT]; exact ⟨fun h => absurd h hcb, fun _ => rfl⟩)) hfl' htail'
end main
theorem okR_spec {all : List Oper} {n : Nat} (h : okR all n = true) : okEdges all = true ∧ (∀ i j, i < n → j < n → okPair all i j = true) ∧ n ≤ all.length ∧ (all.length ≠ n → ∀ i, i < n → ∃ j o, i < j ∧ j ≤ n ∧ all[j]? = some o ∧ backTo o i = true) ∧
  (∀ q o, n < q → all[q]? = some o → backTo o (q - 1) = true) := by
 simp only [okR, Bool.and_eq_true] at h
 obtain ⟨⟨⟨⟨h1, h2⟩, h3⟩, h4⟩, h5⟩ := h
 refine ⟨h1, fun i j hi hj => K9 (K9 h2 hi) hj, Nat.le_of_ble_eq_true h3, fun hne i hi => ?_, fun q o hq ho => ?_⟩
 ·simp only [Bool.or_eq_true, R0] at h4
  rcases h4 with h4 | h4
  ·exact absurd h4 hne
  ·obtain ⟨j, hj, hjj⟩ := List.any_eq_true.1 (K9 h4 hi)
   simp only [Bool.and_eq_true] at hjj
   have hjl : j < all.length := by have := List.mem_range.1 hj; have := Nat.le_of_ble_eq_true h3; omega
   refine ⟨j, all[j], nat_blt.1 hjj.1, by have := List.mem_range.1 hj; omega, List.getElem?_eq_getElem hjl, ?_⟩
   have := hjj.2
   simpa [opAtB, List.getElem?_eq_getElem hjl] using this
 ·have hql := (List.getElem?_eq_some_iff.1 ho).1
  have := K9 h5 hql
  rw [nat_blt.2 hq] at this
  simpa [opAtB, ho] using this
theorem JC.drawAt {id : Nat} {l : List Oper} {Γ' : Gam} (n : Nat) (hm : X.P.follows .mixedOrders = true) (hok : okR l n = true) (ht : TW X H l Γ (l.take n) Γ') (h : J X l.toArray Q (l.drop n) Γ' H) : JC X (.region id l.toArray true) Q Γ H := by
 intro a w hs
 obtain ⟨h1, h2, h3, h4, h5⟩ := okR_spec hok
 obtain ⟨G, T, hG0, hGn, hG⟩ := ht.seq
 have hlen : (l.take n).length = n := by simp; omega
 rw [hlen] at hGn
 refine wp_region_any hm ?_
 have hb : Below w.heap.size w { w with drawn := w.drawn + 1 } := (Below.refl _ w).drew
 have := region_run (Q := Q) (n := n) (fun _ => false) h1 h2 h3 (fun hne i hi => .inr (h4 hne i hi)) h5 hG0 (fun i o hi ho => hG i o (by rw [List.getElem?_take, if_pos hi]; exact ho))
  (fun a w hs => (h a w (hGn ▸ hs)).list) l.length (Array.replicate l.length false) a _
  (by have := List.length_filter_le (fun i => !(Array.replicate l.length false).getD i true) (List.range l.length); simpa [unl] using this) (RInv.start (hs.ext hb)) (fun _ _ h => by cases h)
  (fun q _ hq => by simp [Array.getD_eq_getD_getElem?, hq])
 simpa using this
theorem JC.draw {id : Nat} {l : List Oper} {Γ' : Gam} (hm : X.P.follows .mixedOrders = true) (hok : okR l l.length = true) (ht : TW X H l Γ l Γ') (h : JQ X Q .normal Γ' H) : JC X (.region id l.toArray true) Q Γ H :=
 JC.drawAt l.length hm hok (by rwa [List.take_length]) (by rw [List.drop_length]; exact J.nil h)
end Go.Rt
namespace Go.Rt
open Go Go.RowKit
variable {X : Cx} {ops : Array Oper} {Q : Exit → Act → World → Prop} {rest : List Oper} {Γ : Gam} {H : Hp}
variable {dst : Option Tmp} {ty : TypeId} {pos : String} {af : Array Edge} {gd : Option (Nat × Bool)}
theorem ltN {d N : Nat} (h : Nat.blt d N = true) : d < N := nat_blt.1 h
theorem w64 {z : Int} (h0 : -9223372036854775808 ≤ z) (h1 : z ≤ 9223372036854775807) : IntKind.i64.wrap z = z := by rw [IntKind.wrap_i64]; omega
theorem OpT.iff {x : Operand} {T : Ty} {c : Prop} (hc : c) (h : OpT Γ x (tIf c T)) : OpT Γ x T := .sub h fun _ _ h => h.1 hc
theorem OpT.iffr {x : Operand} {T : Ty} {c c' : Prop} (hc : c) (h : OpT Γ x (tIf (c ∧ c') T)) : OpT Γ x (tIf c' T) := .sub h fun _ _ h => ⟨fun h' => h.1 ⟨hc, h'⟩, fun h' => h.2 fun q => h' q.2⟩
theorem OpT.any {x : Operand} {T : Ty} (h : OpT Γ x T) : OpT Γ x K5 := .sub h fun _ _ _ => trivial
theorem R4 {c x y : Operand} {g h : Bool} (hc : OpT Γ c (tIs (.bool g))) (hx : OpT Γ x (tIf (g = true) (tIs (.bool h)))) (hy : OpT Γ y (tIs (.bool false))) : R2 X Γ H ⟨dst, .pick c x y, ty, pos, af, gd⟩ (tIs (.bool (g && h))) := by
 refine ot_pick hc (fun hg => ?_) (fun hg => ?_)
 ·subst hg; exact .sub hx fun v s q => by have := q.1 rfl; simpa using this
 ·subst hg; exact hy
theorem ot_or2 {c x y : Operand} {g h : Bool} (hc : OpT Γ c (tIs (.bool g))) (hx : OpT Γ x (tIs (.bool true))) (hy : OpT Γ y (tIf (g = false) (tIs (.bool h)))) : R2 X Γ H ⟨dst, .pick c x y, ty, pos, af, gd⟩ (tIs (.bool (g || h))) := by
 refine ot_pick hc (fun hg => ?_) (fun hg => ?_)
 ·subst hg; exact hx
 ·subst hg; exact .sub hy fun v s q => by have := q.1 rfl; simpa using this
theorem J.boxS {T : Ty} {d : Nat} {t : TypeId} {x : Operand} (hx : OpT Γ x T) (h1 : ∀ v s, T.p v s → Value.cells v = #[v] ∧ v.oneCell' = true) (hN : d < X.N)
  (next : ∀ b, J X ops Q rest ((d, X7 b 0) :: Γ) (⟨b, t, cTs [T]⟩ :: H)) : J X ops Q (⟨some d, .box t x, ty, pos, af, none⟩ :: rest) Γ H :=
 J.box hx (fun v s h => by obtain ⟨h2, h3⟩ := h1 v s h; show cellsP [T] v.cells.toList s; rw [h2]; exact ⟨h, h3, trivial⟩) hN next
def rowP {α : Type} (E : Enc α) (xs : List α) (cap : Nat) (cs : List Value) (s : St) : Prop :=
 xs.length ≤ cap ∧ cs.length = cap * E.sz ∧ ∀ i x, xs[i]? = some x → E.C x ((cs.drop (i * E.sz)).take E.sz) s
def Y5 {α : Type} (E : Enc α) (xs : List α) (cap : Nat) : CTy := ⟨rowP E xs cap, fun hl ⟨h1, h2, h3⟩ => ⟨h1, h2, fun i x hx => E.up hl (h3 i x hx)⟩⟩
theorem row_room {i m sz l : Nat} (h : i < m) (hl : l = m * sz) : i * sz + sz ≤ l := by
 subst hl
 have : (i + 1) * sz ≤ m * sz := Nat.mul_le_mul_right _ h
 rw [Nat.add_mul] at this; omega
theorem row_agg {α : Type} {E : Enc α} {xs : List α} {cap i : Nat} {x : α} (hE : E.ag = true) (hx : xs[i]? = some x) : ∀ cs s, (Y5 E xs cap).p cs s → 0 + i * E.sz + E.sz ≤ cs.length ∧ (tV E x).p (.agg ((cs.drop (0 + i * E.sz)).take E.sz).toArray) s := by
 rintro cs s ⟨h1, h2, h3⟩
 have hlt := (List.getElem?_eq_some_iff.1 hx).1
 rw [Nat.zero_add]
 exact ⟨row_room (show i < cap by omega) h2, hE.symm, by simpa [Value.cells] using h3 i x hx⟩
theorem row_scal {α : Type} {E : Enc α} {xs : List α} {cap i : Nat} {x : α} (hE : E.sz = 1) (hV : ∀ v s, E.C x [v] s → (tV E x).p v s) (hx : xs[i]? = some x) : ∀ cs s, (Y5 E xs cap).p cs s → ∃ v, cs[0 + i * 1]? = some v ∧ (tV E x).p v s := by
 rintro cs s ⟨h1, h2, h3⟩
 have hlt := (List.getElem?_eq_some_iff.1 hx).1
 have h := h3 i x hx
 rw [hE] at h h2
 simp only [Nat.mul_one, Nat.zero_add] at *
 have hl : i < cs.length := by omega
 rw [List.drop_eq_getElem_cons hl] at h
 simp only [List.take_succ_cons, List.take_zero] at h
 exact ⟨cs[i], List.getElem?_eq_getElem hl, hV _ _ h⟩
theorem drop_take_splice {l m : List Value} {o n i sz : Nat} (hm : m.length = n) (ho : o + n ≤ l.length) (h : i * sz + sz ≤ o ∨ o + n ≤ i * sz) :
  ((l.take o ++ m ++ l.drop (o + n)).drop (i * sz)).take sz = (l.drop (i * sz)).take sz := by
 apply List.ext_getElem?
 intro k
 simp only [List.getElem?_take, List.getElem?_drop]
 split
 ·rename_i hk
  rcases h with h | h
  ·rw [List.append_assoc, List.getElem?_append_left (by simp; omega), List.getElem?_take, if_pos (by omega)]
  ·rw [List.getElem?_append_right (by simp; omega), List.getElem?_drop]
   congr 1
   simp
   omega
 ·rfl
theorem T4 {α : Type} {E : Enc α} {xs : List α} {cap i : Nat} {x : α} (hi : i < xs.length) : ∀ cs v s, (Y5 E xs cap).p cs s → (tV E x).p v s →
  v.cells.size = E.sz ∧ 0 + i * E.sz + E.sz ≤ cs.length ∧ (∀ u ∈ v.cells.toList, u.oneCell' = true) ∧ (Y5 E (xs.set i x) cap).p (cs.take (0 + i * E.sz) ++ v.cells.toList ++ cs.drop (0 + i * E.sz + E.sz)) s := by
 rintro cs v s ⟨h1, h2, h3⟩ ⟨h4, h5⟩
 have hl := E.len h5
 have hr := row_room (show i < cap by omega) h2
 rw [Nat.zero_add]
 refine ⟨by simpa using hl, hr, E.one h5, by simpa using h1, ?_, fun j y hy => ?_⟩
 ·simp at hl ⊢; omega
 ·by_cases hij : i = j
  ·subst hij
   rw [List.getElem?_set_self hi] at hy
   cases hy
   have : ((cs.take (i * E.sz) ++ v.cells.toList ++ cs.drop (i * E.sz + E.sz)).drop (i * E.sz)).take E.sz = v.cells.toList := by
    rw [List.append_assoc, List.drop_append_of_le_length (by simp; omega)]
    rw [List.drop_eq_nil_of_le (by simp; omega), List.nil_append, List.take_append_of_le_length (by omega), List.take_of_length_le (by omega)]
   rw [this]; exact h5
  ·rw [List.getElem?_set_ne hij] at hy
   rw [drop_take_splice hl hr]
   ·exact h3 j y hy
   ·have hj := (List.getElem?_eq_some_iff.1 hy).1
    rcases Nat.lt_or_ge j i with q | q
    ·left
     have : (j + 1) * E.sz ≤ i * E.sz := Nat.mul_le_mul_right _ q
     rw [Nat.add_mul] at this; omega
    ·right
     have : (i + 1) * E.sz ≤ j * E.sz := Nat.mul_le_mul_right _ (by omega)
     rw [Nat.add_mul] at this; omega
theorem made_row {zero : Array Value} {n : Nat} (i : Nat) (hi : i < n) :
  ((((Array.range (n * zero.size)).map (zero[· % zero.size]!)).toList.drop (i * zero.size)).take zero.size) = zero.toList := by
 apply List.ext_getElem?
 intro k
 simp only [List.getElem?_take, List.getElem?_drop]
 by_cases hk : k < zero.size
 ·rw [if_pos hk]
  have hlt : i * zero.size + k < n * zero.size := by
   have : (i + 1) * zero.size ≤ n * zero.size := Nat.mul_le_mul_right _ hi
   rw [Nat.add_mul] at this; omega
  have hmod : (i * zero.size + k) % zero.size = k := by rw [Nat.add_comm, Nat.add_mul_mod_self_right, Nat.mod_eq_of_lt hk]
  simp [hlt, hmod, hk]
 ·rw [if_neg hk, List.getElem?_eq_none (by simpa using hk)]
theorem J.make {α : Type} {E : Enc α} {z : α} {d t e by_ : Nat} {lx cx : Operand} {kl kc : IntKind} {n : Nat} {zv : Value} (ht : slB X.P t = some (e, E.sz, by_)) (hl : OpT Γ lx (tIs (.int kl n))) (hc : OpT Γ cx (tIs (.int kc n)))
  (hz : zeroB X.P e = some zv) (hE : ∀ s, E.C z zv.cells.toList s) (hsz : 0 < E.sz) (hb : by_ * n ≤ 281474976710656) (h63 : n ≤ 9223372036854775807) (hN : d < X.N)
  (next : ∀ b, J X ops Q rest ((d, sIs b 0 n n) :: Γ) (⟨b, e, Y5 E (List.replicate n z) n⟩ :: H)) : J X ops Q (⟨some d, .makeSlice t lx cx, ty, pos, af, none⟩ :: rest) Γ H := by
 intro a w hs
 unfold wpN
 rw [if_pos (V6 rfl _)]
 have h1 : a.eval lx = .int kl n := hl.ev (hs.on (T7 lx)) (fun _ h => h)
 have h2 : a.eval cx = .int kc n := hc.ev (hs.on (T7 cx)) (fun _ h => h)
 obtain ⟨hu, i, hi, hisz, hby⟩ := slB_spec ht
 have hzs : zv.cells.size = E.sz := by have := E.len (hE ⟨w, mask X.M0 H⟩); simpa using this
 unfold zeroB at hz
 rw [hi] at hz
 have hz' : i.zero = some zv := hz
 have hb' : (i.bytes : Int) * (n : Int) ≤ 281474976710656 := by
  have h : ((by_ * n : Nat) : Int) ≤ 281474976710656 := by omega
  rw [hby]; rwa [Int.natCast_mul] at h
 have hrun := run_make (P := X.P) w t e i zv hu hi hz' kl kc (n : Int) (n : Int) (by omega) (Int.le_refl _) hb' (by omega)
 have hrow : (Y5 E (List.replicate n z) n).p ((madeCells zv.cells (n * i.size)).toList) ⟨w, mask X.M0 H⟩ := by
  refine ⟨by simp, by simp [madeCells, hisz], fun j x hx => ?_⟩
  have hj : j < n := by have := (List.getElem?_eq_some_iff.1 hx).1; simpa using this
  have hxz : x = z := by
   rw [List.getElem?_replicate, if_pos hj] at hx
   exact (Option.some.inj hx).symm
  subst hxz
  have := made_row (zero := zv.cells) (n := n) j hj
  rw [hzs] at this
  simp only [madeCells, hisz, hzs]
  rw [this]
  exact hE _
 have ha := hs.alloc (t := e) hrow
 unfold Oper.wp
 have hr2 : (execOp a.eval ⟨some d, .makeSlice t lx cx, ty, pos, af, none⟩).run X.P w = .ok (.value (.slice (some ⟨w.heap.size, 0, none⟩) n n)) (w.alloc (.cells (madeCells zv.cells (n * i.size)).toList.toArray e)) := by
  simp only [Int.toNat_natCast] at hrun
  simp [execOp, h1, h2, hrun]
 rw [hr2]
 exact next _ _ _ (ha.put hN rfl)
inductive HRem (e : HEnt) : Hp → Hp → Prop
 | here {H : Hp} : HRem e (e :: H) H
 | there {e' : HEnt} {H H' : Hp} (h : HRem e H H') : HRem e (e' :: H) (e' :: H')
theorem HRem.mem {e : HEnt} {H H' : Hp} (h : HRem e H H') : e ∈ H := by
 induction h with
 | here => exact .head _
 | there _ ih => exact .tail _ ih
theorem HRem.sub {e : HEnt} {H H' : Hp} (h : HRem e H H') : HSub H H' := by
 induction h with
 | here => exact .drop (HSub.refl _)
 | there _ ih => exact .keep (fun _ _ h => h) ih
theorem HRem.ne {e : HEnt} {H H' : Hp} (h : HRem e H H') (hp : (H.map (·.b)).Pairwise (· ≠ ·)) : ∀ e' ∈ H', e'.b ≠ e.b := by
 induction h with
 | here => intro e' he' q; exact List.rel_of_pairwise_cons hp (List.mem_map.2 ⟨e', he', rfl⟩) q.symm
 | there h0 ih =>
  rename_i e0 H0 H1
  intro e' he'
  cases he' with
  | head => exact List.rel_of_pairwise_cons hp (List.mem_map.2 ⟨_, h0.mem, rfl⟩)
  | tail _ he' => exact ih hp.of_cons e' he'
def setTs (Γ : Gam) (T : Ty) : List Nat → Gam
 | [] => Γ
 | t :: ts => (t, T) :: setTs Γ T ts
theorem setTs_look {Γ : Gam} {T U : Ty} : ∀ {ts : List Nat} {i : Nat}, look (setTs Γ T ts) i = some U → (i ∈ ts ∧ U = T) ∨ look Γ i = some U
 | [], _, h => .inr h
 | t :: ts, i, h => by
  rw [setTs, T6] at h
  cases hb : Nat.beq t i with
  | true => rw [hb] at h; cases h; exact .inl ⟨by rw [R0.1 hb]; exact .head _, rfl⟩
  | false =>
   rw [hb] at h
   rcases setTs_look h with ⟨h1, h2⟩ | h1
   ·exact .inl ⟨.tail _ h1, h2⟩
   ·exact .inr h1
theorem sub_freeze {α : Type} {E : Enc α} {xs : List α} {b e cap c k n : Nat} {H' : Hp} (ts : List Nat) (hts : ∀ t ∈ ts, look Γ t = some (sIs b (k * E.sz) n c)) (hr : HRem ⟨b, e, Y5 E xs cap⟩ H H') (hn : k + n ≤ xs.length) (hc : n ≤ c ∨ cap ≤ c) :
  ∀ a w, Sat X Γ H a w → Sat X (setTs Γ (tSl E ((xs.drop k).take n)) ts) H' a w := fun a w hs => by
 have hs' := X3 hr.sub a w hs
 refine ⟨hs'.size, hs'.defers, hs'.m0, hs'.below, fun i U hU => ?_, hs'.hp⟩
 rcases setTs_look hU with ⟨hi, rfl⟩ | hU
 ·have hv : a.tmps.getD i undef = .slice (some ⟨b, k * E.sz, none⟩) n c := hs.slots i _ (hts i hi)
  obtain ⟨hb0, cs, hcs, h1, h2, h3⟩ := hs.hp.1 _ hr.mem
  have hnm : ¬ mask X.M0 H' b := by
   rintro (hm | ⟨e', he', hb⟩)
   ·have h4 := hs.m0 b hm
    have hb0' : X.w0.heap.size ≤ b ∨ b ∈ X.L := hb0
    rcases hb0' with q | q
    ·omega
    ·exact h4.2 q
   ·exact hr.ne hs.hp.2 e' he' hb
  refine ⟨some ⟨b, k * E.sz, none⟩, n, c, hv, by simp; omega, by omega, fun _ => ⟨b, k * E.sz, rfl, fun j x hx => ?_⟩⟩
  rw [List.getElem?_take] at hx
  split at hx
  ·rw [List.getElem?_drop] at hx
   refine ⟨_, E.up (mask_le fun e' he' => let ⟨e2, h4, h5, _⟩ := hr.sub.mem e' he'; ⟨e2, h4, h5⟩) (h3 _ x hx), fun m u hu => ⟨?_, hnm⟩⟩
   rw [List.getElem?_take] at hu
   split at hu
   ·rw [List.getElem?_drop] at hu
    have : k * E.sz + j * E.sz + m = (k + j) * E.sz + m := by rw [Nat.add_mul]
    have hcs' : w.heap[b]? = some (.cells cs e (0, 0)) := hcs
    simp only [World.cell?, hcs', this]
    simpa using hu
   ·cases hu
  ·cases hx
 ·exact hs'.slots i U hU
inductive PartsT (Γ : Gam) {α : Type} (E : Enc α) : Nat → List (Nat × Operand) → List α → Prop
 | nil {i : Nat} : PartsT Γ E i [] []
 | cons {i : Nat} {x : Operand} {z : α} {ps : List (Nat × Operand)} {zs : List α} (h : OpT Γ x (tV E z)) (hs : PartsT Γ E (i + 1) ps zs) : PartsT Γ E i ((i, x) :: ps) (z :: zs)
theorem PartsT.length {α : Type} {E : Enc α} {i : Nat} {ps : List (Nat × Operand)} {zs : List α} (h : PartsT Γ E i ps zs) : ps.length = zs.length := by
 induction h with
 | nil => rfl
 | cons _ _ ih => simp [ih]
theorem fold_set (v : List Value) : ∀ (k : Nat) (cs : List Value) (off : Nat), off + k + v.length ≤ cs.length →
  ((v.zipIdx k).foldl (fun (cs : Array Value) (p : Value × Nat) => cs.setIfInBounds (off + p.2) p.1) cs.toArray) = (cs.take (off + k) ++ v ++ cs.drop (off + k + v.length)).toArray := by
 induction v with
 | nil => intro k cs off _; simp
 | cons u v ih =>
  intro k cs off h
  simp only [List.length_cons] at h
  simp only [List.zipIdx_cons, List.foldl_cons, List.setIfInBounds_toArray]
  rw [ih (k + 1) (cs.set (off + k) u) off (by simp; omega)]
  congr 1
  have e1 : (cs.set (off + k) u).take (off + (k + 1)) = cs.take (off + k) ++ [u] := by
   rw [← Nat.add_assoc, List.take_succ_eq_append_getElem (by simp; omega)]
   rw [List.getElem_set_self]
   congr 1
   apply List.ext_getElem?
   intro j
   rw [List.getElem?_take, List.getElem?_take]
   split
   ·rw [List.getElem?_set_ne (by omega)]
   ·rfl
  have e2 : (cs.set (off + k) u).drop (off + (k + 1) + v.length) = cs.drop (off + k + (v.length + 1)) := by
   apply List.ext_getElem?
   intro j
   rw [List.getElem?_drop, List.getElem?_drop, List.getElem?_set_ne (by omega)]
   congr 1
   omega
  rw [e1, e2]
  simp
theorem fill_row {α : Type} {E : Enc α} {a : Act} {s : St} : ∀ {ps : List (Nat × Operand)} {zs : List α} {i : Nat}, PartsT Γ E i ps zs → (∀ x z, OpT Γ x (tV E z) → (∃ j, (j, x) ∈ ps) → (tV E z).p (a.eval x) s) → ∀ (cells : List Value) (n : Nat), cells.length = n * E.sz → i + ps.length ≤ n →
  ∃ out : List Value, Instr.fill (fun i => some (i * E.sz, E.sz)) cells.toArray (ps.map fun p => (p.1, a.eval p.2)) = some out.toArray ∧ out.length = n * E.sz ∧ (∀ j, j < i → (out.drop (j * E.sz)).take E.sz = (cells.drop (j * E.sz)).take E.sz) ∧ (∀ j z, zs[j]? = some z → E.C z ((out.drop ((i + j) * E.sz)).take E.sz) s) := by
 intro ps zs i h
 induction h with
 | nil => intro _ cells n hn _; exact ⟨cells, rfl, hn, fun _ _ => rfl, fun j z hz => by simp at hz⟩
 | cons h _ ih =>
  rename_i i x z ps zs _
  intro hev cells n hn hle
  simp only [List.length_cons] at hle
  have hv := hev x z h ⟨i, .head _⟩
  have hlen := E.len hv.2
  have hroom := row_room (show i < n by omega) hn
  have hsz : (a.eval x).cells.size = E.sz := by simpa using hlen
  have hset := fold_set (a.eval x).cells.toList 0 cells (i * E.sz) (by omega)
  rw [Nat.add_zero, hlen] at hset
  obtain ⟨out, h1, h2, h3, h4⟩ := ih (fun y q hq hm => hev y q hq (by obtain ⟨j, hj⟩ := hm; exact ⟨j, .tail _ hj⟩)) (cells.take (i * E.sz) ++ (a.eval x).cells.toList ++ cells.drop (i * E.sz + E.sz)) n (by simp [hlen] at *; omega) (by omega)
  refine ⟨out, ?_, h2, fun j hj => ?_, fun j q hq => ?_⟩
  ·simp only [List.map_cons, Instr.fill]
   rw [if_neg (by simp [hsz]; omega)]
   rw [← h1]
   congr 1
   have e := hset
   rw [← Array.foldl_toList]
   simp only [Array.toList_zipIdx]
   exact e
  ·rw [h3 j (by omega)]
   refine drop_take_splice hlen hroom (.inl ?_)
   have : (j + 1) * E.sz ≤ i * E.sz := Nat.mul_le_mul_right _ hj
   rw [Nat.add_mul] at this; omega
  ·cases j with
   | zero =>
    simp at hq; subst hq
    rw [Nat.add_zero, h3 i (by omega)]
    have : ((cells.take (i * E.sz) ++ (a.eval x).cells.toList ++ cells.drop (i * E.sz + E.sz)).drop (i * E.sz)).take E.sz = (a.eval x).cells.toList := by
     rw [List.append_assoc, List.drop_append_of_le_length (by simp; omega)]
     rw [List.drop_eq_nil_of_le (by simp; omega), List.nil_append, List.take_append_of_le_length (by omega), List.take_of_length_le (by omega)]
    rw [this]; exact hv.2
   | succ j =>
    have := h4 j q (by simpa using hq)
    rwa [show i + 1 + j = i + (j + 1) by omega] at this
theorem K6 {α : Type} {E : Enc α} {zs : List α} {t e by_ n : Nat} {ps : List (Nat × Operand)} {zv : Value} (ht : slB X.P t = some (e, E.sz, by_)) (hp : PartsT Γ E 0 ps zs) (hn : n = zs.length) (hz : zeroB X.P e = some zv) (hzs : zv.cells.size = E.sz) (hsz : 0 < E.sz) (hsm : n * E.sz ≤ 16777216) :
  R2 X Γ H ⟨dst, .buildSlice t n ps.toArray, ty, pos, af, gd⟩ (tSl E zs) :=
 V4 fun a w hs => by
  obtain ⟨hu, i, hi, hisz, hby⟩ := slB_spec ht
  unfold zeroB at hz
  rw [hi] at hz
  have hz' : i.zero = some zv := hz
  have hev : ∀ x z, OpT Γ x (tV E z) → (∃ j, (j, x) ∈ ps) → (tV E z).p (a.eval x) ⟨w, mask X.M0 H⟩ := fun x z hx hm => by
   obtain ⟨j, hj⟩ := hm
   exact hx.ev hs (Y1 (by simp [Op.operands]; exact ⟨j, hj⟩))
  have hlen := hp.length
  obtain ⟨out, h1, h2, _, h4⟩ := fill_row hp hev ((Array.range (n * E.sz)).map (zv.cells[· % zv.cells.size]!)).toList n (by simp) (by omega)
  have hnb : ∀ k, k < w.heap.size → (w.alloc (.cells out.toArray e)).heap[k]? = w.heap[k]? := fun k hk => Below.heap_alloc w _ k hk
  have hb : Below w.heap.size w (w.alloc (.cells out.toArray e)) := (Below.refl _ w).alloc (Nat.le_refl _) _
  refine ⟨.slice (some ⟨w.heap.size, 0, none⟩) n n, w.alloc (.cells out.toArray e), ?_, hb, _, n, n, rfl, hn, Nat.le_refl _, fun _ => ⟨w.heap.size, 0, rfl, fun j z hzj => ⟨_, E.up (Le.below _ hb) (h4 j z hzj), fun m u hu => ⟨?_, ?_⟩⟩⟩⟩
  ·have hg : ¬ 16777216 < n * E.sz := by omega
   simp only [execOp, Instr.buildSlice, Sem.run_bind, run_underlying hu, Result.andThen_ok, sizeOf, typeInfo, run_program, hi, Sem.run_pure, hisz, Sem.run_ite, if_neg hg, zeroValue, hz', newRow]
   have hfill : ∀ z : Array Value, (n * E.sz ≠ 0 → z = zv.cells) → Instr.fill (fun i => some (i * E.sz, E.sz)) ((Array.range (n * E.sz)).map (z[· % z.size]!)) (ps.map fun p => (p.1, a.eval p.2)) = some out.toArray := by
    intro z hz0
    rw [← h1]
    by_cases h0 : n * E.sz = 0
    ·rw [h0]; simp only [Array.range_zero', Array.map_empty]
    ·rw [hz0 h0]
   by_cases h0 : n * E.sz = 0
   ·rw [if_pos h0]
    have := hfill #[] (fun h => absurd h0 h)
    simp only [Sem.run_pure, Result.andThen_ok, List.map_toArray, this, Sem.run_bind]
    rfl
   ·rw [if_neg h0]
    have := hfill zv.cells (fun _ => rfl)
    simp only [Sem.run_bind, Sem.run_pure, run_program, Result.andThen_ok, hi, hz', List.map_toArray, this]
    rfl
  ·rw [Nat.zero_add] at *
   rw [List.getElem?_take] at hu
   split at hu
   ·rw [List.getElem?_drop] at hu
    simp only [World.cell?, heap_alloc_new]
    simpa using hu
   ·cases hu
  ·exact fun hm => absurd (mask_lt hs _ hm) (Nat.lt_irrefl _)
end Go.Rt
namespace Go.Rt
open Go Go.RowKit
variable {X : Cx} {ops : Array Oper} {Q : Exit → Act → World → Prop} {rest : List Oper} {Γ : Gam} {H : Hp}
variable {dst : Option Tmp} {ty : TypeId} {pos : String} {af : Array Edge} {gd : Option (Nat × Bool)} {o : Oper} {T T' : Ty}
theorem X9 (h : R2 X Γ H o T) (e : T = T') : R2 X Γ H o T' := e ▸ h
theorem Z7 {b o o' : Nat} (h : o = o') : X7 b o = X7 b o' := by rw [h]
theorem ot_max {x y : Operand} {k : IntKind} {a b : Int} {ats : Array TypeId} (hx : OpT Γ x (tIs (.int k a))) (hy : OpT Γ y (tIs (.int k b))) : R2 X Γ H ⟨dst, .call { callee := .builtin .max, args := #[x, y], argTypes := ats }, ty, pos, af, gd⟩ (tIs (.int k (max a b))) :=
 V4 fun s w hs => by
  have h1 : s.eval x = .int k a := hx.ev hs (Y1 (by simp [Op.operands, Call.operands]))
  have h2 : s.eval y = .int k b := hy.ev hs (Y1 (by simp [Op.operands, Call.operands]))
  refine ⟨.int k (max a b), w, ?_, Below.refl _ _, rfl⟩
  have e : (if b > a then b else a) = max a b := by rw [Int.max_def]; split <;> split <;> omega
  simp [execOp, resolve, invoke, builtin, Builtin.max_, Builtin.max2, h1, h2]
  exact e
theorem ot_min {x y : Operand} {k : IntKind} {a b : Int} {ats : Array TypeId} (hx : OpT Γ x (tIs (.int k a))) (hy : OpT Γ y (tIs (.int k b))) : R2 X Γ H ⟨dst, .call { callee := .builtin .min, args := #[x, y], argTypes := ats }, ty, pos, af, gd⟩ (tIs (.int k (min a b))) :=
 V4 fun s w hs => by
  have h1 : s.eval x = .int k a := hx.ev hs (Y1 (by simp [Op.operands, Call.operands]))
  have h2 : s.eval y = .int k b := hy.ev hs (Y1 (by simp [Op.operands, Call.operands]))
  refine ⟨.int k (min a b), w, ?_, Below.refl _ _, rfl⟩
  have e : (if b < a then b else a) = min a b := by rw [Int.min_def]; split <;> split <;> omega
  simp [execOp, resolve, invoke, builtin, Builtin.min_, Builtin.min2, h1, h2]
  exact e
theorem cellsP.get {s : St} : ∀ {Ts : List Ty} {cs : List Value} {i : Nat} {T : Ty}, cellsP Ts cs s → Ts[i]? = some T → ∃ v, cs[i]? = some v ∧ T.p v s
 | [], _, _, _, _, h => by simp at h
 | _ :: _, [], _, _, h, _ => h.elim
 | T0 :: Ts, v :: cs, 0, T, h, e => by simp at e; subst e; exact ⟨v, rfl, h.1⟩
 | T0 :: Ts, v :: cs, i + 1, T, h, e => by simpa using cellsP.get h.2.2 (by simpa using e)
theorem Z8 {Ts : List Ty} {i : Nat} {T : Ty} (h : Ts[i]? = some T) : ∀ cs s, (cTs Ts).p cs s → ∃ v, cs[i]? = some v ∧ T.p v s := fun _ _ hc => cellsP.get hc h
theorem ld_whole {α : Type} {E : Enc α} {x : α} (hE : E.ag = true := by rfl) : ∀ cs s, (cEnc E x).p cs s → 0 + E.sz ≤ cs.length ∧ (tV E x).p (.agg ((cs.drop 0).take E.sz).toArray) s := fun cs s h => by
 have hl := E.len h
 refine ⟨by omega, hE.symm, ?_⟩
 have h' : E.C x cs s := h
 simp only [Value.cells, List.drop_zero]
 rw [List.take_of_length_le (by omega)]
 exact h'
theorem V0 {α : Type} {E : Enc α} {x : α} (hE : E.ag = true := by rfl) : ∀ cs s, (cEnc E x).p cs s → E.sz ≤ cs.length ∧ (tV E x).p (.agg (cs.take E.sz).toArray) s := fun cs s h => by
 have h1 := ld_whole hE cs s h
 simpa using h1
def cDrop (R : CTy) (n : Nat) : CTy := ⟨fun cs s => ∃ ds, R.p ds s ∧ cs = ds.drop n, fun hl ⟨ds, h, e⟩ => ⟨ds, R.up hl h, e⟩⟩
theorem cDrop_mk {R : CTy} {n : Nat} {cs : List Value} {s : St} (h : R.p cs s) : (cDrop R n).p (cs.drop n) s := ⟨cs, h, rfl⟩
theorem one_is {u : Value} (h1 : u.cells = #[u]) (h2 : u.oneCell' = true) : ∀ v s, (tIs u).p v s → Value.cells v = #[v] ∧ v.oneCell' = true := fun v s h => by
 have h' : v = u := h
 subst h'; exact ⟨h1, h2⟩
theorem one_sl {α : Type} {E : Enc α} {xs : List α} : ∀ v s, (tSl E xs).p v s → Value.cells v = #[v] ∧ v.oneCell' = true := fun v s h => by
 obtain ⟨A, n, c, rfl, _⟩ := h
 exact ⟨rfl, rfl⟩
theorem cellsP.set {s : St} {T : Ty} {v : Value} (hv : T.p v s) (h1 : v.oneCell' = true) : ∀ {Ts : List Ty} {cs : List Value} {i : Nat}, cellsP Ts cs s → i < Ts.length → cellsP (Ts.set i T) (cs.take i ++ [v] ++ cs.drop (i + 1)) s
 | [], _, _, _, h => by simp at h
 | _ :: _, [], _, h, _ => h.elim
 | T0 :: Ts, u :: cs, 0, h, _ => by simpa [cellsP] using ⟨hv, h1, h.2.2⟩
 | T0 :: Ts, u :: cs, i + 1, h, hi => by
  have := cellsP.set hv h1 h.2.2 (i := i) (by simpa using hi)
  rw [List.append_assoc] at this
  simpa [cellsP] using ⟨h.1, h.2.1, this⟩
theorem st_cell {Ts Ts' : List Ty} {o : Nat} {T : Ty} (h1 : ∀ v s, T.p v s → Value.cells v = #[v] ∧ v.oneCell' = true) (hT : Ts' = Ts.set o T) (ho : Nat.blt o Ts.length = true := by rfl) : ∀ cs v s, (cTs Ts).p cs s → T.p v s →
  v.cells.size = 1 ∧ o + 1 ≤ cs.length ∧ (∀ u ∈ v.cells.toList, u.oneCell' = true) ∧ (cTs Ts').p (cs.take o ++ v.cells.toList ++ cs.drop (o + 1)) s := fun cs v s h hv => by
 obtain ⟨e1, e2⟩ := h1 v s hv
 have hc := cellsP.length h
 have ho' := nat_blt.1 ho
 rw [e1]
 refine ⟨rfl, by omega, by simpa using e2, ?_⟩
 subst hT
 exact cellsP.set hv e2 h ho'
def X8 : Enc Nat := { sz := 1, ag := false, C := fun n cs _ => cs = [.int .u32 n] ∧ n < 4294967296, up := fun _ h => h, len := fun h => by rw [h.1]; rfl, one := fun h => by rw [h.1]; simp [Value.oneCell'] }
theorem encD_out {n : Nat} : ∀ v s, (tV X8 n).p v s → (tIs (.int .u32 n)).p v s := fun v s h => by
 obtain ⟨h1, h2, _⟩ := h
 cases v <;> first | (simp [Value.cells] at h2; done) | skip
 ·simp [Value.cells] at h2; obtain ⟨rfl, rfl⟩ := h2; rfl
 ·simp [Value.isAgg, X8] at h1
theorem encD_ld {n : Nat} : ∀ cs s, (cEnc X8 n).p cs s → ∃ v, cs[0]? = some v ∧ (tIs (.int .u32 n)).p v s := fun cs s h => by
 obtain ⟨h1, _⟩ := h
 exact ⟨_, by rw [h1]; rfl, rfl⟩
theorem encD_row {xs : List Nat} {cap i n : Nat} (hx : xs[i]? = some n) : ∀ cs s, (Y5 X8 xs cap).p cs s → ∃ v, cs[0 + i * 1]? = some v ∧ (tIs (.int .u32 n)).p v s := fun cs s h => by
 obtain ⟨v, h1, h2⟩ := row_scal (E := X8) (x := n) rfl (fun v s h => ⟨by obtain ⟨h, _⟩ := h; simp at h; subst h; rfl, by obtain ⟨h, h'⟩ := h; simp at h; subst h; exact ⟨rfl, h'⟩⟩) hx cs s h
 exact ⟨v, h1, encD_out v s h2⟩
theorem encD_zero {s : St} : X8.C 0 (Value.int .u32 0).cells.toList s := ⟨rfl, by decide⟩
theorem slP_encD {ds : List Nat} {v : Value} {s : St} (h : slP X8 ds v s) : ∀ d ∈ ds, d < 4294967296 := fun d hd => by
 obtain ⟨A, n, c, _, _, _, hh⟩ := h
 obtain ⟨i, hi⟩ := List.mem_iff_getElem?.1 hd
 obtain ⟨b, o, _, hc⟩ := hh (by intro e; subst e; simp at hi)
 obtain ⟨cs, hC, _⟩ := hc i d hi
 exact hC.2
theorem Ctr.know {P : Program} {f : FuncId} {Ts : List Ty} {T : Ty} {φ : Prop} (i : Nat) {Ti : Ty} (hi : Ts[i]? = some Ti) (h : ∀ v s, Ti.p v s → φ) (hc : φ → Ctr P f Ts T) : Ctr P f Ts T := by
 intro w0 M0 hM vs hvs
 have key : ∀ {Ts : List Ty} {vs : List Value} (i : Nat), vsP Ts vs ⟨w0, M0⟩ → Ts[i]? = some Ti → φ := by
  intro Ts
  induction Ts with
  | nil => intro vs i _ h; simp at h
  | cons T0 Ts ih =>
   intro vs i hv hi
   cases vs with
   | nil => exact hv.elim
   | cons v vs =>
    cases i with
    | zero => simp at hi; subst hi; exact h _ _ hv.1
    | succ i => exact ih i hv.2 (by simpa using hi)
 exact hc (key i hvs hi) w0 M0 hM vs hvs
theorem digAt {xs : List Nat} {i : Int} {j : Nat} (h1 : i.toNat = j) (h2 : j < xs.length) : xs[i.toNat]? = some (xs.getD j 0) := by
 subst h1
 simp [List.getD_eq_getElem?_getD, List.getElem?_eq_getElem h2]
end Go.Rt
namespace Go.Rt
open Go Go.RowKit
variable {X : Cx} {ops : Array Oper} {Q : Exit → Act → World → Prop} {rest : List Oper} {Γ : Gam} {H : Hp}
variable {dst : Option Tmp} {ty : TypeId} {pos : String} {af : Array Edge} {gd : Option (Nat × Bool)} {o : Oper} {T T' : Ty}
theorem ot_slice_own {b o n c t e sz by_ : Nat} {x : Operand} {lo hi : Option Operand} {l h : Nat} {kl kh : IntKind} (hx : OpT Γ x (sIs b o n c)) (ht : slB X.P t = some (e, sz, by_))
  (hlo : match lo with | some y => OpT Γ y (tIs (.int kl l)) | none => l = 0) (hhi : match hi with | some y => OpT Γ y (tIs (.int kh h)) | none => h = n) (h1 : l ≤ h) (h2 : h ≤ c) (h3 : l < c ∨ l = 0) :
  R2 X Γ H ⟨dst, .slice t x lo hi none, ty, pos, af, gd⟩ (sIs b (o + l * sz) (h - l) (c - l)) :=
 V4 fun a w hs => by
  have he : a.eval x = .slice (some ⟨b, o, none⟩) n c := hx.ev hs (Y1 (by simp [Op.operands]))
  obtain ⟨hu, i, hi', hsz, _⟩ := slB_spec ht
  have hel : lo.map a.eval = if lo.isSome then some (.int kl l) else none := by
   cases lo with
   | none => rfl
   | some y => exact congrArg some (hlo.ev hs (Y1 (by simp [Op.operands])))
  have heh : hi.map a.eval = if hi.isSome then some (.int kh h) else none := by
   cases hi with
   | none => rfl
   | some y => exact congrArg some (hhi.ev hs (Y1 (by simp [Op.operands])))
  have hadr : (if c = l then (⟨b, o, none⟩ : Addr) else (⟨b, o, none⟩ : Addr).add (l * sz)) = ⟨b, o + l * sz, none⟩ := by
   split
   ·rcases h3 with q | q
    ·omega
    ·subst q; simp
   ·rw [add_at]
  refine ⟨.slice (some ⟨b, o + l * sz, none⟩) (h - l) (c - l), w, ?_, Below.refl _ _, rfl⟩
  rw [← hadr]
  simp only [execOp, Instr.sliceAt, Sem.run_bind, run_underlying hu, Result.andThen_ok, Instr.slice, he, hel, heh]
  have h4 : (if c = l then (some (⟨b, o, none⟩ : Addr)) else (some (⟨b, o, none⟩ : Addr)).map (·.add (l * sz))) = some (if c = l then (⟨b, o, none⟩ : Addr) else (⟨b, o, none⟩ : Addr).add (l * sz)) := by split <;> rfl
  cases lo with
  | none =>
   cases hi with
   | none => dsimp only at hlo hhi; subst hlo hhi; simp [Instr.sliceBounds, sizeOf, typeInfo, hi', hsz] at h4 ⊢; exact h4
   | some y => dsimp only at hlo; subst hlo; simp [Instr.sliceBounds, Instr.sliceBound, asIntOf, h2, sizeOf, typeInfo, hi', hsz] at h4 ⊢; exact h4
  | some z =>
   cases hi with
   | none => dsimp only at hhi; subst hhi; simp [Instr.sliceBounds, Instr.sliceBound, asIntOf, h1, sizeOf, typeInfo, hi', hsz] at h4 ⊢; exact h4
   | some y => simp [Instr.sliceBounds, Instr.sliceBound, asIntOf, h1, h2, sizeOf, typeInfo, hi', hsz] at h4 ⊢; exact h4
theorem ot_slice3 {α : Type} {E : Enc α} {xs : List α} {t e by_ : Nat} {x y z : Operand} {h m : Nat} {kh km : IntKind} (hx : OpT Γ x (tSl E xs)) (ht : slB X.P t = some (e, E.sz, by_))
  (hh : OpT Γ y (tIs (.int kh h))) (hm : OpT Γ z (tIs (.int km m))) (h1 : h ≤ m) (h2 : m ≤ xs.length) :
  R2 X Γ H ⟨dst, .slice t x none (some y) (some z), ty, pos, af, gd⟩ (tSl E (xs.take h)) :=
 V4 fun a w hs => by
  obtain ⟨A, n, c, he, rfl, hc, hcell⟩ := hx.ev hs (Y1 (by simp [Op.operands]))
  obtain ⟨hu, i, hi', hsz, _⟩ := slB_spec ht
  have e1 : a.eval y = .int kh h := hh.ev hs (Y1 (by simp [Op.operands]))
  have e2 : a.eval z = .int km m := hm.ev hs (Y1 (by simp [Op.operands]))
  have h3 : m ≤ c := by omega
  refine ⟨.slice A h m, w, ?_, Below.refl _ _, A, h, m, rfl, by simp; omega, h1, fun hne => ?_⟩
  ·have hA : A.map (·.add 0) = A := by cases A <;> simp [Addr.add]
   simp [execOp, Instr.sliceAt, run_underlying hu, Instr.slice, he, e1, e2, Instr.sliceBounds, Instr.sliceBound, asIntOf, h1, h3, sizeOf, typeInfo, hi', hsz]
   intro _; exact hA
  ·obtain ⟨b, o, h5, h6⟩ := hcell (by intro q; subst q; simp at hne)
   refine ⟨b, o, h5, fun j x hx => ?_⟩
   rw [List.getElem?_take] at hx
   split at hx
   ·exact h6 j x hx
   ·cases hx
def tZ : Ty := ⟨fun v _ => ∃ A, v = .slice A 0 0, fun _ h => h⟩
theorem OpT.z : OpT Γ (.const (.slice none 0 0)) tZ := .const fun _ => ⟨none, rfl⟩
theorem ot_slice00 {α : Type} {E : Enc α} {xs : List α} {t e by_ : Nat} {x y z : Operand} {kh km : IntKind} (hx : OpT Γ x (tSl E xs)) (ht : slB X.P t = some (e, E.sz, by_))
  (hh : OpT Γ y (tIs (.int kh 0))) (hm : OpT Γ z (tIs (.int km 0))) :
  R2 X Γ H ⟨dst, .slice t x none (some y) (some z), ty, pos, af, gd⟩ tZ :=
 V4 fun a w hs => by
  obtain ⟨A, n, c, he, rfl, hc, hcell⟩ := hx.ev hs (Y1 (by simp [Op.operands]))
  obtain ⟨hu, i, hi', hsz, _⟩ := slB_spec ht
  have e1 : a.eval y = .int kh 0 := hh.ev hs (Y1 (by simp [Op.operands]))
  have e2 : a.eval z = .int km 0 := hm.ev hs (Y1 (by simp [Op.operands]))
  refine ⟨.slice A 0 0, w, ?_, Below.refl _ _, A, rfl⟩
  simp [execOp, Instr.sliceAt, run_underlying hu, Instr.slice, he, e1, e2, Instr.sliceBounds, Instr.sliceBound, asIntOf, sizeOf, typeInfo, hi', hsz]
theorem slP_cells {α : Type} {E : Enc α} {s : St} {b : Nat} : ∀ (xs : List α) (o : Nat), (∀ i x, xs[i]? = some x → ∃ cs, E.C x cs s ∧ ∀ j u, cs[j]? = some u → s.cell b (o + i * E.sz + j) u) →
  ∃ news : List Value, news.length = xs.length * E.sz ∧ (∀ j u, news[j]? = some u → s.cell b (o + j) u) ∧ (∀ i x, xs[i]? = some x → E.C x ((news.drop (i * E.sz)).take E.sz) s) ∧ ∀ u ∈ news, u.oneCell' = true
 | [], _, _ => ⟨[], by simp, by simp, by simp, by simp⟩
 | x :: xs, o, h => by
  obtain ⟨cs, h1, h2⟩ := h 0 x rfl
  have hl := E.len h1
  obtain ⟨news, h3, h4, h5, h6⟩ := slP_cells (b := b) xs (o + E.sz) (fun i y hy => by
   obtain ⟨ds, h7, h8⟩ := h (i + 1) y (by simpa using hy)
   refine ⟨ds, h7, fun j u hu => ?_⟩
   have := h8 j u hu
   rw [Nat.add_mul, Nat.one_mul] at this
   rw [show o + E.sz + i * E.sz + j = o + (i * E.sz + E.sz) + j by omega]
   exact this)
  refine ⟨cs ++ news, by simp [hl, h3, Nat.add_mul]; omega, fun j u hu => ?_, fun i y hy => ?_, fun u hu => ?_⟩
  ·rcases Nat.lt_or_ge j cs.length with q | q
   ·rw [List.getElem?_append_left q] at hu
    have := h2 j u hu
    simpa using this
   ·rw [List.getElem?_append_right q] at hu
    have := h4 _ u hu
    rwa [show o + E.sz + (j - cs.length) = o + j by omega] at this
  ·cases i with
   | zero =>
    simp at hy; subst hy
    rw [Nat.zero_mul, List.drop_zero, List.take_append_of_le_length (by omega), List.take_of_length_le (by omega)]
    exact h1
   | succ i =>
    have := h5 i y (by simpa using hy)
    rw [Nat.add_mul, Nat.one_mul, show i * E.sz + E.sz = cs.length + i * E.sz by omega, List.drop_length_add_append]
    exact this
  ·rcases List.mem_append.1 hu with hu | hu
   ·exact E.one h1 u hu
   ·exact h6 u hu
theorem zeroCells_size (z : Array Value) (n : Nat) : (Builtin.zeroCells z n).size = n * z.size := by simp [Builtin.zeroCells]
theorem rowP_mk {α : Type} {E : Enc α} {xs : List α} {cap : Nat} {news more : List Value} {s : St} (h1 : news.length = xs.length * E.sz) (h2 : news.length + more.length = cap * E.sz) (h3 : xs.length ≤ cap)
  (h4 : ∀ i x, xs[i]? = some x → E.C x ((news.drop (i * E.sz)).take E.sz) s) : (Y5 E xs cap).p (news ++ more) s := by
 refine ⟨h3, by simpa using h2, fun i x hx => ?_⟩
 have hi := (List.getElem?_eq_some_iff.1 hx).1
 have hr := row_room hi h1
 rw [List.drop_append_of_le_length (by omega), List.take_append_of_le_length (by simp; omega)]
 exact h4 i x hx
theorem run_append_z {P : Program} {w : World} {t ty e : TypeId} {i : TypeInfo} {zv : Value} {sz by_ : Nat} (hu : P.underlying t = some (.slice e)) (hi : P.info? e = some i) (hz : i.zero = some zv) (hsz : i.size = sz) (hby : i.bytes = by_) (hzs : zv.cells.size = sz)
  (A : Option Addr) (a : Addr) (n c : Nat) (news : List Value) (hl : news.length = n * sz) (hnews : ∀ j v, news[j]? = some v → w.cell? (a.add j) = some v) (h0 : 0 < n) (hb : n * by_ ≤ 140737488355328) (h63 : n ≤ 9223372036854775807) :
  ∃ cap more, (Builtin.append_ #[t, t] ty #[.slice A 0 0, .slice (some a) n c]).run P w = .ok (.slice (some ⟨w.heap.size, 0, none⟩) n cap) (w.drew.alloc (.cells (news ++ more).toArray e)) ∧ n ≤ cap ∧ news.length + more.length = cap * sz := by
 have hge := grownCap_ge w n 0 e
 refine ⟨grownCap w n 0 e, (Builtin.zeroCells zv.cells (grownCap w n 0 e - n)).toList, ?_, hge, ?_⟩
 ·cases A with
  | none =>
   have hr := run_append_nil (P := P) w t ty e i zv hu hi hz a n c news (by rw [hl, hsz]) hnews h0 (by omega) (by rw [hby]; omega)
   rw [hr]
   congr 3
   apply Array.ext'
   simp
  | some b =>
   have hr := run_append_grow (P := P) w t ty e i zv hu hi hz b 0 0 [] (by simp) (by simp) a n c news (by rw [hl, hsz]) hnews (by omega) (by omega) (growslice_fits (by omega) (by rw [hby, Nat.zero_add]; omega))
   simp only [Nat.zero_add] at hr
   rw [hr]
   congr 3
   apply Array.ext'
   simp
 ·simp [zeroCells_size, hl, hzs, ← Nat.add_mul]
  congr 1; omega
theorem run_append_none {P : Program} {w : World} {t ty e : TypeId} {i : TypeInfo} (hu : P.underlying t = some (.slice e)) (hi : P.info? e = some i) (A B : Option Addr) (n m c : Nat) (hn : n ≤ m) :
  (Builtin.append_ #[t, t] ty #[.slice A n m, .slice B 0 c]).run P w = .ok (.slice A n m) w := by
 have hfc : (Builtin.firstCells i.size 0 (.slice B 0 c)).run P w = .ok #[] w := by
  cases B <;> simp [Builtin.firstCells, loadCells, loadCellsFrom]
 cases A with
 | none => simp [Builtin.append_, run_underlying hu, sizeOf, typeInfo, hi, Builtin.lenOf, hn, hfc]
 | some a => simp [Builtin.append_, run_underlying hu, sizeOf, typeInfo, hi, Builtin.lenOf, hn, hfc, storeCells]
theorem ot_append0 {α : Type} {E : Enc α} {xs : List α} {t e by_ : Nat} {x y : Operand} {zv : Value} {ats : Array TypeId} (hx : OpT Γ x tZ) (hy : OpT Γ y (tSl E xs)) (ht : slB X.P t = some (e, E.sz, by_)) (ha : ats = #[t, t]) (hz : zeroB X.P e = some zv) (hzs : zv.cells.size = E.sz)
  (hb : xs.length * by_ ≤ 140737488355328) (h63 : xs.length ≤ 9223372036854775807) : R2 X Γ H ⟨dst, .call { callee := .builtin .append, args := #[x, y], argTypes := ats }, ty, pos, af, gd⟩ (tSl E xs) :=
 V4 fun a w hs => by
  subst ha
  obtain ⟨A, h1⟩ := hx.ev hs (Y1 (by simp [Op.operands, Call.operands]))
  obtain ⟨B, n, c, h2, rfl, hc, hcell⟩ := hy.ev hs (Y1 (by simp [Op.operands, Call.operands]))
  obtain ⟨hu, i, hi, hsz, hby⟩ := slB_spec ht
  unfold zeroB at hz
  rw [hi] at hz
  have hz' : i.zero = some zv := hz
  by_cases h0 : xs = []
  ·subst h0
   refine ⟨.slice A 0 0, w, ?_, Below.refl _ _, A, 0, 0, rfl, rfl, Nat.le_refl _, fun h => absurd rfl h⟩
   simp only [List.length_nil] at h2
   simp only [execOp, resolve, invoke, builtin, Sem.run_bind, Sem.run_pure, Result.andThen_ok, List.map_toArray, List.map_cons, List.map_nil, h1, h2, run_append_none hu hi A B 0 0 c (Nat.le_refl _)]
  ·obtain ⟨b, o, rfl, hcs⟩ := hcell h0
   obtain ⟨news, h3, h4, h5, h6⟩ := slP_cells xs o hcs
   have hpos : 0 < xs.length := by cases xs with | nil => exact absurd rfl h0 | cons _ _ => simp
   obtain ⟨cap, more, hr, h7, h8⟩ := run_append_z (w := w) (ty := ty) hu hi hz' hsz hby hzs A ⟨b, o, none⟩ xs.length c news h3 (fun j v hv => by rw [add_at]; exact (h4 j v hv).1) hpos hb h63
   have hbl : Below w.heap.size w (w.drew.alloc (.cells (news ++ more).toArray e)) := (Below.refl _ w).drew.alloc (Nat.le_refl _) _
   refine ⟨_, _, ?_, hbl, some ⟨w.heap.size, 0, none⟩, xs.length, cap, rfl, rfl, h7, fun _ => ⟨w.heap.size, 0, rfl, fun j x hx => ?_⟩⟩
   ·simp only [execOp, resolve, invoke, builtin, Sem.run_bind, Sem.run_pure, Result.andThen_ok, List.map_toArray, List.map_cons, List.map_nil, h1, h2, hr]
   ·refine ⟨_, E.up (Le.below _ hbl) (h5 j x hx), fun k u hu => ⟨?_, fun hm => absurd (mask_lt hs _ hm) (Nat.lt_irrefl _)⟩⟩
    have hj := (List.getElem?_eq_some_iff.1 hx).1
    have hrm := row_room hj h3
    rw [List.getElem?_take] at hu
    split at hu
    ·rename_i hk
     rw [List.getElem?_drop] at hu
     have : (w.drew.alloc (.cells (news ++ more).toArray e)).heap[w.heap.size]? = some (.cells (news ++ more).toArray e) := heap_alloc_new w.drew _
     simp only [World.cell?, this]
     simp only [Option.isSome_none, Bool.false_eq_true, if_false, List.getElem?_toArray, Nat.zero_add]
     rw [List.getElem?_append_left (by omega)]
     exact hu
    ·cases hu
theorem Sat.front {e : HEnt} {H' : Hp} {a : Act} {w : World} (hr : HRem e H H') (h : Sat X Γ H a w) : Sat X Γ (e :: H') a w := by
 have hmem : ∀ e' ∈ e :: H', e' ∈ H := fun e' he' => by
  cases he' with
  | head => exact hr.mem
  | tail _ he' =>
   have key : ∀ {H H' : Hp}, HRem e H H' → ∀ e' ∈ H', e' ∈ H := by
    intro H H' hr
    induction hr with
    | here => intro e' h; exact .tail _ h
    | there _ ih => intro e' h; cases h with
     | head => exact .head _
     | tail _ h => exact .tail _ (ih e' h)
   exact key hr e' he'
 have hm : Le ⟨w, mask X.M0 H⟩ ⟨w, mask X.M0 (e :: H')⟩ := mask_le fun e' he' => ⟨e', hmem e' he', rfl⟩
 refine ⟨h.size, h.defers, h.m0, h.below, fun i T hi => T.up hm (h.slots i T hi), fun e' he' => ?_, ?_⟩
 ·obtain ⟨h1, cs, h2, h3⟩ := h.hp.1 e' (hmem e' he')
  exact ⟨h1, cs, h2, e'.R.up hm h3⟩
 ·refine List.Pairwise.cons (fun b hb => ?_) (h.hp.2.sublist hr.sub.sublist)
  obtain ⟨e', he', rfl⟩ := List.mem_map.1 hb
  exact Ne.symm (hr.ne h.hp.2 e' he')
theorem row_append {α : Type} {E : Enc α} {xs ys : List α} {cap : Nat} {cur news : List Value} {s : St} (hc : (Y5 E xs cap).p cur s) (hl : news.length = ys.length * E.sz) (hn : ∀ i x, ys[i]? = some x → E.C x ((news.drop (i * E.sz)).take E.sz) s) :
  ∀ i x, (xs ++ ys)[i]? = some x → E.C x (((cur.take (xs.length * E.sz) ++ news).drop (i * E.sz)).take E.sz) s := by
 intro i x hx
 obtain ⟨h1, h2, h3⟩ := hc
 have hle : xs.length * E.sz ≤ cur.length := by rw [h2]; exact Nat.mul_le_mul_right _ h1
 rcases Nat.lt_or_ge i xs.length with q | q
 ·rw [List.getElem?_append_left q] at hx
  have hr := row_room q (l := xs.length * E.sz) rfl
  rw [List.drop_append_of_le_length (by simp; omega), List.take_append_of_le_length (by simp; omega)]
  have := h3 i x hx
  rw [List.drop_take, List.take_take, Nat.min_eq_left (by omega)]
  exact this
 ·rw [List.getElem?_append_right q] at hx
  have := hn _ x hx
  have e : i * E.sz = (cur.take (xs.length * E.sz)).length + (i - xs.length) * E.sz := by
   rw [List.length_take, Nat.min_eq_left hle, ← Nat.add_mul]; congr 1; omega
  rw [e, List.drop_length_add_append]
  exact this
theorem J.append {α : Type} {E : Enc α} {xs ys : List α} {d t e by_ b n c : Nat} {x y : Operand} {zv : Value} {ats : Array TypeId} {H' : Hp} (hx : OpT Γ x (sIs b 0 n c)) (hn : n = xs.length) (hy : OpT Γ y (tSl E ys)) (ht : slB X.P t = some (e, E.sz, by_)) (ha : ats = #[t, t])
  (hz : zeroB X.P e = some zv) (hzs : zv.cells.size = E.sz) (hr : HRem ⟨b, e, Y5 E xs c⟩ H H') (hb : (xs.length + ys.length) * by_ ≤ 140737488355328) (h63 : xs.length + ys.length ≤ 9223372036854775807) (hN : d < X.N)
  (next : ∀ b' c', J X ops Q rest ((d, sIs b' 0 (xs ++ ys).length c') :: Γ) (⟨b', e, Y5 E (xs ++ ys) c'⟩ :: H')) :
  J X ops Q (⟨some d, .call { callee := .builtin .append, args := #[x, y], argTypes := ats }, ty, pos, af, none⟩ :: rest) Γ H := by
 intro a w hs0
 have hs := hs0.front hr
 unfold wpN
 rw [if_pos (V6 rfl _)]
 subst ha hn
 have h1 : a.eval x = .slice (some ⟨b, 0, none⟩) xs.length c := hx.ev (hs.on (T7 x)) (fun _ h => h)
 obtain ⟨B, n, cB, h2, rfl, hcB, hcell⟩ := hy.ev (hs.on (T7 y)) (fun _ h => h)
 obtain ⟨hu, i, hi, hsz, hby⟩ := slB_spec ht
 unfold zeroB at hz
 rw [hi] at hz
 have hz' : i.zero = some zv := hz
 obtain ⟨hb0, cur, hcur, hrow⟩ := hs.hp.1 _ (.head _)
 have hcur' : w.heap[b]? = some (.cells cur e (0, 0)) := hcur
 obtain ⟨g1, g2, g3⟩ := hrow
 have hlb : b < w.heap.size := (Array.getElem?_eq_some_iff.1 hcur').1
 have hxle : xs.length * E.sz ≤ cur.toList.length := by rw [g2]; exact Nat.mul_le_mul_right _ g1
 unfold Oper.wp
 by_cases h0 : ys = []
 ·subst h0
  have hr0 : (execOp a.eval ⟨some d, .call { callee := .builtin .append, args := #[x, y], argTypes := #[t, t] }, ty, pos, af, none⟩).run X.P w = .ok (.value (.slice (some ⟨b, 0, none⟩) xs.length c)) w := by
   simp only [List.length_nil] at h2
   simp only [execOp, resolve, invoke, builtin, Sem.run_bind, Sem.run_pure, Result.andThen_ok, List.map_toArray, List.map_cons, List.map_nil, h1, h2, run_append_none hu hi _ B _ _ cB g1]
  rw [hr0]
  have hx0 : xs ++ ([] : List α) = xs := List.append_nil xs
  have := next b c
  rw [hx0] at this
  exact this _ _ (hs.put hN rfl)
 ·obtain ⟨bb, o, rfl, hcs⟩ := hcell h0
  obtain ⟨news, h3, h4, h5, h6⟩ := slP_cells ys o hcs
  have hpos : 0 < ys.length := by cases ys with | nil => exact absurd rfl h0 | cons _ _ => simp
  have hnews : ∀ j v, news[j]? = some v → w.cell? ((⟨bb, o, none⟩ : Addr).add j) = some v := fun j v hv => by rw [add_at]; exact (h4 j v hv).1
  -- the row as it will read, in the world at hand
  have hnew := row_append (s := ⟨w, mask X.M0 (⟨b, e, Y5 E xs c⟩ :: H')⟩) ⟨g1, g2, g3⟩ h3 h5
  by_cases hroom : xs.length + ys.length ≤ c
  ·have hfit : xs.length * i.size + news.length ≤ cur.size := by
    rw [hsz, h3, ← Nat.add_mul]
    have : cur.size = c * E.sz := by simpa using g2
    rw [this]; exact Nat.mul_le_mul_right _ hroom
   have hrun := run_append_room (P := X.P) w t ty e i hu hi b xs.length c cur hcur' ⟨bb, o, none⟩ ys.length cB news (by rw [h3, hsz]) hnews h6 hroom hfit
   have hr0 : (execOp a.eval ⟨some d, .call { callee := .builtin .append, args := #[x, y], argTypes := #[t, t] }, ty, pos, af, none⟩).run X.P w = .ok (.value (.slice (some ⟨b, 0, none⟩) (xs.length + ys.length) c)) (w.setRow b (cur.toList.take (xs.length * i.size) ++ news ++ cur.toList.drop (xs.length * i.size + news.length)).toArray) := by
    simp only [execOp, resolve, invoke, builtin, Sem.run_bind, Sem.run_pure, Result.andThen_ok, List.map_toArray, List.map_cons, List.map_nil, h1, h2, hrun]
   rw [hr0]
   have hw := wrote_setRow hcur' rfl (cur.toList.take (xs.length * i.size) ++ news ++ cur.toList.drop (xs.length * i.size + news.length))
   have hcr : (Y5 E (xs ++ ys) c).p (cur.toList.take (xs.length * i.size) ++ news ++ cur.toList.drop (xs.length * i.size + news.length)) ⟨w, mask X.M0 (⟨b, e, Y5 E xs c⟩ :: H')⟩ := by
    rw [hsz]
    have hcs : cur.size = c * E.sz := by simpa using g2
    have q : (xs.length + ys.length) * E.sz ≤ c * E.sz := Nat.mul_le_mul_right _ hroom
    rw [Nat.add_mul] at q
    have l1 : (cur.toList.take (xs.length * E.sz) ++ news).length = (xs ++ ys).length * E.sz := by
     simp only [List.length_append, List.length_take, Array.length_toList, h3, Nat.add_mul]; omega
    have l2 : (cur.toList.take (xs.length * E.sz) ++ news).length + (cur.toList.drop (xs.length * E.sz + news.length)).length = c * E.sz := by
     rw [l1]; simp only [List.length_append, List.length_drop, Array.length_toList, h3, Nat.add_mul]; omega
    exact rowP_mk l1 l2 (by simpa using hroom) hnew
   have hle : Le ⟨w, mask X.M0 (⟨b, e, Y5 E xs c⟩ :: H')⟩ ⟨w.setRow b (cur.toList.take (xs.length * i.size) ++ news ++ cur.toList.drop (xs.length * i.size + news.length)).toArray, mask X.M0 (⟨b, e, Y5 E xs c⟩ :: H')⟩ :=
    ⟨hw.size, fun k hks hk => hw.other k hks (fun q => hk (q ▸ .inr ⟨_, .head _, rfl⟩)), fun k _ hk => hk⟩
   have hs2 := hs.write (.here (R' := Y5 E (xs ++ ys) c)) hw ((Y5 E (xs ++ ys) c).up hle hcr)
   have := next b c
   exact this _ _ (hs2.put hN (by simp [tIs]))
  ·have hrun := run_append_grow (P := X.P) w t ty e i zv hu hi hz' ⟨b, 0, none⟩ xs.length c (cur.toList.take (xs.length * E.sz)) (by rw [hsz]; simp at hxle ⊢; omega) (fun j v hv => by
     rw [add_at]
     rw [List.getElem?_take] at hv
     split at hv
     ·simp only [World.cell?, hcur', Nat.zero_add]
      simpa using hv
     ·cases hv) ⟨bb, o, none⟩ ys.length cB news (by rw [h3, hsz]) hnews (by omega) (by omega) (growslice_fits (by omega) (by rw [hby]; exact hb))
   have hge := grownCap_ge w (xs.length + ys.length) c e
   generalize hgc : grownCap w (xs.length + ys.length) c e = cap at hrun hge
   have hr0 : (execOp a.eval ⟨some d, .call { callee := .builtin .append, args := #[x, y], argTypes := #[t, t] }, ty, pos, af, none⟩).run X.P w = .ok (.value (.slice (some ⟨w.heap.size, 0, none⟩) (xs.length + ys.length) cap)) (w.drew.alloc (.cells ((cur.toList.take (xs.length * E.sz) ++ news) ++ (Builtin.zeroCells zv.cells (cap - (xs.length + ys.length))).toList).toArray e)) := by
    simp only [execOp, resolve, invoke, builtin, Sem.run_bind, Sem.run_pure, Result.andThen_ok, List.map_toArray, List.map_cons, List.map_nil, h1, h2, hrun]
    congr 3
    apply Array.ext'
    simp
   rw [hr0]
   have hs1 := hs.ext (w' := w.drew) (Below.refl _ w).drew
   have hcr : (Y5 E (xs ++ ys) cap).p ((cur.toList.take (xs.length * E.sz) ++ news) ++ (Builtin.zeroCells zv.cells (cap - (xs.length + ys.length))).toList) ⟨w.drew, mask X.M0 (⟨b, e, Y5 E xs c⟩ :: H')⟩ := by
    refine (Y5 E (xs ++ ys) cap).up (Le.below _ (Below.refl _ w).drew) ?_
    have l1 : (cur.toList.take (xs.length * E.sz) ++ news).length = (xs ++ ys).length * E.sz := by
     simp only [List.length_append, List.length_take, h3, Nat.add_mul]; omega
    refine rowP_mk l1 ?_ (by simpa using hge) hnew
    rw [l1]
    have q : cap * E.sz = (xs.length + ys.length) * E.sz + (cap - (xs.length + ys.length)) * E.sz := by rw [← Nat.add_mul]; congr 1; omega
    rw [Nat.add_mul] at q
    simp only [List.length_append, Array.length_toList, zeroCells_size, hzs, Nat.add_mul]
    omega
   have hs2 := hs1.alloc (t := e) hcr
   have hs3 := X3 (.keep (fun _ _ h => h) (.drop (HSub.refl H'))) _ _ hs2
   have := next w.heap.size cap
   exact this _ _ (hs3.put hN (by simp [tIs]))
theorem J.append0 {α : Type} {E : Enc α} {ys : List α} {d t e by_ : Nat} {x y : Operand} {zv : Value} {ats : Array TypeId} (hx : OpT Γ x tZ) (hy : OpT Γ y (tSl E ys)) (h0 : ys ≠ []) (ht : slB X.P t = some (e, E.sz, by_)) (ha : ats = #[t, t])
  (hz : zeroB X.P e = some zv) (hzs : zv.cells.size = E.sz) (hb : ys.length * by_ ≤ 140737488355328) (h63 : ys.length ≤ 9223372036854775807) (hN : d < X.N)
  (next : ∀ b' c', J X ops Q rest ((d, sIs b' 0 ys.length c') :: Γ) (⟨b', e, Y5 E ys c'⟩ :: H)) :
  J X ops Q (⟨some d, .call { callee := .builtin .append, args := #[x, y], argTypes := ats }, ty, pos, af, none⟩ :: rest) Γ H := by
 intro a w hs
 unfold wpN
 rw [if_pos (V6 rfl _)]
 subst ha
 obtain ⟨A, h1⟩ := hx.ev (hs.on (T7 x)) (fun _ h => h)
 obtain ⟨B, n, c, h2, rfl, hc, hcell⟩ := hy.ev (hs.on (T7 y)) (fun _ h => h)
 obtain ⟨hu, i, hi, hsz, hby⟩ := slB_spec ht
 unfold zeroB at hz
 rw [hi] at hz
 have hz' : i.zero = some zv := hz
 obtain ⟨b, o, rfl, hcs⟩ := hcell h0
 obtain ⟨news, h3, h4, h5, h6⟩ := slP_cells ys o hcs
 have hpos : 0 < ys.length := by cases ys with | nil => exact absurd rfl h0 | cons _ _ => simp
 obtain ⟨cap, more, hr, h7, h8⟩ := run_append_z (w := w) (ty := ty) hu hi hz' hsz hby hzs A ⟨b, o, none⟩ ys.length c news h3 (fun j v hv => by rw [add_at]; exact (h4 j v hv).1) hpos hb h63
 have hr0 : (execOp a.eval ⟨some d, .call { callee := .builtin .append, args := #[x, y], argTypes := #[t, t] }, ty, pos, af, none⟩).run X.P w = .ok (.value (.slice (some ⟨w.heap.size, 0, none⟩) ys.length cap)) (w.drew.alloc (.cells (news ++ more).toArray e)) := by
  simp only [execOp, resolve, invoke, builtin, Sem.run_bind, Sem.run_pure, Result.andThen_ok, List.map_toArray, List.map_cons, List.map_nil, h1, h2, hr]
 unfold Oper.wp
 rw [hr0]
 have hs1 := hs.ext (w' := w.drew) (Below.refl _ w).drew
 have hcr : (Y5 E ys cap).p (news ++ more) ⟨w.drew, mask X.M0 H⟩ := (Y5 E ys cap).up (Le.below _ (Below.refl _ w).drew) (rowP_mk h3 h8 h7 h5)
 have hs2 := hs1.alloc (t := e) hcr
 exact next w.heap.size cap _ _ (hs2.put hN rfl)
theorem row_splice {α : Type} {E : Enc α} {xs ys : List α} {cap k : Nat} {cur news : List Value} {s : St} (hc : (Y5 E xs cap).p cur s) (hl : news.length = ys.length * E.sz) (hn : ∀ i x, ys[i]? = some x → E.C x ((news.drop (i * E.sz)).take E.sz) s) (hk : k + ys.length ≤ xs.length) :
  (Y5 E (xs.take k ++ ys ++ xs.drop (k + ys.length)) cap).p (cur.take (k * E.sz) ++ news ++ cur.drop (k * E.sz + ys.length * E.sz)) s := by
 obtain ⟨h1, h2, h3⟩ := hc
 have q : (k + ys.length) * E.sz ≤ cap * E.sz := Nat.mul_le_mul_right _ (by omega)
 rw [Nat.add_mul] at q
 refine ⟨by simp; omega, by simp [hl]; omega, fun i x hx => ?_⟩
 rcases Nat.lt_or_ge i k with r | r
 ·rw [List.append_assoc, List.getElem?_append_left (by simp; omega), List.getElem?_take, if_pos r] at hx
  have := drop_take_splice (l := cur) (m := news) (o := k * E.sz) (i := i) (sz := E.sz) hl (by omega) (.inl (by have := row_room r (l := k * E.sz) rfl; omega))
  rw [this]; exact h3 i x hx
 ·rcases Nat.lt_or_ge i (k + ys.length) with r2 | r2
  ·rw [List.append_assoc, List.getElem?_append_right (by simp; omega), List.getElem?_append_left (by simp; omega)] at hx
   have hx' : ys[i - k]? = some x := by rw [List.length_take, Nat.min_eq_left (by omega)] at hx; exact hx
   have e1 : i * E.sz = (cur.take (k * E.sz)).length + (i - k) * E.sz := by
    rw [List.length_take, Nat.min_eq_left (by omega), ← Nat.add_mul]; congr 1; omega
   rw [List.append_assoc, e1, List.drop_length_add_append]
   have hr := row_room (show i - k < ys.length by omega) hl
   rw [List.drop_append_of_le_length (by omega), List.take_append_of_le_length (by simp; omega)]
   exact hn _ x hx'
  ·rw [List.append_assoc, List.getElem?_append_right (by simp; omega), List.getElem?_append_right (by simp; omega), List.getElem?_drop] at hx
   have hx' : xs[i]? = some x := by
    simp only [List.length_take] at hx
    rwa [show k + ys.length + (i - min k xs.length - ys.length) = i by omega] at hx
   have := drop_take_splice (l := cur) (m := news) (o := k * E.sz) (i := i) (sz := E.sz) hl (by omega) (.inr (by rw [← Nat.add_mul]; exact Nat.mul_le_mul_right _ r2))
   rw [this]; exact h3 i x hx'
theorem J.copy {α : Type} {E : Enc α} {xs ys : List α} {d t e by_ b k n c cap : Nat} {x y : Operand} {ats : Array TypeId} {H' : Hp} (hx : OpT Γ x (sIs b (k * E.sz) n c)) (hy : OpT Γ y (tSl E ys)) (ht : slB X.P t = some (e, E.sz, by_)) (ha : ats = #[t, t])
  (hU : HUpd b e (Y5 E xs cap) (Y5 E (xs.take k ++ ys ++ xs.drop (k + ys.length)) cap) H H') (hn : ys.length ≤ n) (hk : k + ys.length ≤ xs.length) (hN : d < X.N)
  (next : J X ops Q rest ((d, tIs (.int .i64 ys.length)) :: Γ) H') :
  J X ops Q (⟨some d, .call { callee := .builtin .copy, args := #[x, y], argTypes := ats }, ty, pos, af, none⟩ :: rest) Γ H := by
 intro a w hs
 unfold wpN
 rw [if_pos (V6 rfl _)]
 subst ha
 have h1 : a.eval x = .slice (some ⟨b, k * E.sz, none⟩) n c := hx.ev (hs.on (T7 x)) (fun _ h => h)
 obtain ⟨B, m, cB, h2, rfl, hcB, hcell⟩ := hy.ev (hs.on (T7 y)) (fun _ h => h)
 obtain ⟨hu, i, hi, hsz, hby⟩ := slB_spec ht
 obtain ⟨hb0, cur, hcur, hrow⟩ := hs.hp.1 _ hU.mem
 have hcur' : w.heap[b]? = some (.cells cur e (0, 0)) := hcur
 have hrow' := hrow
 obtain ⟨g1, g2, g3⟩ := hrow'
 have hnews : ∃ news : List Value, news.length = ys.length * E.sz ∧ (Builtin.firstCells i.size ys.length (a.eval y)).run X.P w = .ok news.toArray w ∧ (∀ i x, ys[i]? = some x → E.C x ((news.drop (i * E.sz)).take E.sz) ⟨w, mask X.M0 H⟩) ∧ ∀ u ∈ news, u.oneCell' = true := by
  by_cases h0 : ys = []
  ·subst h0
   refine ⟨[], by simp, ?_, by simp, by simp⟩
   rw [h2]
   cases B <;> simp [Builtin.firstCells, loadCells, loadCellsFrom]
  ·obtain ⟨bb, o, rfl, hcs⟩ := hcell h0
   obtain ⟨news, h3, h4, h5, h6⟩ := slP_cells ys o hcs
   refine ⟨news, h3, ?_, h5, h6⟩
   rw [h2]
   exact run_firstCells_some (P := X.P) w i.size ys.length ⟨bb, o, none⟩ ys.length cB news (by rw [h3, hsz]) (fun j v hv => by rw [add_at]; exact (h4 j v hv).1)
 obtain ⟨news, h3, h4, h5, h6⟩ := hnews
 have q : (k + ys.length) * E.sz ≤ cap * E.sz := Nat.mul_le_mul_right _ (by omega)
 rw [Nat.add_mul] at q
 have hst := run_storeCells_at X.P b (k * E.sz) e news 0 cur w hcur' (by simp at g2; omega) h6
 simp only [Nat.add_zero] at hst
 rw [h3] at hst
 have hr0 : (execOp a.eval ⟨some d, .call { callee := .builtin .copy, args := #[x, y], argTypes := #[t, t] }, ty, pos, af, none⟩).run X.P w = .ok (.value (.int .i64 ys.length)) (w.setRow b (cur.toList.take (k * E.sz) ++ news ++ cur.toList.drop (k * E.sz + ys.length * E.sz)).toArray) := by
  have hm : Nat.min ys.length n = ys.length := Nat.min_eq_left hn
  have hlen : (Builtin.lenOf (a.eval y)).run X.P w = .ok ys.length w := by rw [h2]; rfl
  simp only [execOp, resolve, invoke, builtin, Sem.run_bind, Sem.run_pure, Result.andThen_ok, List.map_toArray, List.map_cons, List.map_nil, h1]
  simp only [Builtin.copy_, List.getElem?_toArray, List.getElem?_cons_zero, List.getElem?_cons_succ, Sem.run_bind, run_underlying hu, Result.andThen_ok, hlen, hm, sizeOf, typeInfo, run_program, hi, Sem.run_pure, h4, hst, goInt]
 unfold Oper.wp
 rw [hr0]
 have hw := wrote_setRow hcur' rfl (cur.toList.take (k * E.sz) ++ news ++ cur.toList.drop (k * E.sz + ys.length * E.sz))
 have hle : Le ⟨w, mask X.M0 H⟩ ⟨w.setRow b (cur.toList.take (k * E.sz) ++ news ++ cur.toList.drop (k * E.sz + ys.length * E.sz)).toArray, mask X.M0 H⟩ :=
  ⟨hw.size, fun k hks hk => hw.other k hks (fun q => hk (q ▸ .inr ⟨_, hU.mem, rfl⟩)), fun k _ hk => hk⟩
 have hs2 := hs.write hU hw ((Y5 E _ cap).up hle (row_splice hrow h3 h5 hk))
 exact next _ _ (hs2.put hN rfl)
def CtrL (P : Program) (f : FuncId) (Ts : List Ty) (b : Nat) (bt : TypeId) (R R' : CTy) (T : Ty) : Prop :=
 ∀ (w0 : World) (M0 : Nat → Prop), (∀ k, M0 k → k < w0.heap.size) → M0 b → ∀ cs, w0.heap[b]? = some (.cells cs bt (0, 0)) → R.p cs.toList ⟨w0, M0⟩ → ∀ vs, vsP Ts vs ⟨w0, M0⟩ →
  Calls P f vs.toArray w0 fun e w' => ∃ v cs', e = .returned v ∧ Kept [b] w0 w' ∧ w'.heap[b]? = some (.cells cs' bt (0, 0)) ∧ R'.p cs'.toList ⟨w', M0⟩ ∧ T.p v ⟨w', M0⟩
def PostL (X : Cx) (b : Nat) (bt : TypeId) (R' : CTy) (T : Ty) : Ending → World → Prop := fun e w' => ∃ v cs', e = .returned v ∧ Kept X.L X.w0 w' ∧ w'.heap[b]? = some (.cells cs' bt (0, 0)) ∧ R'.p cs'.toList ⟨w', fun k => X.M0 k ∨ k = b⟩ ∧ T.p v ⟨w', fun k => X.M0 k ∨ k = b⟩
theorem CtrL.of {P : Program} {f N : Nat} {fn : Func} {c : Code} {Ts : List Ty} {b : Nat} {bt : TypeId} {R R' : CTy} {T : Ty} (hf : P.funcs[f]? = some fn) (hb : fn.body = some c) (hN : fn.ntmps = N) (hl : Ts.length ≤ N)
  (h : ∀ w0 M0, JC ⟨P, w0, M0, [b], N, []⟩ c (bodyPost P fn (PostL ⟨P, w0, M0, [b], N, []⟩ b bt R' T)) (gam0 0 Ts) [⟨b, bt, R⟩]) : CtrL P f Ts b bt R R' T := by
 intro w0 M0 hM hMb cs hcs hR vs hvs
 have hMe : (fun k => (M0 k ∧ k ≠ b) ∨ k = b) = M0 := by
  funext k
  by_cases hk : k = b
  ·subst hk; simp [hMb]
  ·simp [hk]
 refine Calls.mono (calls_of_wp (R := PostL ⟨P, w0, fun k => M0 k ∧ k ≠ b, [b], N, []⟩ b bt R' T) hf hb ?_) fun e w' ⟨v, cs', h1, h2, h3, h4, h5⟩ => ⟨v, cs', h1, h2, h3, by rw [← hMe]; exact h4, by rw [← hMe]; exact h5⟩
 subst hN
 have hM' : mask (fun k => M0 k ∧ k ≠ b) [⟨b, bt, R⟩] = M0 := by
  funext k
  refine propext ⟨fun h => ?_, fun h => ?_⟩
  ·rcases h with h | ⟨e, he, rfl⟩
   ·exact h.1
   ·cases he with
    | head => exact hMb
    | tail _ he => cases he
  ·by_cases hk : k = b
   ·exact .inr ⟨_, .head _, hk.symm⟩
   ·exact .inl ⟨h, hk⟩
 refine h w0 (fun k => M0 k ∧ k ≠ b) _ _ ⟨?_, rfl, fun k hk => ⟨hM k hk.1, by simpa using hk.2⟩, Kept.refl _ _, fun i T hi => ?_, ⟨fun e he => ?_, List.pairwise_singleton ..⟩⟩
 ·have := hvs.length
  simp; omega
 ·obtain ⟨_, v, hv, hT⟩ := slots0 0 hvs i T hi
  show T.p _ ⟨w0, mask (fun k => M0 k ∧ k ≠ b) [⟨b, bt, R⟩]⟩
  rw [hM']
  have hlt : i < vs.length := (List.getElem?_eq_some_iff.1 hv).1
  have : (vs.toArray ++ Array.replicate (fn.ntmps - vs.toArray.size) undef).getD i undef = v := by
   rw [Array.getD_eq_getD_getElem?, Array.getElem?_append_left (by simpa using hlt)]
   simp at hv
   simp [hv]
  rw [this]; exact hT
 ·cases he with
  | head =>
   refine ⟨.inr (.head _), cs, hcs, ?_⟩
   show R.p cs.toList ⟨w0, mask (fun k => M0 k ∧ k ≠ b) [⟨b, bt, R⟩]⟩
   rw [hM']; exact hR
  | tail _ he => cases he
theorem JQ.retL {fn : Func} {b : Nat} {bt : TypeId} {R R' : CTy} {r : List ResultVar} {T : Ty} {v : Act → World → Value} (hb : (⟨b, bt, R⟩ : HEnt) ∈ H) (hR : ∀ cs s, R.p cs s → R'.p cs s)
  (hv : ∀ a w, Sat X Γ H a w → (results fn a.tmps).run X.P w = .ok (v a w) w ∧ T.p (v a w) ⟨w, mask X.M0 H⟩) (hD : X.Df = [] := by rfl) : JQ X (bodyPost X.P fn (PostL X b bt R' T)) .ret Γ H ∧ JQ X (bodyPost X.P fn (PostL X b bt R' T)) .normal Γ H := by
 have key : ∀ a w, Sat X Γ H a w → PostL X b bt R' T (.returned (v a w)) w := fun a w hs => by
  obtain ⟨_, cs, hc, hr⟩ := hs.hp.1 _ hb
  have hl : Le ⟨w, mask X.M0 H⟩ ⟨w, fun k => X.M0 k ∨ k = b⟩ := ⟨Nat.le_refl _, fun _ _ _ => rfl, fun k _ hk => by
   rcases hk with hk | rfl
   ·exact .inl hk
   ·exact .inr ⟨_, hb, rfl⟩⟩
  exact ⟨v a w, cs, rfl, hs.below, hc, R'.up hl (hR _ _ hr), T.up hl (hv a w hs).2⟩
 exact ⟨fun a w hs => ⟨hs.defers.trans hD, v a w, (hv a w hs).1, key a w hs⟩, fun a w hs => ⟨hs.defers.trans hD, v a w, (hv a w hs).1, key a w hs⟩⟩
theorem JQ.retL0 {fn : Func} {b : Nat} {bt : TypeId} {R R' : CTy} (hf : fn.results = #[]) (hb : (⟨b, bt, R⟩ : HEnt) ∈ H) (hR : ∀ cs s, R.p cs s → R'.p cs s) (hD : X.Df = [] := by rfl) : JQ X (bodyPost X.P fn (PostL X b bt R' K5)) .ret Γ H ∧ JQ X (bodyPost X.P fn (PostL X b bt R' K5)) .normal Γ H :=
 JQ.retL (r := []) (v := fun _ _ => .tuple #[]) hb hR (fun a w _ => ⟨results_none hf _ _ _, trivial⟩) hD
theorem JQ.retL1 {fn : Func} {b : Nat} {bt : TypeId} {R R' : CTy} {t : Nat} {T : Ty} (hf : fn.results = #[.tmp t]) (hb : (⟨b, bt, R⟩ : HEnt) ∈ H) (hR : ∀ cs s, R.p cs s → R'.p cs s) (hT : OpT Γ (.tmp t) T) (hD : X.Df = [] := by rfl) : JQ X (bodyPost X.P fn (PostL X b bt R' T)) .ret Γ H ∧ JQ X (bodyPost X.P fn (PostL X b bt R' T)) .normal Γ H :=
 JQ.retL (r := []) (v := fun a _ => a.tmps.getD t undef) hb hR (fun a w hs => ⟨results_tmp hf _ _ _, hT.ev (hs.on (T7 (.tmp t))) (fun _ h => h)⟩) hD
def tFn (f : FuncId) (cap : List Value) : Ty := tIs (.func (.func f) #[] cap.toArray)
theorem run_callL {f : FuncId} {cap : List Value} {fo : Operand} {xs : List Operand} {ats : Array TypeId} (hf : fnB X.P f = true) {a : Act} {w : World} (hv : a.eval fo = .func (.func f) #[] cap.toArray) {d : Option Nat} :
  (execOp a.eval ⟨d, .call { callee := .value fo, args := xs.toArray, argTypes := ats }, ty, pos, af, gd⟩).run X.P w = .ok (.enter f (xs.map a.eval ++ cap).toArray) w := by
 have h1 := run_callFunc hf ((xs.map a.eval).toArray ++ cap.toArray) w
 simp only [execOp, resolve, Deferred.ofValue, hv, invoke, Sem.run_bind, Sem.run_pure, Result.andThen_ok]
 simpa using h1
theorem J.callL {d f b : Nat} {bt : TypeId} {R R' : CTy} {fo : Operand} {cap : List Value} {xs : List Operand} {Ts Us : List Ty} {T : Ty} {ats : Array TypeId} {H' : Hp} (hf : fnB X.P f = true) (hfo : OpT Γ fo (tFn f cap)) (hc : CtrL X.P f (Ts ++ Us) b bt R R' T) (hx : OpTs Γ xs Ts) (hcap : ∀ s, vsP Us cap s)
  (hU : HUpd b bt R R' H H') (hN : d < X.N) (next : J X ops Q rest ((d, T) :: Γ) H') :
  J X ops Q (⟨some d, .call { callee := .value fo, args := xs.toArray, argTypes := ats }, ty, pos, af, none⟩ :: rest) Γ H := by
 intro a w hs
 unfold wpN
 rw [if_pos (V6 rfl _)]
 have h1 : a.eval fo = .func (.func f) #[] cap.toArray := hfo.ev (hs.on (T7 fo)) (fun _ h => h)
 have hv := hx.ev (X := X) (hs.on (xs.flatMap T7)) (fun x hx i hi => List.mem_flatMap.2 ⟨x, hx, hi⟩)
 have happ : ∀ {Ts : List Ty} {vs : List Value} {s : St}, vsP Ts vs s → vsP Us cap s → vsP (Ts ++ Us) (vs ++ cap) s := by
  intro Ts
  induction Ts with
  | nil => intro vs s h1 h2; cases vs with | nil => exact h2 | cons _ _ => exact h1.elim
  | cons T Ts ih => intro vs s h1 h2; cases vs with | nil => exact h1.elim | cons v vs => exact ⟨h1.1, ih h1.2 h2⟩
 obtain ⟨hb0, cs, hcs, hr⟩ := hs.hp.1 _ hU.mem
 have h := hc w _ (mask_lt (hs.on [])) (.inr ⟨_, hU.mem, rfl⟩) cs hcs hr _ (happ hv (hcap _))
 unfold Oper.wp
 rw [run_callL hf h1]
 refine Calls.mono h ?_
 rintro e w' ⟨v, cs', rfl, hk, hcs', hR', hT⟩
 have hw : Wrote b bt cs'.toList w w' := ⟨hk.os, hk.tape, hk.output, hk.size, by simpa using hcs', fun k hkl hne => hk.block k hkl (by simpa using hne)⟩
 have hm := hU.mask X.M0
 have hs2 := hs.write hU hw hR'
 exact next _ _ (hs2.put hN (by rw [hm]; exact hT))
end Go.Rt
namespace Go.Rt
abbrev B32 : Nat := 4294967296
def val : List Nat → Nat
 | [] => 0
 | d :: ds => d + B32 * val ds
def dig (n : Nat) : List Nat := if h : n = 0 then [] else (n % B32) :: dig (n / B32)
termination_by n
decreasing_by exact Nat.div_lt_self (Nat.pos_of_ne_zero h) (by decide)
def U7 (ds : List Nat) : Prop := ∀ d ∈ ds, d < B32
theorem dig_zero : dig 0 = [] := by rw [dig]; rfl
theorem dig_pos {n : Nat} (h : n ≠ 0) : dig n = (n % B32) :: dig (n / B32) := by rw [dig, dif_neg h]
theorem val_dig (n : Nat) : val (dig n) = n := by
 induction n using Nat.strongRecOn with
 | _ n ih =>
  by_cases h : n = 0
  ·subst h; rw [dig_zero]; rfl
  ·rw [dig_pos h, val, ih _ (Nat.div_lt_self (Nat.pos_of_ne_zero h) (by decide))]
   exact Nat.mod_add_div n B32
theorem digs_dig (n : Nat) : U7 (dig n) := by
 induction n using Nat.strongRecOn with
 | _ n ih =>
  by_cases h : n = 0
  ·subst h; rw [dig_zero]; intro d hd; cases hd
  ·rw [dig_pos h]
   intro d hd
   cases hd with
   | head => exact Nat.mod_lt _ (by decide)
   | tail _ hd => exact ih _ (Nat.div_lt_self (Nat.pos_of_ne_zero h) (by decide)) d hd
theorem val_append (xs ys : List Nat) : val (xs ++ ys) = val xs + B32 ^ xs.length * val ys := by
 induction xs with
 | nil => simp [val]
 | cons x xs ih => simp only [List.cons_append, val, ih, List.length_cons, Nat.pow_succ, Nat.mul_add]; rw [Nat.mul_comm (B32 ^ xs.length) B32, Nat.mul_assoc]; omega
theorem val_lt {ds : List Nat} (h : U7 ds) : val ds < B32 ^ ds.length := by
 induction ds with
 | nil => simp [val]
 | cons d ds ih =>
  have h1 := ih fun x hx => h x (.tail _ hx)
  have h2 := h d (.head _)
  simp only [val, List.length_cons, Nat.pow_succ]
  have : B32 * (val ds + 1) ≤ B32 * B32 ^ ds.length := Nat.mul_le_mul_left _ h1
  rw [Nat.mul_add] at this
  rw [Nat.mul_comm (B32 ^ ds.length)]
  omega
def Q3 (ds : List Nat) : List Nat := (ds.reverse.dropWhile (· == 0)).reverse
theorem trimD_nil : Q3 [] = [] := rfl
theorem trimD_zero (xs : List Nat) : Q3 (xs ++ [0]) = Q3 xs := by simp [Q3]
theorem trimD_pos (xs : List Nat) {d : Nat} (h : d ≠ 0) : Q3 (xs ++ [d]) = xs ++ [d] := by
 simp [Q3, h]
theorem dig_last {ds : List Nat} (h : U7 ds) (hl : ∀ d, ds.getLast? = some d → d ≠ 0) : dig (val ds) = ds := by
 induction ds with
 | nil => simp [val, dig_zero]
 | cons d r ih =>
  have hd : d < B32 := h d (.head _)
  have hr := ih (fun x hx => h x (.tail _ hx)) (fun x hx => hl x (by
   cases r with
   | nil => simp at hx
   | cons y r => simpa using hx))
  have hne : val (d :: r) ≠ 0 := by
   intro h0
   simp only [val] at h0
   have hd0 : d = 0 := by omega
   have hr0 : val r = 0 := by
    have : B32 * val r = 0 := by omega
    rcases Nat.mul_eq_zero.1 this with h | h
    ·exact absurd h (by decide)
    ·exact h
   rw [hr0, dig_zero] at hr
   subst hr
   exact hl d (by simp) hd0
  rw [dig_pos hne]
  have e1 : (d + B32 * val r) % B32 = d := by rw [Nat.add_mul_mod_self_left, Nat.mod_eq_of_lt hd]
  have e2 : (d + B32 * val r) / B32 = val r := by
   rw [Nat.add_mul_div_left _ _ (by decide), Nat.div_eq_of_lt hd, Nat.zero_add]
  simp only [val]
  rw [e1, e2, hr]
theorem digs_take {ds : List Nat} (h : U7 ds) (n : Nat) : U7 (ds.take n) := fun d hd => h d (List.mem_of_mem_take hd)
theorem list_snoc (ds : List Nat) : ds = [] ∨ ∃ xs d, ds = xs ++ [d] := by
 rcases List.eq_nil_or_concat ds with h | ⟨xs, d, h⟩
 ·exact .inl h
 ·exact .inr ⟨xs, d, by simpa using h⟩
theorem W7 {ds : List Nat} (h : U7 ds) : Q3 ds = dig (val ds) := by
 have key : ∀ n (ds : List Nat), ds.length = n → U7 ds → Q3 ds = dig (val ds) := by
  intro n
  induction n with
  | zero => intro ds hn _; have := List.eq_nil_of_length_eq_zero hn; subst this; simp [trimD_nil, val, dig_zero]
  | succ n ih =>
   intro ds hn hd
   rcases list_snoc ds with rfl | ⟨xs, d, rfl⟩
   ·simp at hn
   ·by_cases h0 : d = 0
    ·subst h0
     rw [trimD_zero, ih xs (by simpa using hn) (fun x hx => hd x (by simp [hx])), val_append]
     simp [val]
    ·rw [trimD_pos _ h0]
     exact (dig_last hd (fun x hx => by simp at hx; omega)).symm
 exact key _ ds rfl h
theorem dig_length_le {ds : List Nat} (h : U7 ds) : (dig (val ds)).length ≤ ds.length := by
 rw [← W7 h]
 have h1 : ∀ l : List Nat, (l.dropWhile (· == 0)).length ≤ l.length := fun l => (List.dropWhile_sublist _).length_le
 simpa [Q3] using h1 ds.reverse
theorem R8 {n k : Nat} (h : n < B32 ^ k) : (dig n).length ≤ k := by
 induction k generalizing n with
 | zero =>
  have : n = 0 := by simpa using h
  subst this; rw [dig_zero]; simp
 | succ k ih =>
  by_cases h0 : n = 0
  ·subst h0; rw [dig_zero]; simp
  ·rw [dig_pos h0, List.length_cons]
   have : n / B32 < B32 ^ k := Nat.div_lt_of_lt_mul (by rw [Nat.pow_succ, Nat.mul_comm] at h; exact h)
   have := ih this
   omega
theorem lt_dig_len (n : Nat) : n < B32 ^ (dig n).length := by
 have := val_lt (digs_dig n)
 rwa [val_dig] at this
theorem dig_inj {a b : Nat} (h : dig a = dig b) : a = b := by rw [← val_dig a, h, val_dig]
theorem dig_eq_nil {n : Nat} : dig n = [] ↔ n = 0 := ⟨fun h => dig_inj (by rw [h, dig_zero]), fun h => by rw [h, dig_zero]⟩
theorem dig_len_pos {n : Nat} : 0 < (dig n).length ↔ n ≠ 0 := by
 rw [List.length_pos_iff]; exact not_congr dig_eq_nil
theorem len_lt {a b : Nat} (h : (dig a).length < (dig b).length) : a < b := by
 rcases Nat.lt_or_ge a b with q | q
 ·exact q
 ·have := R8 (n := b) (k := (dig a).length) (Nat.lt_of_le_of_lt q (lt_dig_len a))
  omega
theorem take_snoc_getD {ds : List Nat} {n : Nat} (h0 : 0 < n) (h1 : n ≤ ds.length) : ds.take n = ds.take (n - 1) ++ [ds.getD (n - 1) 0] := by
 have hlt : n - 1 < ds.length := by omega
 have := List.take_succ_eq_append_getElem (l := ds) (i := n - 1) hlt
 rw [show n - 1 + 1 = n by omega] at this
 rw [this, List.getD_eq_getElem?_getD, List.getElem?_eq_getElem hlt]
 rfl
theorem trimD_step {ds : List Nat} {n : Nat} (h : 0 < n ∧ n ≤ ds.length) (h0 : ds.getD (n - 1) 0 = 0) : Q3 (ds.take (n - 1)) = Q3 (ds.take n) := by
 rw [take_snoc_getD h.1 h.2, h0, trimD_zero]
theorem trimD_stop {ds : List Nat} {n : Nat} (h : 0 < n ∧ n ≤ ds.length) (h0 : ds.getD (n - 1) 0 ≠ 0) : Q3 (ds.take n) = ds.take n := by
 rw [take_snoc_getD h.1 h.2, trimD_pos _ h0]
theorem trimD_len (ds : List Nat) : (Q3 ds).length ≤ ds.length := by
 have h1 : ∀ l : List Nat, (l.dropWhile (· == 0)).length ≤ l.length := fun l => (List.dropWhile_sublist _).length_le
 simpa [Q3] using h1 ds.reverse
theorem digs_trimD {ds : List Nat} (h : U7 ds) : U7 (Q3 ds) := by rw [W7 h]; exact digs_dig _
theorem val_trimD {ds : List Nat} (h : U7 ds) : val (Q3 ds) = val ds := by rw [W7 h, val_dig]
theorem trimD_len_zero {ds : List Nat} (h : U7 ds) : (Q3 ds).length = 0 ↔ val ds = 0 := by
 rw [W7 h, List.length_eq_zero_iff, dig_eq_nil]
def cmpN (a b : Nat) : Int := if a < b then -1 else if b < a then 1 else 0
theorem getD_lt {ds : List Nat} (h : U7 ds) (i : Nat) : ds.getD i 0 < 4294967296 := by
 rw [List.getD_eq_getElem?_getD]
 rcases Nat.lt_or_ge i ds.length with q | q
 ·rw [List.getElem?_eq_getElem q]; exact h _ (List.getElem_mem q)
 ·rw [List.getElem?_eq_none q]; decide
theorem val_split {ds : List Nat} {n : Nat} (h0 : 0 < n) (h1 : n ≤ ds.length) : val ds = val (ds.take (n - 1)) + B32 ^ (n - 1) * (ds.getD (n - 1) 0 + B32 * val (ds.drop n)) := by
 have e : ds = ds.take (n - 1) ++ ds.getD (n - 1) 0 :: ds.drop n := by
  have h2 := take_snoc_getD h0 h1
  have h3 := List.take_append_drop n ds
  rw [h2] at h3
  simpa using h3.symm
 have hl : (ds.take (n - 1)).length = n - 1 := by simp; omega
 conv => lhs; rw [e]
 rw [val_append, hl, val]
theorem val_gt {a b : List Nat} {n : Nat} (ha : U7 a) (hb : U7 b) (h0 : 0 < n) (h1 : n ≤ a.length) (h2 : n ≤ b.length) (h3 : a.drop n = b.drop n) (h4 : b.getD (n - 1) 0 < a.getD (n - 1) 0) : val b < val a := by
 rw [val_split h0 h1, val_split h0 h2, h3]
 have hb2 := val_lt (digs_take hb (n - 1))
 have hl : (b.take (n - 1)).length = n - 1 := by simp; omega
 rw [hl] at hb2
 generalize B32 ^ (n - 1) = P at *
 generalize B32 * val (b.drop n) = V at *
 have : P * (b.getD (n - 1) 0 + V + 1) ≤ P * (a.getD (n - 1) 0 + V) := Nat.mul_le_mul_left _ (by omega)
 rw [Nat.mul_add P _ 1, Nat.mul_one] at this
 omega
theorem cmpN_lt {a b : Nat} (h : a < b) : cmpN a b = -1 := by unfold cmpN; rw [if_pos h]
theorem cmpN_gt {a b : Nat} (h : b < a) : cmpN a b = 1 := by unfold cmpN; rw [if_neg (by omega), if_pos h]
theorem cmpN_eq {a b : Nat} (h : a = b) : cmpN a b = 0 := by unfold cmpN; rw [if_neg (by omega), if_neg (by omega)]
theorem drop_step {a b : List Nat} {n : Nat} (h0 : 0 < n) (h1 : n ≤ a.length) (h2 : n ≤ b.length) (h3 : a.drop n = b.drop n) (h4 : a.getD (n - 1) 0 = b.getD (n - 1) 0) : a.drop (n - 1) = b.drop (n - 1) := by
 rw [List.drop_eq_getElem_cons (show n - 1 < a.length by omega), List.drop_eq_getElem_cons (show n - 1 < b.length by omega)]
 rw [show n - 1 + 1 = n by omega, h3]
 rw [List.getD_eq_getElem?_getD, List.getD_eq_getElem?_getD, List.getElem?_eq_getElem (show n - 1 < a.length by omega), List.getElem?_eq_getElem (show n - 1 < b.length by omega)] at h4
 simp at h4
 rw [h4]
theorem of_digits {n : Int} (h0 : 0 ≤ n) (h1 : n < 18446744073709551616) : Q3 [(n % 4294967296).toNat, (n / 4294967296).toNat] = dig n.toNat := by
 have hd : U7 [(n % 4294967296).toNat, (n / 4294967296).toNat] := by
  intro d hd
  simp at hd
  rcases hd with rfl | rfl <;> (simp only [B32]; omega)
 rw [W7 hd]
 congr 1
 simp [val, B32]
 omega
theorem eq_of_drop0 {a b : List Nat} {n : Nat} (h : a.drop n = b.drop n) (h0 : n = 0) : a = b := by subst h0; simpa using h
theorem list1 {l : List Nat} (h : l.length = 1) : l = [l.getD 0 0] := by match l, h with | [x], _ => rfl
theorem list2 {l : List Nat} (h : l.length = 2) : l = [l.getD 0 0, l.getD 1 0] := by match l, h with | [x, y], _ => rfl
theorem val_len0 {ds : List Nat} (hd : U7 ds) (h : (Q3 ds).length = 0) : val ds = 0 := (trimD_len_zero hd).1 h
theorem val_len1 {ds : List Nat} (hd : U7 ds) (h : (Q3 ds).length = 1) : val ds = (Q3 ds).getD 0 0 := by
 have := val_trimD hd
 rw [list1 h] at this
 simpa [val] using this.symm
theorem val_len2 {ds : List Nat} (hd : U7 ds) (h : (Q3 ds).length = 2) : val ds = (Q3 ds).getD 0 0 + 4294967296 * (Q3 ds).getD 1 0 := by
 have := val_trimD hd
 rw [list2 h] at this
 simpa [val, B32] using this.symm
theorem val_len3 {ds : List Nat} (hd : U7 ds) (h : 2 < (Q3 ds).length) : 18446744073709551616 ≤ val ds := by
 rcases Nat.lt_or_ge (val ds) 18446744073709551616 with q | q
 ·have := R8 (n := val ds) (k := 2) (by simpa [B32] using q)
  rw [← W7 hd] at this
  omega
 ·exact q
theorem take_set {xs : List Nat} {k d : Nat} (h : k < xs.length) : (xs.set k d).take (k + 1) = xs.take k ++ [d] := by
 rw [List.take_succ_eq_append_getElem (by simpa using h), List.getElem_set_self]
 congr 1
 apply List.ext_getElem?
 intro j
 rw [List.getElem?_take, List.getElem?_take]
 split
 ·rw [List.getElem?_set_ne (by omega)]
 ·rfl
theorem val_take_succ {xs : List Nat} {k : Nat} (h : k < xs.length) : val (xs.take (k + 1)) = val (xs.take k) + B32 ^ k * xs.getD k 0 := by
 have := take_snoc_getD (ds := xs) (n := k + 1) (by omega) (by omega)
 rw [this, val_append]
 simp [val]; rw [Nat.min_eq_left (by omega)]
theorem val_take_ge {xs : List Nat} {k : Nat} (h : xs.length ≤ k) : val (xs.take k) = val xs := by rw [List.take_of_length_le h]
theorem add_digit {P x y c : Nat} : P * ((x + y + c) % 4294967296) + P * B32 * ((x + y + c) / 4294967296) = P * x + P * y + P * c := by
 have h := Nat.mod_add_div (x + y + c) B32
 simp only [B32] at h ⊢
 rw [Nat.mul_assoc, ← Nat.mul_add, h, Nat.mul_add, Nat.mul_add]
theorem add_step {A B xs : List Nat} {k c : Nat} (hv : val (xs.take k) + B32 ^ k * c = val (A.take k) + val (B.take k)) (hk : k < B.length) (hl : k < A.length ∧ xs.length = A.length + 1) :
  val ((xs.set k ((A.getD k 0 + B.getD k 0 + c) % 4294967296)).take (k + 1)) + B32 ^ (k + 1) * ((A.getD k 0 + B.getD k 0 + c) / 4294967296) = val (A.take (k + 1)) + val (B.take (k + 1)) := by
 rw [take_set (by omega), val_append, val_take_succ hl.1, val_take_succ hk, Nat.pow_succ]
 have hm : (xs.take k).length = k := by simp; omega
 rw [hm]
 simp only [val, Nat.mul_zero, Nat.add_zero]
 have := add_digit (P := B32 ^ k) (x := A.getD k 0) (y := B.getD k 0) (c := c)
 omega
theorem add_step0 {A B xs : List Nat} {k c : Nat} (hv : val (xs.take k) + B32 ^ k * c = val (A.take k) + val (B.take k)) (hB : B.length ≤ k) (hk : k < A.length) (hl : xs.length = A.length + 1) :
  val ((xs.set k ((A.getD k 0 + 0 + c) % 4294967296)).take (k + 1)) + B32 ^ (k + 1) * ((A.getD k 0 + 0 + c) / 4294967296) = val (A.take (k + 1)) + val (B.take (k + 1)) := by
 rw [take_set (by omega), val_append, val_take_succ hk, val_take_ge (xs := B) (by omega), Nat.pow_succ]
 rw [val_take_ge (xs := B) (by omega)] at hv
 have hm : (xs.take k).length = k := by simp; omega
 rw [hm]
 simp only [val, Nat.mul_zero, Nat.add_zero]
 have := add_digit (P := B32 ^ k) (x := A.getD k 0) (y := 0) (c := c)
 simp only [Nat.mul_zero, Nat.add_zero] at this
 omega
theorem val_set_top {xs : List Nat} {n c : Nat} (h : xs.length = n + 1) : val (xs.set n c) = val (xs.take n) + B32 ^ n * c := by
 have h2 : xs.set n c = xs.take n ++ [c] := by
  have := take_set (xs := xs) (k := n) (d := c) (by omega)
  rw [List.take_of_length_le (by simp; omega)] at this
  exact this
 have hm : (xs.take n).length = n := by simp; omega
 rw [h2, val_append, hm]
 simp [val]
end Go.Rt
namespace Go.Rt
open Go Go.RowKit
variable {X : Cx} {ops : Array Oper} {Q : Exit → Act → World → Prop} {rest : List Oper} {Γ : Gam} {H : Hp}
variable {dst : Option Tmp} {ty : TypeId} {pos : String} {af : Array Edge} {gd : Option (Nat × Bool)} {o : Oper} {T T' : Ty}
theorem then_mono {P : Program} {c : Code} {K K' : Act → World → Prop} {a : Act} {w : World} (h : ∀ a w, K a w → K' a w) (hc : c.wp P (Exit.then K Q) a w) : c.wp P (Exit.then K' Q) a w :=
 wp_mono hc fun e a w q => by cases e <;> first | exact h _ _ q | exact q
section
variable {α β γ δ : Type} {c : Code}
theorem JC.loop2 (G : α → β → Gam) (HH : α → β → Hp) (inv : α → β → Prop) (μ : α → β → Nat) (a0 : α) (b0 : β) (h0 : inv a0 b0) (hs0 : ∀ a w, Sat X Γ H a w → Sat X (G a0 b0) (HH a0 b0) a w)
  (round : ∀ i j, inv i j → JC X c (Exit.then (fun a w => ∃ k l, inv k l ∧ μ k l < μ i j ∧ Sat X (G k l) (HH k l) a w) Q) (G i j) (HH i j)) : JC X (.loop c) Q Γ H :=
 JC.loop (ι := α × β) (fun i => G i.1 i.2) (fun i => HH i.1 i.2) (fun i => inv i.1 i.2) (fun i => μ i.1 i.2) (a0, b0) h0 hs0 fun i hi a w hs => then_mono (fun _ _ ⟨k, l, h⟩ => ⟨(k, l), h⟩) (round i.1 i.2 hi a w hs)
theorem JQ.round2 {G : α → β → Gam} {HH : α → β → Hp} {inv : α → β → Prop} {μ : α → β → Nat} {i : α} {i2 : β} (j : α) (j2 : β) (hj : inv j j2) (hμ : μ j j2 < μ i i2) (hs : ∀ a w, Sat X Γ H a w → Sat X (G j j2) (HH j j2) a w) :
  JQ X (Exit.then (fun a w => ∃ k l, inv k l ∧ μ k l < μ i i2 ∧ Sat X (G k l) (HH k l) a w) Q) .normal Γ H := fun a w h => ⟨j, j2, hj, hμ, hs a w h⟩
theorem JC.loop3 (G : α → β → γ → Gam) (HH : α → β → γ → Hp) (inv : α → β → γ → Prop) (μ : α → β → γ → Nat) (a0 : α) (b0 : β) (c0 : γ) (h0 : inv a0 b0 c0) (hs0 : ∀ a w, Sat X Γ H a w → Sat X (G a0 b0 c0) (HH a0 b0 c0) a w)
  (round : ∀ i j k, inv i j k → JC X c (Exit.then (fun a w => ∃ l m n, inv l m n ∧ μ l m n < μ i j k ∧ Sat X (G l m n) (HH l m n) a w) Q) (G i j k) (HH i j k)) : JC X (.loop c) Q Γ H :=
 JC.loop (ι := α × β × γ) (fun i => G i.1 i.2.1 i.2.2) (fun i => HH i.1 i.2.1 i.2.2) (fun i => inv i.1 i.2.1 i.2.2) (fun i => μ i.1 i.2.1 i.2.2) (a0, b0, c0) h0 hs0 fun i hi a w hs => then_mono (fun _ _ ⟨k, l, m, h⟩ => ⟨(k, l, m), h⟩) (round i.1 i.2.1 i.2.2 hi a w hs)
theorem JQ.round3 {G : α → β → γ → Gam} {HH : α → β → γ → Hp} {inv : α → β → γ → Prop} {μ : α → β → γ → Nat} {i : α} {i2 : β} {i3 : γ} (j : α) (j2 : β) (j3 : γ) (hj : inv j j2 j3) (hμ : μ j j2 j3 < μ i i2 i3) (hs : ∀ a w, Sat X Γ H a w → Sat X (G j j2 j3) (HH j j2 j3) a w) :
  JQ X (Exit.then (fun a w => ∃ l m n, inv l m n ∧ μ l m n < μ i i2 i3 ∧ Sat X (G l m n) (HH l m n) a w) Q) .normal Γ H := fun a w h => ⟨j, j2, j3, hj, hμ, hs a w h⟩
theorem JC.loop4 (G : α → β → γ → δ → Gam) (HH : α → β → γ → δ → Hp) (inv : α → β → γ → δ → Prop) (μ : α → β → γ → δ → Nat) (a0 : α) (b0 : β) (c0 : γ) (d0 : δ) (h0 : inv a0 b0 c0 d0) (hs0 : ∀ a w, Sat X Γ H a w → Sat X (G a0 b0 c0 d0) (HH a0 b0 c0 d0) a w)
  (round : ∀ i j k l, inv i j k l → JC X c (Exit.then (fun a w => ∃ m n p q, inv m n p q ∧ μ m n p q < μ i j k l ∧ Sat X (G m n p q) (HH m n p q) a w) Q) (G i j k l) (HH i j k l)) : JC X (.loop c) Q Γ H :=
 JC.loop (ι := α × β × γ × δ) (fun i => G i.1 i.2.1 i.2.2.1 i.2.2.2) (fun i => HH i.1 i.2.1 i.2.2.1 i.2.2.2) (fun i => inv i.1 i.2.1 i.2.2.1 i.2.2.2) (fun i => μ i.1 i.2.1 i.2.2.1 i.2.2.2) (a0, b0, c0, d0) h0 hs0 fun i hi a w hs => then_mono (fun _ _ ⟨k, l, m, n, h⟩ => ⟨(k, l, m, n), h⟩) (round i.1 i.2.1 i.2.2.1 i.2.2.2 hi a w hs)
theorem JQ.round4 {G : α → β → γ → δ → Gam} {HH : α → β → γ → δ → Hp} {inv : α → β → γ → δ → Prop} {μ : α → β → γ → δ → Nat} {i : α} {i2 : β} {i3 : γ} {i4 : δ} (j : α) (j2 : β) (j3 : γ) (j4 : δ) (hj : inv j j2 j3 j4) (hμ : μ j j2 j3 j4 < μ i i2 i3 i4) (hs : ∀ a w, Sat X Γ H a w → Sat X (G j j2 j3 j4) (HH j j2 j3 j4) a w) :
  JQ X (Exit.then (fun a w => ∃ m n p q, inv m n p q ∧ μ m n p q < μ i i2 i3 i4 ∧ Sat X (G m n p q) (HH m n p q) a w) Q) .normal Γ H := fun a w h => ⟨j, j2, j3, j4, hj, hμ, hs a w h⟩
end
theorem wu32 {z : Int} (h0 : 0 ≤ z) (h1 : z < 4294967296) : IntKind.u32.wrap z = z := by simp [IntKind.wrap, IntKind.signed, IntKind.bits]; omega
theorem wu64 {z : Int} (h0 : 0 ≤ z) (h1 : z < 18446744073709551616) : IntKind.u64.wrap z = z := by simp [IntKind.wrap, IntKind.signed, IntKind.bits]; omega
theorem wu32_mod {z : Int} (h0 : 0 ≤ z) : IntKind.u32.wrap z = z % 4294967296 := by simp [IntKind.wrap, IntKind.signed, IntKind.bits]
theorem shr32_u64 {z : Int} (h0 : 0 ≤ z) : z.fdiv (2 ^ (min (32 : Int).toNat IntKind.u64.bits)) = z / 4294967296 := by
 have e : (2 ^ (min (32 : Int).toNat IntKind.u64.bits) : Int) = 4294967296 := by decide
 rw [e, Int.fdiv_eq_ediv_of_nonneg _ (by decide)]
theorem encD_in {z : Int} (h0 : 0 ≤ z) (h1 : z < 4294967296) : ∀ v s, (tIs (.int .u32 z)).p v s → (tV X8 z.toNat).p v s := fun v s e => by
 have e' : v = .int .u32 z := e
 subst e'
 have hz : z = (z.toNat : Int) := (Int.toNat_of_nonneg h0).symm
 refine ⟨rfl, ?_, by omega⟩
 rw [← hz]; rfl
theorem ot_com {t : TypeId} {x : Operand} {k : IntKind} {a r : Int} (hx : OpT Γ x (tIs (.int k a))) (hw : bitsOf .xor k (if k.signed then -1 else k.max) a = r) : R2 X Γ H ⟨dst, .unOp .xor t x, ty, pos, af, gd⟩ (tIs (.int k r)) :=
 V4 fun s w hs => by
  have h1 : s.eval x = .int k a := hx.ev hs (Y1 (by simp [Op.operands]))
  subst hw
  exact ⟨_, w, by simp [execOp, h1, Op.unary, Op.intBits, bitsOf], Below.refl _ _, rfl⟩
theorem bitsOf_and {a b : Nat} (ha : a < 4294967296) (hb : b < 4294967296) : bitsOf .and .u32 a b = ((a &&& b : Nat) : Int) := by
 have h : a &&& b < 4294967296 := Nat.lt_of_le_of_lt Nat.and_le_left ha
 have e : bitsOf .and .u32 a b = IntKind.u32.wrap ((BitVec.ofNat 32 a &&& BitVec.ofNat 32 b).toNat : Int) := by simp only [bitsOf, BitVec.ofInt_natCast]; rfl
 rw [e, BitVec.toNat_and, BitVec.toNat_ofNat, BitVec.toNat_ofNat]
 rw [Nat.mod_eq_of_lt (by simpa using ha), Nat.mod_eq_of_lt (by simpa using hb), wu32 (by omega) (by omega)]
theorem bitsOf_or {a b : Nat} (ha : a < 4294967296) (hb : b < 4294967296) : bitsOf .or .u32 a b = ((a ||| b : Nat) : Int) := by
 have h : a ||| b < 2 ^ 32 := Nat.or_lt_two_pow (by simpa using ha) (by simpa using hb)
 have e : bitsOf .or .u32 a b = IntKind.u32.wrap ((BitVec.ofNat 32 a ||| BitVec.ofNat 32 b).toNat : Int) := by simp only [bitsOf, BitVec.ofInt_natCast]; rfl
 rw [e, BitVec.toNat_or, BitVec.toNat_ofNat, BitVec.toNat_ofNat]
 rw [Nat.mod_eq_of_lt (by simpa using ha), Nat.mod_eq_of_lt (by simpa using hb), wu32 (by omega) (by omega)]
theorem bitsOf_xor {a b : Nat} (ha : a < 4294967296) (hb : b < 4294967296) : bitsOf .xor .u32 a b = ((a ^^^ b : Nat) : Int) := by
 have h : a ^^^ b < 2 ^ 32 := Nat.xor_lt_two_pow (by simpa using ha) (by simpa using hb)
 have e : bitsOf .xor .u32 a b = IntKind.u32.wrap ((BitVec.ofNat 32 a ^^^ BitVec.ofNat 32 b).toNat : Int) := by simp only [bitsOf, BitVec.ofInt_natCast]; rfl
 rw [e, BitVec.toNat_xor, BitVec.toNat_ofNat, BitVec.toNat_ofNat]
 rw [Nat.mod_eq_of_lt (by simpa using ha), Nat.mod_eq_of_lt (by simpa using hb), wu32 (by omega) (by omega)]
theorem bitsOf_or64 {a b : Nat} (ha : a < 18446744073709551616) (hb : b < 18446744073709551616) : bitsOf .or .u64 a b = ((a ||| b : Nat) : Int) := by
 have h : a ||| b < 2 ^ 64 := Nat.or_lt_two_pow (by simpa using ha) (by simpa using hb)
 have e : bitsOf .or .u64 a b = IntKind.u64.wrap ((BitVec.ofNat 64 a ||| BitVec.ofNat 64 b).toNat : Int) := by simp only [bitsOf, BitVec.ofInt_natCast]; rfl
 rw [e, BitVec.toNat_or, BitVec.toNat_ofNat, BitVec.toNat_ofNat]
 rw [Nat.mod_eq_of_lt (by simpa using ha), Nat.mod_eq_of_lt (by simpa using hb), wu64 (by omega) (by omega)]
theorem or_halves {h l : Nat} (hl : l < 4294967296) : (h * 4294967296) ||| l = h * 4294967296 + l := by
 have := Nat.two_pow_add_eq_or_of_lt (b := l) (i := 32) (by simpa using hl) h
 rw [show (2 ^ 32 : Nat) = 4294967296 by decide, Nat.mul_comm] at this
 exact this.symm
theorem or_halvesI {h l : Int} (h0 : 0 ≤ h) (h1 : h < 4294967296) (l0 : 0 ≤ l) (l1 : l < 4294967296) : bitsOf .or .u64 (h * 4294967296) l = h * 4294967296 + l := by
 obtain ⟨a, rfl⟩ := Int.eq_ofNat_of_zero_le h0
 obtain ⟨b, rfl⟩ := Int.eq_ofNat_of_zero_le l0
 have e := bitsOf_or64 (a := a * 4294967296) (b := b) (by omega) (by omega)
 rw [or_halves (by omega)] at e
 rw [show ((a : Int) * 4294967296) = ((a * 4294967296 : Nat) : Int) by omega, e]
 omega
theorem shl32_u64 {z : Int} (h0 : 0 ≤ z) (h1 : z < 4294967296) : IntKind.u64.wrap (z * 2 ^ (min (32 : Int).toNat IntKind.u64.bits)) = z * 4294967296 := by
 have e : (2 ^ (min (32 : Int).toNat IntKind.u64.bits) : Int) = 4294967296 := by decide
 rw [e, wu64 (by omega) (by omega)]
theorem top_bit {z : Nat} (h : z < 4294967296) : z / 2147483648 = (z.testBit 31).toNat := by
 rw [Nat.testBit_eq_decide_div_mod_eq]
 have : z / 2 ^ 31 < 2 := by omega
 rw [show (2 ^ 31 : Nat) = 2147483648 by decide] at *
 rcases Nat.lt_or_ge (z / 2147483648) 1 with q | q
 ·have : z / 2147483648 = 0 := by omega
  simp [this]
 ·have : z / 2147483648 = 1 := by omega
  simp [this]
theorem top_ge {z : Nat} (h : z < 4294967296) : z.testBit 31 = decide (2147483648 ≤ z) := by
 have := top_bit h
 cases hb : z.testBit 31
 ·rw [hb] at this; simp at this; symm; simp; omega
 ·rw [hb] at this; simp at this; symm; simp; omega
theorem borrow_nat {x y b : Nat} (hx : x < 4294967296) (hy : y < 4294967296) (hb : b ≤ 1) (d : Nat) (hd : d < 4294967296) (hdd : (d : Int) = (x : Int) - y - b ∨ (d : Int) = (x : Int) - y - b + 4294967296) :
  (((4294967295 ^^^ x) &&& y) ||| ((4294967295 ^^^ (x ^^^ y)) &&& d)) / 2147483648 = if x < y + b then 1 else 0 := by
 have hxy : x ^^^ y < 2 ^ 32 := Nat.xor_lt_two_pow (by simpa using hx) (by simpa using hy)
 have h1 : (4294967295 ^^^ x) &&& y < 2 ^ 32 := Nat.lt_of_le_of_lt Nat.and_le_right (by simpa using hy)
 have h2 : (4294967295 ^^^ (x ^^^ y)) &&& d < 2 ^ 32 := Nat.lt_of_le_of_lt Nat.and_le_right (by simpa using hd)
 have h3 := Nat.or_lt_two_pow h1 h2
 rw [top_bit (by simpa using h3)]
 have hm : Nat.testBit 4294967295 31 = true := by decide
 rw [Nat.testBit_or, Nat.testBit_and, Nat.testBit_and, Nat.testBit_xor, Nat.testBit_xor, Nat.testBit_xor, hm, top_ge hx, top_ge hy, top_ge hd]
 by_cases p : 2147483648 ≤ x <;> by_cases q : 2147483648 ≤ y <;> by_cases r : 2147483648 ≤ d <;> simp [p, q, r] <;> (first | omega | (split <;> omega) | skip)
theorem sub32_borrow {x y b : Int} (x0 : 0 ≤ x) (x1 : x < 4294967296) (y0 : 0 ≤ y) (y1 : y < 4294967296) (b0 : 0 ≤ b) (b1 : b ≤ 1) :
  (bitsOf .or .u32 (bitsOf .and .u32 (bitsOf .xor .u32 (if IntKind.signed .u32 then -1 else IntKind.max .u32) x) y) (bitsOf .and .u32 (bitsOf .xor .u32 (if IntKind.signed .u32 then -1 else IntKind.max .u32) (bitsOf .xor .u32 x y)) ((x - y - b) % 4294967296))).fdiv (2 ^ (min (31 : Int).toNat IntKind.u32.bits)) = if x < y + b then 1 else 0 := by
 have e : (2 ^ (min (31 : Int).toNat IntKind.u32.bits) : Int) = 2147483648 := by decide
 have em : (if IntKind.signed .u32 then -1 else IntKind.max .u32 : Int) = ((4294967295 : Nat) : Int) := by decide
 obtain ⟨x, rfl⟩ := Int.eq_ofNat_of_zero_le x0
 obtain ⟨y, rfl⟩ := Int.eq_ofNat_of_zero_le y0
 obtain ⟨b, rfl⟩ := Int.eq_ofNat_of_zero_le b0
 have hd0 : 0 ≤ ((x : Int) - y - b) % 4294967296 := by omega
 obtain ⟨d, hd⟩ := Int.eq_ofNat_of_zero_le hd0
 have hxn : x < 4294967296 := by omega
 have hyn : y < 4294967296 := by omega
 have hdn : d < 4294967296 := by omega
 have hxy : x ^^^ y < 2 ^ 32 := Nat.xor_lt_two_pow (by simpa using hxn) (by simpa using hyn)
 have h4 : 4294967295 ^^^ x < 2 ^ 32 := Nat.xor_lt_two_pow (by decide) (by simpa using hxn)
 have h5 : 4294967295 ^^^ (x ^^^ y) < 2 ^ 32 := Nat.xor_lt_two_pow (by decide) hxy
 have h1 : (4294967295 ^^^ x) &&& y < 2 ^ 32 := Nat.lt_of_le_of_lt Nat.and_le_right (by simpa using hyn)
 have h2 : (4294967295 ^^^ (x ^^^ y)) &&& d < 2 ^ 32 := Nat.lt_of_le_of_lt Nat.and_le_right (by simpa using hdn)
 rw [hd, em, e]
 rw [bitsOf_xor (by decide) hxn, bitsOf_and (by simpa using h4) hyn, bitsOf_xor hxn hyn, bitsOf_xor (by decide) (by simpa using hxy), bitsOf_and (by simpa using h5) hdn, bitsOf_or (by simpa using h1) (by simpa using h2)]
 rw [Int.fdiv_eq_ediv_of_nonneg _ (by decide)]
 have := borrow_nat hxn hyn (b := b) (by omega) d hdn (by omega)
 have h3 : (((((4294967295 ^^^ x) &&& y) ||| ((4294967295 ^^^ (x ^^^ y)) &&& d) : Nat) : Int) / 2147483648) = (((((4294967295 ^^^ x) &&& y) ||| ((4294967295 ^^^ (x ^^^ y)) &&& d)) / 2147483648 : Nat) : Int) := by omega
 rw [h3, this]
 split <;> split <;> omega
theorem mulb {x y : Int} (x0 : 0 ≤ x) (x1 : x < 4294967296) (y0 : 0 ≤ y) (y1 : y < 4294967296) : 0 ≤ x * y ∧ x * y ≤ 18446744065119617025 := by
 refine ⟨Int.mul_nonneg x0 y0, ?_⟩
 have := Int.mul_le_mul (show x ≤ 4294967295 by omega) (show y ≤ 4294967295 by omega) y0 (by decide)
 omega
theorem wu32_sub {z : Int} (_ : -4294967296 < z) : IntKind.u32.wrap z = z % 4294967296 := by simp [IntKind.wrap, IntKind.signed, IntKind.bits]
theorem wu32_sub2 {x y c : Int} (_ : 0 ≤ c) : IntKind.u32.wrap ((x - y) % 4294967296 - c) = (x - y - c) % 4294967296 := by simp [IntKind.wrap, IntKind.signed, IntKind.bits]
theorem wquo {z y : Int} (h0 : 0 ≤ z) (hy : 0 < y) (h1 : 0 ≤ z / y ∧ z / y < 4294967296) : IntKind.u64.wrap (z.tdiv y) = z / y := by
 rw [Int.tdiv_eq_ediv_of_nonneg h0, wu64 h1.1 (by omega)]
theorem div_small {h l y : Int} (h0 : 0 ≤ h) (l0 : 0 ≤ l) (l1 : l < 4294967296) (hlt : h < y) : (0 ≤ (h * 4294967296 + l) / y ∧ (h * 4294967296 + l) / y < 4294967296) ∧ 0 ≤ (h * 4294967296 + l) % y ∧ (h * 4294967296 + l) % y < y := by
 have hy : 0 < y := by omega
 refine ⟨⟨Int.ediv_nonneg (by omega) (by omega), ?_⟩, Int.emod_nonneg _ (by omega), Int.emod_lt_of_pos _ hy⟩
 refine Int.ediv_lt_of_lt_mul hy ?_
 have : (h + 1) * 4294967296 ≤ y * 4294967296 := Int.mul_le_mul_of_nonneg_right (by omega) (by decide)
 omega
theorem JC.join1 {α : Type} {x y : Code} (G : α → Gam) (HH : α → Hp) (inv : α → Prop) (h1 : JC X x (Exit.then (fun a w => ∃ i, inv i ∧ Sat X (G i) (HH i) a w) Q) Γ H) (h2 : ∀ i, inv i → JC X y Q (G i) (HH i)) : JC X (.seq x y) Q Γ H :=
 JC.seq fun a w hs => then_mono (fun a w ⟨i, hi, hs⟩ => h2 i hi a w hs) (h1 a w hs)
theorem JQ.join1 {α : Type} {G : α → Gam} {HH : α → Hp} {inv : α → Prop} (i : α) (hi : inv i) (hs : ∀ a w, Sat X Γ H a w → Sat X (G i) (HH i) a w) : JQ X (Exit.then (fun a w => ∃ i, inv i ∧ Sat X (G i) (HH i) a w) Q) .normal Γ H := fun a w h => ⟨i, hi, hs a w h⟩
theorem JC.join2 {α β : Type} {x y : Code} (G : α → β → Gam) (HH : α → β → Hp) (inv : α → β → Prop) (h1 : JC X x (Exit.then (fun a w => ∃ i j, inv i j ∧ Sat X (G i j) (HH i j) a w) Q) Γ H) (h2 : ∀ i j, inv i j → JC X y Q (G i j) (HH i j)) : JC X (.seq x y) Q Γ H :=
 JC.seq fun a w hs => then_mono (fun a w ⟨i, j, hi, hs⟩ => h2 i j hi a w hs) (h1 a w hs)
theorem JQ.join2 {α β : Type} {G : α → β → Gam} {HH : α → β → Hp} {inv : α → β → Prop} (i : α) (j : β) (hi : inv i j) (hs : ∀ a w, Sat X Γ H a w → Sat X (G i j) (HH i j) a w) : JQ X (Exit.then (fun a w => ∃ i j, inv i j ∧ Sat X (G i j) (HH i j) a w) Q) .normal Γ H := fun a w h => ⟨i, j, hi, hs a w h⟩
theorem ot_makeFunc1 {f : FuncId} {u : Value} {x : Operand} (hx : OpT Γ x (tIs u)) : R2 X Γ H ⟨dst, .makeFunc (.func f) #[] #[x], ty, pos, af, gd⟩ (tFn f [u]) :=
 V4 fun a w hs => by
  have h1 : a.eval x = u := hx.ev hs (Y1 (by simp [Op.operands]))
  exact ⟨_, w, by simp [execOp, h1, Instr.makeFunc], Below.refl _ _, rfl⟩
def AllL (Γ : Gam) (T : Ty) : List Nat → Prop
 | [] => True
 | t :: ts => look Γ t = some T ∧ AllL Γ T ts
theorem AllL.spec {Γ : Gam} {T : Ty} : ∀ {ts : List Nat}, AllL Γ T ts → ∀ t ∈ ts, look Γ t = some T
 | [], _, t, h => by cases h
 | t0 :: ts, h, t, ht => by
  cases ht with
  | head => exact h.1
  | tail _ ht => exact AllL.spec h.2 t ht
theorem U9 {α : Type} {E : Enc α} {xs : List α} {b e cap c n : Nat} {H' : Hp} (ts : List Nat) (hts : AllL Γ (sIs b 0 n c) ts) (hr : HRem ⟨b, e, Y5 E xs cap⟩ H H') (hn : n = xs.length) (hc : n ≤ c ∨ cap ≤ c) :
  ∀ a w, Sat X Γ H a w → Sat X (setTs Γ (tSl E xs) ts) H' a w := by
 have h := sub_freeze (X := X) (E := E) (k := 0) (n := n) (c := c) ts (by rw [Nat.zero_mul]; exact hts.spec) hr (by omega) hc
 rw [List.drop_zero, hn, List.take_length] at h
 exact h
theorem cTs_eq1 {T T' : Ty} (h : T = T') : ∀ cs s, (cTs [T]).p cs s → (cTs [T']).p cs s := fun _ _ q => h ▸ q
theorem K8 {α : Type} {E : Enc α} {xs ys : List α} {cap : Nat} (h : xs = ys) : ∀ cs s, (Y5 E xs cap).p cs s → (Y5 E ys cap).p cs s := fun _ _ q => h ▸ q
end Go.Rt
namespace Go.Rt
open Go Go.RowKit
variable {X : Cx} {ops : Array Oper} {Q : Exit → Act → World → Prop} {rest : List Oper} {Γ : Gam} {H : Hp}
variable {dst : Option Tmp} {ty : TypeId} {pos : String} {af : Array Edge} {gd : Option (Nat × Bool)} {o : Oper} {T T' : Ty}
theorem cellsP.one {s : St} : ∀ {Ts : List Ty} {cs : List Value}, cellsP Ts cs s → ∀ u ∈ cs, u.oneCell' = true
 | [], [], _ => fun u h => by cases h
 | [], _ :: _, h => h.elim
 | _ :: _, [], h => h.elim
 | _ :: _, _ :: _, h => fun u hu => by
  cases hu with
  | head => exact h.2.1
  | tail _ hu => exact cellsP.one h.2.2 u hu
theorem cellsP.drop {s : St} : ∀ (n : Nat) {Ts : List Ty} {cs : List Value}, cellsP Ts cs s → cellsP (Ts.drop n) (cs.drop n) s
 | 0, _, _, h => by simpa using h
 | n + 1, [], [], _ => trivial
 | n + 1, [], _ :: _, h => h.elim
 | n + 1, _ :: _, [], h => h.elim
 | n + 1, _ :: _, _ :: _, h => by simpa using cellsP.drop n h.2.2
theorem cellsP.take {s : St} : ∀ (n : Nat) {Ts : List Ty} {cs : List Value}, cellsP Ts cs s → cellsP (Ts.take n) (cs.take n) s
 | 0, _, _, h => by simp [cellsP]
 | n + 1, [], [], _ => trivial
 | n + 1, [], _ :: _, h => h.elim
 | n + 1, _ :: _, [], h => h.elim
 | n + 1, _ :: _, _ :: _, h => ⟨h.1, h.2.1, cellsP.take n h.2.2⟩
theorem cellsP.append {s : St} : ∀ {Ts Us : List Ty} {cs ds : List Value}, cellsP Ts cs s → cellsP Us ds s → cellsP (Ts ++ Us) (cs ++ ds) s
 | [], _, [], _, _, h => h
 | [], _, _ :: _, _, h, _ => h.elim
 | _ :: _, _, [], _, h, _ => h.elim
 | _ :: _, _, _ :: _, _, h, h' => ⟨h.1, h.2.1, cellsP.append h.2.2 h'⟩
def encF {α : Type} (n : Nat) (f : α → List Ty) : Enc α where
 sz := n
 ag := true
 C x cs s := (f x).length = n ∧ cellsP (f x) cs s
 up hl h := ⟨h.1, cellsP.up hl h.2⟩
 len h := by rw [cellsP.length h.2, h.1]
 one h := cellsP.one h.2
def encL (n : Nat) : Enc (List Ty) := encF n fun Ts => Ts
theorem Ty.eq {A B : Ty} (h : ∀ v s, A.p v s ↔ B.p v s) : A = B := by
 obtain ⟨p, _⟩ := A
 obtain ⟨q, _⟩ := B
 have e : p = q := by funext v s; exact propext (h v s)
 subst e; rfl
theorem K2 {α : Type} {n : Nat} {f : α → List Ty} {x : α} {Ts : List Ty} (h : f x = Ts) : tV (encF n f) x = tV (encL n) Ts := by subst h; rfl
theorem tV_F' {α : Type} {n : Nat} {f : α → List Ty} {x : α} {Ts : List Ty} (h : f x = Ts) : tV (encL n) Ts = tV (encF n f) x := by subst h; rfl
theorem tSl_map {α : Type} {n : Nat} {f : α → List Ty} {xs : List α} : tSl (encL n) (xs.map f) = tSl (encF n f) xs := Ty.eq fun v s => by
 constructor
 ·rintro ⟨A, m, c, h1, h2, h3, h4⟩
  refine ⟨A, m, c, h1, by simpa using h2, h3, fun hne => ?_⟩
  obtain ⟨b, o, h5, h6⟩ := h4 (by simpa using hne)
  exact ⟨b, o, h5, fun i x hx => h6 i (f x) (by simp [hx])⟩
 ·rintro ⟨A, m, c, h1, h2, h3, h4⟩
  refine ⟨A, m, c, h1, by simpa using h2, h3, fun hne => ?_⟩
  obtain ⟨b, o, h5, h6⟩ := h4 (by simpa using hne)
  refine ⟨b, o, h5, fun i Ts hT => ?_⟩
  rw [List.getElem?_map] at hT
  cases hx : xs[i]? with
  | none => rw [hx] at hT; cases hT
  | some x => rw [hx] at hT; cases hT; exact h6 i x hx
theorem J.boxF {α : Type} {n : Nat} {f : α → List Ty} {z : α} {Ts : List Ty} {d : Nat} {t : TypeId} {x : Operand} (hx : OpT Γ x (tV (encF n f) z)) (e : f z = Ts) (hN : d < X.N)
  (next : ∀ b, J X ops Q rest ((d, X7 b 0) :: Γ) (⟨b, t, cTs Ts⟩ :: H)) : J X ops Q (⟨some d, .box t x, ty, pos, af, none⟩ :: rest) Γ H :=
 J.box hx (fun v s h => by subst e; exact h.2.2) hN next
theorem cells_agg {Ts : List Ty} {cs : List Value} {s : St} {n : Nat} (h : cellsP Ts cs s) (hn : Ts.length = n) : (tV (encL n) Ts).p (.agg cs.toArray) s :=
 ⟨rfl, hn, by simpa [Value.cells] using h⟩
theorem cTs_lda {Ts Vs : List Ty} {o m : Nat} (h : (Ts.drop o).take m = Vs) (hm : Nat.ble (o + m) Ts.length = true) : ∀ cs s, (cTs Ts).p cs s → o + m ≤ cs.length ∧ (tV (encL m) Vs).p (.agg ((cs.drop o).take m).toArray) s := fun cs s hc => by
 have hl := cellsP.length hc
 have hm' := Nat.le_of_ble_eq_true hm
 refine ⟨by omega, ?_⟩
 subst h
 exact cells_agg (cellsP.take m (cellsP.drop o hc)) (by simp; omega)
theorem ldF {α : Type} {n : Nat} {f : α → List Ty} {x : α} {o : Nat} {T : Ty} (h : (f x)[o]? = some T) : ∀ cs s, (cDrop (cEnc (encF n f) x) o).p cs s → ∃ v, cs[0]? = some v ∧ T.p v s := fun cs s ⟨ds, hd, e⟩ => by
 obtain ⟨v, h1, h2⟩ := cellsP.get hd.2 h
 exact ⟨v, by rw [e, List.getElem?_drop]; exact h1, h2⟩
theorem ldFa {α : Type} {n : Nat} {f : α → List Ty} {x : α} {o m : Nat} {Vs : List Ty} (h : ((f x).drop o).take m = Vs) (hm : Nat.ble (o + m) n = true) : ∀ cs s, (cDrop (cEnc (encF n f) x) o).p cs s → m ≤ cs.length ∧ (tV (encL m) Vs).p (.agg (cs.take m).toArray) s := fun cs s ⟨ds, hd, e⟩ => by
 have hl := cellsP.length hd.2
 have hm' := Nat.le_of_ble_eq_true hm
 rw [hd.1] at hl
 refine ⟨by rw [e]; simp; omega, ?_⟩
 subst h
 rw [e]
 exact cells_agg (cellsP.take m (cellsP.drop o hd.2)) (by simp [hd.1]; omega)
theorem ldFa0 {α : Type} {n : Nat} {f : α → List Ty} {x : α} {m : Nat} {Vs : List Ty} (h : (f x).take m = Vs) (hm : Nat.ble m n = true) : ∀ cs s, (cEnc (encF n f) x).p cs s → m ≤ cs.length ∧ (tV (encL m) Vs).p (.agg (cs.take m).toArray) s := fun cs s hd => by
 have hl := cellsP.length hd.2
 have hm' := Nat.le_of_ble_eq_true hm
 rw [hd.1] at hl
 refine ⟨by omega, ?_⟩
 subst h
 exact cells_agg (cellsP.take m hd.2) (by simp [hd.1]; omega)
theorem Q6 {α : Type} {g : α → List Ty} {y : α} {Ts : List Ty} {o m : Nat} (h : (Ts.drop o).take m = g y) (hm : Nat.ble (o + m) Ts.length = true) : ∀ cs s, (cTs Ts).p cs s → o + m ≤ cs.length ∧ (tV (encF m g) y).p (.agg ((cs.drop o).take m).toArray) s := cTs_lda h hm
theorem ldFV {α β : Type} {n : Nat} {f : α → List Ty} {x : α} {g : β → List Ty} {y : β} {o m : Nat} (h : ((f x).drop o).take m = g y) (hm : Nat.ble (o + m) n = true) : ∀ cs s, (cDrop (cEnc (encF n f) x) o).p cs s → m ≤ cs.length ∧ (tV (encF m g) y).p (.agg (cs.take m).toArray) s := ldFa h hm
theorem ldFV0 {α β : Type} {n : Nat} {f : α → List Ty} {x : α} {g : β → List Ty} {y : β} {m : Nat} (h : (f x).take m = g y) (hm : Nat.ble m n = true) : ∀ cs s, (cEnc (encF n f) x).p cs s → m ≤ cs.length ∧ (tV (encF m g) y).p (.agg (cs.take m).toArray) s := ldFa0 h hm
theorem U3 {R : CTy} {o n : Nat} {T T' : Ty} (e : T = T') (h : ∀ cs s, R.p cs s → o + n ≤ cs.length ∧ T.p (.agg ((cs.drop o).take n).toArray) s) : ∀ cs s, R.p cs s → o + n ≤ cs.length ∧ T'.p (.agg ((cs.drop o).take n).toArray) s := e ▸ h
theorem Z4 {Ts Ts' Vs : List Ty} {o m : Nat} (hT : Ts' = Ts.take o ++ Vs ++ Ts.drop (o + m)) (ho : Nat.ble (o + m) Ts.length = true := by rfl) : ∀ cs v s, (cTs Ts).p cs s → (tV (encL m) Vs).p v s →
  v.cells.size = m ∧ o + m ≤ cs.length ∧ (∀ u ∈ v.cells.toList, u.oneCell' = true) ∧ (cTs Ts').p (cs.take o ++ v.cells.toList ++ cs.drop (o + m)) s := fun cs v s h hv => by
 have hl := cellsP.length h
 have hm' := Nat.le_of_ble_eq_true ho
 obtain ⟨_, h2, h3⟩ := hv
 have h2' : Vs.length = m := h2
 have h4 : v.cells.toList.length = Vs.length := cellsP.length h3
 refine ⟨by rw [← Array.length_toList]; omega, by omega, cellsP.one h3, ?_⟩
 subst hT
 exact cellsP.append (cellsP.append (cellsP.take o h) h3) (cellsP.drop (o + m) h)
def plB (P : Program) (t : TypeId) : Option (List (Nat × Nat) × List Value) :=
 match P.info? t, P.underlying t with
 | some it, some (.struct fields) =>
  match it.zero, fields.toList.mapM (fun f => (P.info? f.type).map fun i => (f.offset, i.size)) with
  | some z, some places => some (places, z.cells.toList)
  | _, _ => none
 | _, _ => none
theorem plB_built {P : Program} {t : TypeId} {pl : List (Nat × Nat)} {zs : List Value} (h : plB P t = some (pl, zs)) (parts : List (Nat × Value)) : P.built t parts = Instr.fill (pl.toArray[·]?) zs.toArray parts := by
 unfold plB at h
 unfold Program.built
 cases hi : P.info? t with
 | none => rw [hi] at h; cases h
 | some it =>
  rw [hi] at h
  cases hu : P.underlying t with
  | none => rw [hu] at h; cases h
  | some d =>
   rw [hu] at h
   cases d <;> first | (cases h; done) | skip
   rename_i fields
   dsimp only at h ⊢
   cases hz : it.zero with
   | none => rw [hz] at h; cases h
   | some z =>
    rw [hz] at h
    cases hp : fields.toList.mapM (fun f => (P.info? f.type).map fun i => (f.offset, i.size)) with
    | none => rw [hp] at h; cases h
    | some places => rw [hp] at h; cases h; simp
inductive Bld (Γ : Gam) (pl : List (Nat × Nat)) : List (Nat × Operand) → List Ty → List Ty → Prop
 | nil {Ts : List Ty} : Bld Γ pl [] Ts Ts
 | one {i off : Nat} {x : Operand} {T : Ty} {ps : List (Nat × Operand)} {Ts Ts' Us : List Ty} (hp : pl[i]? = some (off, 1)) (hx : OpT Γ x T) (h1 : ∀ v s, T.p v s → Value.cells v = #[v] ∧ v.oneCell' = true) (hT : Ts' = Ts.set off T) (ho : Nat.blt off Ts.length = true) (hs : Bld Γ pl ps Ts' Us) : Bld Γ pl ((i, x) :: ps) Ts Us
 | agg {i off m : Nat} {x : Operand} {Vs : List Ty} {ps : List (Nat × Operand)} {Ts Ts' Us : List Ty} (hp : pl[i]? = some (off, m)) (hx : OpT Γ x (tV (encL m) Vs)) (hT : Ts' = Ts.take off ++ Vs ++ Ts.drop (off + m)) (ho : Nat.ble (off + m) Ts.length = true) (hs : Bld Γ pl ps Ts' Us) : Bld Γ pl ((i, x) :: ps) Ts Us
theorem fill_bld {pl : List (Nat × Nat)} {a : Act} {s : St} : ∀ {ps : List (Nat × Operand)} {Ts Us : List Ty}, Bld Γ pl ps Ts Us → (∀ x (T : Ty), OpT Γ x T → (∃ j, (j, x) ∈ ps) → T.p (a.eval x) s) → ∀ (cs : List Value), cellsP Ts cs s →
  ∃ out : List Value, Instr.fill (pl.toArray[·]?) cs.toArray (ps.map fun p => (p.1, a.eval p.2)) = some out.toArray ∧ cellsP Us out s := by
 intro ps Ts Us h
 induction h with
 | nil => intro _ cs hc; exact ⟨cs, rfl, hc⟩
 | one hp hx h1 hT ho hs ih =>
  rename_i i off x T ps Ts Ts' Us
  intro hev cs hc
  have hv := hev x T hx ⟨i, .head _⟩
  have hl := cellsP.length hc
  have hlt := nat_blt.1 ho
  obtain ⟨e1, e2⟩ := h1 _ _ hv
  have hset := fold_set [a.eval x] 0 cs off (by simp; omega)
  simp only [Nat.add_zero, List.length_singleton] at hset
  subst hT
  obtain ⟨out, h3, h4⟩ := ih (fun y U hy hm => hev y U hy (by obtain ⟨j, hj⟩ := hm; exact ⟨j, .tail _ hj⟩)) _ (cellsP.set hv e2 hc hlt)
  refine ⟨out, ?_, h4⟩
  rw [← h3]
  simp only [List.map_cons, Instr.fill, List.getElem?_toArray, hp, e1]
  rw [if_neg (by simp; omega)]
  congr 1
 | agg hp hx hT ho hs ih =>
  rename_i i off m x Vs ps Ts Ts' Us
  intro hev cs hc
  have hv := hev x _ hx ⟨i, .head _⟩
  have hl := cellsP.length hc
  have hle := Nat.le_of_ble_eq_true ho
  obtain ⟨_, h2, h3⟩ := hv
  have h4 := cellsP.length h3
  have h2' : Vs.length = m := h2
  have hsz : (a.eval x).cells.size = m := by simp at h4; omega
  have hset := fold_set (a.eval x).cells.toList 0 cs off (by simp; omega)
  simp only [Nat.add_zero, Array.length_toList, hsz] at hset
  subst hT
  obtain ⟨out, h5, h6⟩ := ih (fun y U hy hm => hev y U hy (by obtain ⟨j, hj⟩ := hm; exact ⟨j, .tail _ hj⟩)) _ (cellsP.append (cellsP.append (cellsP.take off hc) h3) (cellsP.drop (off + m) hc))
  refine ⟨out, ?_, h6⟩
  rw [← h5]
  simp only [List.map_cons, Instr.fill, List.getElem?_toArray, hp]
  rw [if_neg (by simp [hsz]; omega)]
  congr 1
  rw [← hset]
  rw [← Array.foldl_toList, Array.toList_zipIdx]
theorem Bld.length {pl : List (Nat × Nat)} {ps : List (Nat × Operand)} {Ts Us : List Ty} (h : Bld Γ pl ps Ts Us) (hV : ∀ q ∈ pl, q.2 ≤ Ts.length) : True := trivial
theorem V7 {t n : Nat} {pl : List (Nat × Nat)} {zs : List Value} {Ts Us : List Ty} {ps : List (Nat × Operand)} (ht : plB X.P t = some (pl, zs)) (hz : ∀ s, cellsP Ts zs s) (hp : Bld Γ pl ps Ts Us) (hn : Us.length = n) :
  R2 X Γ H ⟨dst, .build t ps.toArray, ty, pos, af, gd⟩ (tV (encL n) Us) :=
 V4 fun a w hs => by
  have hev : ∀ x (T : Ty), OpT Γ x T → (∃ j, (j, x) ∈ ps) → T.p (a.eval x) ⟨w, mask X.M0 H⟩ := fun x T hx hm => by
   obtain ⟨j, hj⟩ := hm
   exact hx.ev hs (Y1 (by simp [Op.operands]; exact ⟨j, hj⟩))
  obtain ⟨out, h1, h2⟩ := fill_bld hp hev zs (hz _)
  refine ⟨.agg out.toArray, w, ?_, Below.refl _ _, cells_agg h2 hn⟩
  have hb := plB_built ht (ps.map fun p => (p.1, a.eval p.2))
  rw [h1] at hb
  have hr := run_build w t (ps.map fun p => (p.1, a.eval p.2)).toArray out.toArray (by simpa using hb)
  simp only [execOp, List.map_toArray, Sem.run_bind, Sem.run_map, hr]
  rfl
end Go.Rt
namespace Go.Rt
theorem digs_set {xs : List Nat} {k d : Nat} (h : U7 xs) (hd : d < 4294967296) : U7 (xs.set k d) := by
 intro x hx
 rcases List.mem_or_eq_of_mem_set hx with q | q
 ·exact h x q
 ·subst q; exact hd
theorem digs_rep (n : Nat) : U7 (List.replicate n 0) := by
 intro x hx; rw [List.mem_replicate] at hx; rw [hx.2]; decide
theorem val_rep (n : Nat) : val (List.replicate n 0) = 0 := by
 induction n with
 | zero => rfl
 | succ n ih => rw [List.replicate_succ, val, ih, Nat.mul_zero]
theorem digs_drop {ds : List Nat} (h : U7 ds) (n : Nat) : U7 (ds.drop n) := fun d hd => h d (List.mem_of_mem_drop hd)
theorem val_set {xs : List Nat} {k d : Nat} (h : k < xs.length) : val (xs.set k d) + B32 ^ k * xs.getD k 0 = val xs + B32 ^ k * d := by
 have e1 : xs.set k d = xs.take k ++ d :: xs.drop (k + 1) := List.set_eq_take_append_cons_drop .. |>.trans (by rw [if_pos h])
 have e2 : xs = xs.take k ++ xs.getD k 0 :: xs.drop (k + 1) := by
  have := List.take_append_drop k xs
  rw [List.drop_eq_getElem_cons h] at this
  rw [List.getD_eq_getElem?_getD, List.getElem?_eq_getElem h]
  first | (simp; done) | (simpa using this.symm)
 have hm : (xs.take k).length = k := by simp; omega
 have v1 : val (xs.set k d) = val (xs.take k) + B32 ^ k * (d + B32 * val (xs.drop (k + 1))) := by rw [e1, val_append, hm, val]
 have v2 : val xs = val (xs.take k) + B32 ^ k * (xs.getD k 0 + B32 * val (xs.drop (k + 1))) := by
  conv => lhs; rw [e2]
  rw [val_append, hm, val]
 rw [v1, v2, Nat.mul_add, Nat.mul_add]
 omega
theorem digD_set {xs : List Nat} {k d j : Nat} : (xs.set k d).getD j 0 = if k = j ∧ j < xs.length then d else xs.getD j 0 := by
 rw [List.getD_eq_getElem?_getD, List.getD_eq_getElem?_getD, List.getElem?_set]
 by_cases h : k = j
 ·subst h
  by_cases h2 : k < xs.length
  ·simp [h2]
  ·simp [h2]
 ·simp [h]
theorem add_done {A B xs a b : List Nat} {k c : Nat} (hxs : xs.length = A.length + 1) (hv : val (xs.take k) + B32 ^ k * c = val (A.take k) + val (B.take k)) (hk : k = A.length) (hB : B.length ≤ k) (hd : U7 xs) (hc : c ≤ 1) (hAB : val A + val B = val a + val b) :
  Q3 (xs.set A.length c) = dig (val a + val b) := by
 subst hk
 rw [W7 (digs_set hd (by omega)), val_set_top hxs, hv, val_take_ge (xs := A) (by omega), val_take_ge (xs := B) (by omega), hAB]
theorem sub_digitM {M P x y w : Nat} (hx : x < M) (hy : y < M) (hw : w ≤ 1) :
  P * ((x + M - y - w) % M) + P * y + P * w = P * x + P * M * (if x < y + w then 1 else 0) := by
 split
 ·have e : (x + M - y - w) % M = x + M - y - w := Nat.mod_eq_of_lt (by omega)
  rw [e, Nat.mul_one, ← Nat.mul_add, ← Nat.mul_add, ← Nat.mul_add]
  congr 1
  omega
 ·have e : (x + M - y - w) % M = x - y - w := by
   have e1 : x + M - y - w = x - y - w + M := by omega
   rw [e1, Nat.add_mod_right, Nat.mod_eq_of_lt (by omega)]
  rw [e, Nat.mul_zero, Nat.add_zero, ← Nat.mul_add, ← Nat.mul_add]
  congr 1
  omega
theorem sub_digit {P x y w : Nat} (hx : x < 4294967296) (hy : y < 4294967296) (hw : w ≤ 1) :
  P * ((x + 4294967296 - y - w) % 4294967296) + P * y + P * w = P * x + P * B32 * (if x < y + w then 1 else 0) := sub_digitM hx hy hw
theorem val_take_getD {xs : List Nat} (k : Nat) : val (xs.take (k + 1)) = val (xs.take k) + B32 ^ k * xs.getD k 0 := by
 rcases Nat.lt_or_ge k xs.length with q | q
 ·exact val_take_succ q
 ·rw [val_take_ge (by omega), val_take_ge q, List.getD_eq_getElem?_getD, List.getElem?_eq_none q]; simp
theorem sub_stepG {A B xs : List Nat} {k w d q : Nat} (hv : val (xs.take k) + val (B.take k) = val (A.take k) + B32 ^ k * w) (hk : k < xs.length)
  (h : B32 ^ k * d + B32 ^ k * B.getD k 0 + B32 ^ k * w = B32 ^ k * A.getD k 0 + B32 ^ k * B32 * q) :
  val ((xs.set k d).take (k + 1)) + val (B.take (k + 1)) = val (A.take (k + 1)) + B32 ^ (k + 1) * q := by
 rw [take_set hk, val_append, val_take_getD (xs := A), val_take_getD (xs := B), Nat.pow_succ]
 have hm : (xs.take k).length = k := by simp; omega
 rw [hm]
 simp only [val, Nat.mul_zero, Nat.add_zero]
 omega
theorem sub_step {A B xs : List Nat} {k w : Nat} (hA : U7 A) (hB : U7 B) (hv : val (xs.take k) + val (B.take k) = val (A.take k) + B32 ^ k * w) (hk : k < xs.length) (hw : w ≤ 1) :
  val ((xs.set k ((A.getD k 0 + 4294967296 - B.getD k 0 - w) % 4294967296)).take (k + 1)) + val (B.take (k + 1)) = val (A.take (k + 1)) + B32 ^ (k + 1) * (if A.getD k 0 < B.getD k 0 + w then 1 else 0) :=
 sub_stepG hv hk (sub_digit (getD_lt hA k) (getD_lt hB k) hw)
theorem sub_done {A B xs a b : List Nat} {k w : Nat} (hxs : xs.length = A.length) (hv : val (xs.take k) + val (B.take k) = val (A.take k) + B32 ^ k * w) (hk : k = A.length) (hB : B.length ≤ A.length) (hd : U7 xs) (ha : val A = val a) (hb : val B = val b) (h : val b ≤ val a) :
  Q3 xs = dig (val a - val b) := by
 subst hk
 rw [val_take_ge (xs := A) (by omega), val_take_ge (xs := B) hB, val_take_ge (xs := xs) (by omega)] at hv
 have hx := val_lt hd
 rw [hxs] at hx
 have hw : w = 0 := by
  rcases Nat.eq_zero_or_pos w with q | q
  ·exact q
  ·have : B32 ^ A.length * 1 ≤ B32 ^ A.length * w := Nat.mul_le_mul_left _ q
   omega
 subst hw
 rw [W7 hd]
 congr 1
 omega
theorem mul_digit {P r x y c : Nat} : P * ((r + x * y + c) % 4294967296) + P * B32 * ((r + x * y + c) / 4294967296) = P * r + P * (x * y) + P * c := by
 have h := Nat.mod_add_div (r + x * y + c) B32
 simp only [B32] at h ⊢
 rw [Nat.mul_assoc, ← Nat.mul_add, h, Nat.mul_add, Nat.mul_add]
theorem mul_bound {r x y c : Nat} (hr : r < 4294967296) (hx : x < 4294967296) (hy : y < 4294967296) (hc : c < 4294967296) : (r + x * y + c) / 4294967296 < 4294967296 := by
 have h1 : x * y ≤ 4294967295 * 4294967295 := Nat.mul_le_mul (by omega) (by omega)
 omega
theorem mul_step {B xs ys : List Nat} {i k c x : Nat} (hv : val ys + B32 ^ (i + k) * c = val xs + B32 ^ i * (x * val (B.take k))) (hk : i + k < ys.length) :
  val (ys.set (i + k) ((ys.getD (i + k) 0 + x * B.getD k 0 + c) % 4294967296)) + B32 ^ (i + (k + 1)) * ((ys.getD (i + k) 0 + x * B.getD k 0 + c) / 4294967296) = val xs + B32 ^ i * (x * val (B.take (k + 1))) := by
 have h1 := val_set (d := (ys.getD (i + k) 0 + x * B.getD k 0 + c) % 4294967296) hk
 have h2 := mul_digit (P := B32 ^ (i + k)) (r := ys.getD (i + k) 0) (x := x) (y := B.getD k 0) (c := c)
 rw [val_take_getD, Nat.mul_add, Nat.mul_add, ← Nat.add_assoc i k 1, Nat.pow_succ]
 have e : B32 ^ i * (x * (B32 ^ k * B.getD k 0)) = B32 ^ (i + k) * (x * B.getD k 0) := by
  rw [Nat.pow_add, Nat.mul_left_comm x, Nat.mul_assoc]
 rw [e]
 omega
theorem mul_top {xs ys B : List Nat} {A : List Nat} {i c : Nat} (hv : val ys + B32 ^ (i + B.length) * c = val xs + B32 ^ i * (A.getD i 0 * val B)) (hx : val xs = val (A.take i) * val B) (h0 : ys.getD (i + B.length) 0 = 0) (hl : i + B.length < ys.length) :
  val (ys.set (i + B.length) c) = val (A.take (i + 1)) * val B := by
 have h1 := val_set (d := c) hl
 rw [h0, Nat.mul_zero, Nat.add_zero] at h1
 rw [h1, hv, hx, val_take_getD, Nat.add_mul, Nat.mul_assoc]
theorem val_zero_getD {xs : List Nat} {A B : List Nat} {i : Nat} (hx : val xs = val (A.take i) * val B) (h : A.getD i 0 = 0) : val xs = val (A.take (i + 1)) * val B := by
 rw [val_take_getD, h, Nat.mul_zero, Nat.add_zero, hx]
theorem divs_step {A xs : List Nat} {n d r : Nat} (hv : val (A.drop n) = d * val (xs.drop n) + r) (h0 : 0 < n) (h1 : n ≤ A.length) (h2 : xs.length = A.length) :
  val (A.drop (n - 1)) = d * val ((xs.set (n - 1) ((r * 4294967296 + A.getD (n - 1) 0) / d)).drop (n - 1)) + (r * 4294967296 + A.getD (n - 1) 0) % d := by
 have eA : A.drop (n - 1) = A.getD (n - 1) 0 :: A.drop n := by
  rw [List.drop_eq_getElem_cons (by omega), show n - 1 + 1 = n by omega, List.getD_eq_getElem?_getD, List.getElem?_eq_getElem (by omega)]; rfl
 have eX : (xs.set (n - 1) ((r * 4294967296 + A.getD (n - 1) 0) / d)).drop (n - 1) = (r * 4294967296 + A.getD (n - 1) 0) / d :: xs.drop n := by
  rw [List.drop_eq_getElem_cons (by simp; omega), List.getElem_set_self, show n - 1 + 1 = n by omega]
  congr 1
  rw [List.drop_set_of_lt (by omega)]
 rw [eA, eX, val, val, hv, Nat.mul_add, Nat.mul_add]
 have := Nat.div_add_mod (r * 4294967296 + A.getD (n - 1) 0) d
 have e : B32 * (d * val (xs.drop n)) = d * (B32 * val (xs.drop n)) := Nat.mul_left_comm ..
 simp only [B32] at *
 omega
theorem divs_digit {r a d : Nat} (hr : r < d) (ha : a < 4294967296) : (r * 4294967296 + a) / d < 4294967296 := by
 rw [Nat.div_lt_iff_lt_mul (by omega)]
 have : (r + 1) * 4294967296 ≤ 4294967296 * d := by rw [Nat.mul_comm]; exact Nat.mul_le_mul_left _ hr
 omega
theorem divs_done {A xs a : List Nat} {n d r : Nat} (hv : val (A.drop n) = d * val (xs.drop n) + r) (h0 : n = 0) (hr : r < d) (hd : U7 xs) (ha : val A = val a) :
  Q3 xs = dig (val a / d) ∧ r = val a % d := by
 subst h0
 simp only [List.drop_zero] at hv
 rw [ha] at hv
 have h1 : val a / d = val xs := by rw [hv, Nat.mul_add_div (by omega), Nat.div_eq_of_lt hr, Nat.add_zero]
 have h2 : val a % d = r := by rw [hv, Nat.mul_add_mod, Nat.mod_eq_of_lt hr]
 rw [W7 hd, h1, h2]
 exact ⟨rfl, rfl⟩
theorem cmpN_neg {a b : Nat} (h : cmpN a b < 0) : a < b := by
 unfold cmpN at h; split at h
 ·assumption
 ·split at h <;> omega
theorem cmpN_nonneg {a b : Nat} (h : ¬ cmpN a b < 0) : b ≤ a := by
 unfold cmpN at h; split at h <;> omega
theorem dig_len_mono {a b : Nat} (h : a ≤ b) : (dig a).length ≤ (dig b).length := R8 (Nat.lt_of_le_of_lt h (lt_dig_len b))
theorem getD_ge {xs : List Nat} {k : Nat} (h : xs.length ≤ k) : xs.getD k 0 = 0 := by rw [List.getD_eq_getElem?_getD, List.getElem?_eq_none h]; rfl
theorem getD_rep (n j : Nat) : (List.replicate n 0).getD j 0 = 0 := by
 rw [List.getD_eq_getElem?_getD, List.getElem?_replicate]; split <;> rfl
theorem mul_zero_or {a b : Nat} (h : a = 0 ∨ b = 0) : dig (a * b) = [] := by
 rcases h with rfl | rfl
 ·rw [Nat.zero_mul, dig_zero]
 ·rw [Nat.mul_zero, dig_zero]
theorem nat_cast_toNat {d : Int} (h : 0 ≤ d) : ((d.toNat : Nat) : Int) = d := Int.toNat_of_nonneg h
theorem mod_nat {r a : Nat} {d : Int} (h : 0 ≤ d) : ((((r * 4294967296 + a) % d.toNat : Nat) : Int)) = ((r : Int) * 4294967296 + (a : Int)) % d := by
 rw [Int.natCast_emod, Int.natCast_add, Int.natCast_mul, nat_cast_toNat h]; rfl
theorem div_nat {r a : Nat} {d : Int} (h : 0 ≤ d) : (((r : Int) * 4294967296 + (a : Int)) / d).toNat = (r * 4294967296 + a) / d.toNat := by
 have e : ((((r * 4294967296 + a) / d.toNat : Nat) : Int)) = ((r : Int) * 4294967296 + (a : Int)) / d := by
  rw [Int.natCast_ediv, Int.natCast_add, Int.natCast_mul, nat_cast_toNat h]; rfl
 rw [← e, Int.toNat_natCast]
theorem div_nat0 {z d : Int} (h : 0 ≤ z ∧ 0 ≤ d) : 0 ≤ z / d := Int.ediv_nonneg h.1 h.2
theorem div_lt {r a d : Int} (h : 0 ≤ r) (h1 : r < d) (h2 : a < 4294967296) : (r * 4294967296 + a) / d < 4294967296 := by
 rw [Int.ediv_lt_iff_lt_mul (by omega)]
 have : (r + 1) * 4294967296 ≤ 4294967296 * d := by rw [Int.mul_comm]; exact Int.mul_le_mul_of_nonneg_left h1 (by decide)
 omega
theorem digAtN {xs : List Nat} {j : Nat} (h2 : j < xs.length) : xs[j]? = some (xs.getD j 0) := by
 simp [List.getD_eq_getElem?_getD, List.getElem?_eq_getElem h2]
end Go.Rt
namespace Go.Rt
theorem val_cut (u : List Nat) {j : Nat} (h : j ≤ u.length) : val u = val (u.take j) + B32 ^ j * val (u.drop j) := by
 have e := val_append (u.take j) (u.drop j)
 rw [List.take_append_drop] at e
 have : (u.take j).length = j := by simp; omega
 rw [this] at e; exact e
theorem val_drop1 (u : List Nat) (j : Nat) : val (u.drop j) = u.getD j 0 + B32 * val (u.drop (j + 1)) := by
 rcases Nat.lt_or_ge j u.length with h | h
 ·rw [List.drop_eq_getElem_cons h, val]; simp [List.getD_eq_getElem?_getD, List.getElem?_eq_getElem h]
 ·rw [List.drop_of_length_le h, List.drop_of_length_le (by omega), getD_ge h]; rfl
theorem pow_pos' (n : Nat) : 0 < B32 ^ n := Nat.pow_pos (by decide)
theorem val_take_lt {u : List Nat} (h : U7 u) (j : Nat) : val (u.take j) < B32 ^ j := by
 have h1 := val_lt (digs_take h j)
 have h2 : (u.take j).length ≤ j := by simp; omega
 exact Nat.lt_of_lt_of_le h1 (Nat.pow_le_pow_right (by decide) h2)
theorem T9 {u : List Nat} (h : U7 u) (j : Nat) : u.getD j 0 < 4294967296 := by
 rcases Nat.lt_or_ge j u.length with q | q
 ·exact h _ (List.mem_of_getElem? (digAtN q))
 ·rw [getD_ge q]; decide
theorem val_drop_same {U u : List Nat} (hl : U.length = u.length) {t : Nat} (h : ∀ i, t ≤ i → U.getD i 0 = u.getD i 0) : val (U.drop t) = val (u.drop t) := by
 have key : ∀ m t, u.length - t ≤ m → (∀ i, t ≤ i → U.getD i 0 = u.getD i 0) → val (U.drop t) = val (u.drop t) := by
  intro m
  induction m with
  | zero => intro t ht _; rw [List.drop_of_length_le (by omega), List.drop_of_length_le (by omega)]
  | succ m ih =>
   intro t ht h
   rcases Nat.lt_or_ge t u.length with q | q
   ·rw [val_drop1 U t, val_drop1 u t, h t (Nat.le_refl _), ih (t + 1) (by omega) fun i hi => h i (by omega)]
   ·rw [List.drop_of_length_le (by omega), List.drop_of_length_le (by omega)]
 exact key _ t (Nat.le_refl _) h
theorem guess_big {g top next rest u2 u3 V w E : Nat} (hg : g * top + rest = u2) (hV : (top * 4294967296 + next) * E ≤ V) (hw : w < (u2 * 4294967296 + u3 + 1) * E) (hq : w < V * 4294967296)
  (hc : 4294967296 ≤ g ∨ rest * 4294967296 + u3 < g * next) : w < g * V := by
 rcases hc with h | h
 ·have : V * 4294967296 ≤ V * g := Nat.mul_le_mul_left V h
  rw [Nat.mul_comm V g] at this; omega
 ·have h1 : u2 * 4294967296 + u3 + 1 ≤ g * (top * 4294967296 + next) := by
   have e : g * (top * 4294967296 + next) = (g * top) * 4294967296 + g * next := by rw [Nat.mul_add, Nat.mul_assoc]
   rw [e]; omega
  have h2 := Nat.mul_le_mul_right E h1
  have h3 := Nat.mul_le_mul_left g hV
  rw [← Nat.mul_assoc] at h3
  omega
theorem guess_ok {g top next rest u2 u3 V w E : Nat} (hg : g * top + rest = u2) (hV : (top * 4294967296 + next) * E ≤ V) (hV2 : V < (top * 4294967296 + next + 1) * E) (hw : (u2 * 4294967296 + u3) * E ≤ w) (ht : 0 < top) (hE : 0 < E) (hb : g < 4294967296)
  (hc : g * next ≤ rest * 4294967296 + u3) : g * V < w + V := by
 have hVp : 4294967296 * E ≤ V := by
  have h1 : 4294967296 ≤ top * 4294967296 + next := by omega
  exact Nat.le_trans (Nat.mul_le_mul_right E h1) hV
 rcases Nat.eq_zero_or_pos g with h | h
 ·subst h; have : 0 < 4294967296 * E := Nat.mul_pos (by decide) hE; omega
 ·have h1 : g * V < g * ((top * 4294967296 + next + 1) * E) := Nat.mul_lt_mul_of_pos_left hV2 h
  have h2 : g * ((top * 4294967296 + next + 1) * E) = (g * (top * 4294967296 + next)) * E + g * E := by grind
  have h3 : g * (top * 4294967296 + next) ≤ u2 * 4294967296 + u3 := by
   have e : g * (top * 4294967296 + next) = (g * top) * 4294967296 + g * next := by rw [Nat.mul_add, Nat.mul_assoc]
   rw [e]; omega
  have h4 := Nat.mul_le_mul_right E h3
  have h5 : g * E ≤ 4294967296 * E := Nat.mul_le_mul_right E (Nat.le_of_lt hb)
  omega
theorem guess_brk {g next rest u3 : Nat} (hn : next < 4294967296) (hb : g < 4294967296) (hr : 4294967296 ≤ rest) : g * next ≤ rest * 4294967296 + u3 := by
 have h1 : g * next ≤ 4294967296 * 4294967296 := Nat.mul_le_mul (Nat.le_of_lt hb) (Nat.le_of_lt hn)
 have h2 : 4294967296 * 4294967296 ≤ rest * 4294967296 := Nat.mul_le_mul_right _ hr
 omega
theorem guess_lt {g top rest u2 : Nat} (hg : g * top + rest = u2) (hu : u2 < (top + 1) * 4294967296) (hr : 4294967296 ≤ rest) : g < 4294967296 := by
 rcases Nat.lt_or_ge g 4294967296 with h | h
 ·exact h
 ·have := Nat.mul_le_mul_right top h
  rw [Nat.add_mul, Nat.mul_comm top] at hu
  omega
theorem guess_u2 {top next u2 u3 V w E : Nat} (hV2 : V < (top * 4294967296 + next + 1) * E) (hw : (u2 * 4294967296 + u3) * E ≤ w) (hq : w < V * 4294967296) (hn : next < 4294967296) (hE : 0 < E) : u2 < (top + 1) * 4294967296 := by
 rcases Nat.lt_or_ge u2 ((top + 1) * 4294967296) with h | h
 ·exact h
 ·exfalso
  have h1 : (top * 4294967296 + next + 1) * 4294967296 ≤ u2 * 4294967296 + u3 := by
   have : top * 4294967296 + next + 1 ≤ (top + 1) * 4294967296 := by rw [Nat.add_mul]; omega
   exact Nat.le_trans (Nat.mul_le_mul_right 4294967296 (Nat.le_trans this h)) (Nat.le_add_right _ _)
  have h2 := Nat.mul_le_mul_right E h1
  have h3 : (top * 4294967296 + next + 1) * 4294967296 * E = (top * 4294967296 + next + 1) * E * 4294967296 := by grind
  omega
structure KInv (a0 : Nat) (v u q : List Nat) (n m k : Nat) : Prop where
 lu : u.length = m + n
 lq : q.length = m
 du : U7 u
 dq : U7 q
 hk : k ≤ m
 eq : val v * val q + val u = a0
 lt : val u < val v * B32 ^ k
 z : ∀ i, i < k → q.getD i 0 = 0
theorem val_v {v : List Nat} {n : Nat} (hl : v.length = n + 2) (hd : U7 v) : (v.getD (n + 1) 0 * 4294967296 + v.getD n 0) * B32 ^ n ≤ val v ∧ val v < (v.getD (n + 1) 0 * 4294967296 + v.getD n 0 + 1) * B32 ^ n := by
 have e := val_cut v (j := n) (by omega)
 rw [val_drop1 v n, val_drop1 v (n + 1), List.drop_of_length_le (show v.length ≤ n + 1 + 1 by omega)] at e
 have hlt := val_take_lt hd n
 simp only [val, Nat.mul_zero, Nat.add_zero] at e
 have e2 : B32 ^ n * (v.getD n 0 + B32 * v.getD (n + 1) 0) = (v.getD (n + 1) 0 * 4294967296 + v.getD n 0) * B32 ^ n := by simp only [B32]; grind
 rw [e2] at e
 refine ⟨by omega, ?_⟩
 rw [Nat.add_mul (v.getD (n + 1) 0 * 4294967296 + v.getD n 0) 1]
 omega
section
variable {a0 : Nat} {v u q : List Nat} {n m k : Nat}
theorem KInv.w_lt (h : KInv a0 v u q n m (k + 1)) : val (u.drop k) < val v * 4294967296 := by
 have e := val_cut u (j := k) (by have := h.lu; have := h.hk; omega)
 have hl := h.lt
 rw [Nat.pow_succ, ← Nat.mul_assoc, Nat.mul_comm (val v) (B32 ^ k), Nat.mul_assoc] at hl
 have h2 : B32 ^ k * val (u.drop k) < B32 ^ k * (val v * B32) := by omega
 exact Nat.lt_of_mul_lt_mul_left h2
theorem KInv.top0 (h : KInv a0 v u q n m (k + 1)) (hv : v.length = n) (hd : U7 v) : val (u.drop (k + n + 1)) = 0 := by
 have hw := h.w_lt
 have hV := val_lt hd
 rw [hv] at hV
 have hl : k + n + 1 ≤ u.length := by have := h.lu; have := h.hk; omega
 have e := val_cut (u.drop k) (j := n + 1) (by simp; omega)
 rw [List.drop_drop, show k + (n + 1) = k + n + 1 by omega] at e
 rcases Nat.eq_zero_or_pos (val (u.drop (k + n + 1))) with q | q
 ·exact q
 ·exfalso
  have h1 : B32 ^ (n + 1) * 1 ≤ B32 ^ (n + 1) * val (u.drop (k + n + 1)) := Nat.mul_le_mul_left _ q
  have h2 : val v * 4294967296 < B32 ^ n * 4294967296 := Nat.mul_lt_mul_of_pos_right hV (by decide)
  have h3 : B32 ^ (n + 1) = B32 ^ n * 4294967296 := Nat.pow_succ ..
  omega
theorem KInv.w (h : KInv a0 v u q (n + 2) m (k + 1)) (hv : v.length = n + 2) (hd : U7 v) :
  ((u.getD (k + (n + 2)) 0 * 4294967296 + u.getD (k + n + 1) 0) * 4294967296 + u.getD (k + n) 0) * B32 ^ n ≤ val (u.drop k) ∧
  val (u.drop k) < ((u.getD (k + (n + 2)) 0 * 4294967296 + u.getD (k + n + 1) 0) * 4294967296 + u.getD (k + n) 0 + 1) * B32 ^ n := by
 have h0 := h.top0 hv hd
 have hl : k + n + 3 ≤ u.length := by have := h.lu; have := h.hk; omega
 have e := val_cut (u.drop k) (j := n) (by simp; omega)
 rw [List.drop_drop, val_drop1 u (k + n), val_drop1 u (k + n + 1), val_drop1 u (k + n + 1 + 1), show k + n + 1 + 1 + 1 = k + (n + 2) + 1 by omega, h0, show k + n + 1 + 1 = k + (n + 2) by omega] at e
 have hlt : val ((u.drop k).take n) < B32 ^ n := val_take_lt (digs_drop h.du k) n
 have e2 : B32 ^ n * (u.getD (k + n) 0 + B32 * (u.getD (k + n + 1) 0 + B32 * (u.getD (k + (n + 2)) 0 + B32 * 0))) = ((u.getD (k + (n + 2)) 0 * 4294967296 + u.getD (k + n + 1) 0) * 4294967296 + u.getD (k + n) 0) * B32 ^ n := by simp only [B32]; grind
 rw [e2] at e
 refine ⟨by omega, ?_⟩
 rw [Nat.add_mul ((u.getD (k + (n + 2)) 0 * 4294967296 + u.getD (k + n + 1) 0) * 4294967296 + u.getD (k + n) 0) 1]
 omega
theorem KInv.step (h : KInv a0 v u q n m (k + 1)) {U : List Nat} {Q : Nat} (hl : U.length = u.length) (hd : U7 U) (hQ : Q = val (u.drop k) / val v) (he : val U + Q * val v * B32 ^ k = val u) (hp : 0 < val v) : KInv a0 v U (q.set k Q) n m k := by
 have hk := h.hk
 have hlu := h.lu
 have hw := h.w_lt
 have hQb : Q < 4294967296 := by rw [hQ]; exact Nat.div_lt_of_lt_mul hw
 refine ⟨hl.trans h.lu, by simp [h.lq], hd, digs_set h.dq hQb, by omega, ?_, ?_, fun i hi => ?_⟩
 ·have e := val_set (xs := q) (k := k) (d := Q) (by have := h.lq; omega)
  rw [h.z k (by omega), Nat.mul_zero, Nat.add_zero] at e
  rw [e, ← h.eq, ← he]
  grind
 ·have e := val_cut u (j := k) (by omega)
  have ht := val_take_lt h.du k
  have hm := Nat.mod_lt (val (u.drop k)) hp
  have hdm := Nat.div_add_mod (val (u.drop k)) (val v)
  rw [← hQ] at hdm
  have e2 : B32 ^ k * val (u.drop k) = Q * val v * B32 ^ k + val (u.drop k) % val v * B32 ^ k := by rw [← hdm]; grind
  have h3 : (val (u.drop k) % val v + 1) * B32 ^ k ≤ val v * B32 ^ k := Nat.mul_le_mul_right _ hm
  rw [Nat.add_mul] at h3
  omega
 ·rw [digD_set, if_neg (by omega)]; exact h.z i (by omega)
def tN (a s : Nat) : Nat := if a < s then a + 18446744073709551616 - s else a - s
theorem tN_digit {a s : Nat} (ha : a < 4294967296) (hs : s ≤ 4294967296) : tN a s % 4294967296 + s = a + 4294967296 * (tN a s / 9223372036854775808) := by
 unfold tN; split <;> omega
theorem tN_lt {a s : Nat} (ha : a < 4294967296) (hs : s ≤ 4294967296) : tN a s < 18446744073709551616 ∧ tN a s / 9223372036854775808 ≤ 1 := by
 unfold tN; split <;> omega
structure MInv (u v : List Nat) (g k i : Nat) (U : List Nat) (c b : Nat) : Prop where
 lU : U.length = u.length
 dU : U7 U
 same : ∀ t, t < k ∨ k + i ≤ t → U.getD t 0 = u.getD t 0
 hc : c < 4294967296
 hb : b ≤ 1
 eq : val U + g * val (v.take i) * B32 ^ k = val u + (b + c) * B32 ^ (k + i)
theorem MInv.start (hd : U7 u) {g : Nat} : MInv u v g k 0 u 0 0 := ⟨rfl, hd, fun _ _ => rfl, by decide, by decide, by simp [val]⟩
theorem MInv.p_lt {g i c b : Nat} {U : List Nat} (h : MInv u v g k i U c b) (hg : g < 4294967296) (hv : U7 v) : g * v.getD i 0 + c < 18446744073709551616 ∧ (g * v.getD i 0 + c) / 4294967296 < 4294967296 := by
 have hx := T9 hv i
 have hc := h.hc
 have h1 : g * v.getD i 0 ≤ 4294967295 * 4294967295 := Nat.mul_le_mul (by omega) (by omega)
 constructor <;> omega
theorem MInv.next {g i c b : Nat} {U : List Nat} (h : MInv u v g k i U c b) (hg : g < 4294967296) (hv : U7 v) (hi : i < v.length) (hk : k + i < u.length) :
  MInv u v g k (i + 1) (U.set (k + i) (tN (U.getD (k + i) 0) (b + (g * v.getD i 0 + c) % 4294967296) % 4294967296)) ((g * v.getD i 0 + c) / 4294967296) (tN (U.getD (k + i) 0) (b + (g * v.getD i 0 + c) % 4294967296) / 9223372036854775808) := by
 have ha := T9 h.dU (k + i)
 have hb := h.hb
 have hs : b + (g * v.getD i 0 + c) % 4294967296 ≤ 4294967296 := by omega
 have hp := h.p_lt hg hv
 refine ⟨by simp [h.lU], digs_set h.dU (Nat.mod_lt _ (by decide)), fun t ht => ?_, hp.2, (tN_lt ha hs).2, ?_⟩
 ·rw [digD_set, if_neg (by omega)]; exact h.same t (by omega)
 ·have e := val_set (xs := U) (k := k + i) (d := tN (U.getD (k + i) 0) (b + (g * v.getD i 0 + c) % 4294967296) % 4294967296) (by have := h.lU; omega)
  have e1 := tN_digit ha hs
  have e2 := h.eq
  have e3 := val_take_succ (xs := v) (k := i) hi
  have e4 := Nat.mod_add_div (g * v.getD i 0 + c) 4294967296
  rw [e3]
  have e5 : B32 ^ (k + (i + 1)) = B32 ^ k * B32 ^ i * 4294967296 := by rw [show k + (i + 1) = (k + i) + 1 by omega, Nat.pow_succ, Nat.pow_add]
  have e6 : B32 ^ (k + i) = B32 ^ k * B32 ^ i := Nat.pow_add ..
  rw [e5]
  rw [e6] at e e2
  generalize B32 ^ k = P at *
  generalize B32 ^ i = R at *
  generalize tN (U.getD (k + i) 0) (b + (g * v.getD i 0 + c) % 4294967296) % 4294967296 = td at *
  generalize tN (U.getD (k + i) 0) (b + (g * v.getD i 0 + c) % 4294967296) / 9223372036854775808 = tb at *
  generalize (g * v.getD i 0 + c) / 4294967296 = c' at *
  generalize hlo : (g * v.getD i 0 + c) % 4294967296 = lo at *
  generalize val (U.set (k + i) td) = W at *
  generalize U.getD (k + i) 0 = a at *
  generalize v.getD i 0 = x at *
  generalize val (v.take i) = y at *
  generalize val U = z at *
  have e7 : W + P * R * a + (z + g * y * P) + g * x * (P * R) + (b + lo) * (P * R) + c * (P * R) = z + P * R * td + (val u + (b + c) * (P * R)) + g * x * (P * R) + (b + lo) * (P * R) + c * (P * R) := by rw [e, e2]
  have e8 : P * R * td + (b + lo) * (P * R) = P * R * (a + 4294967296 * tb) := by rw [← e1]; grind
  have e9 : g * x * (P * R) + c * (P * R) = lo * (P * R) + 4294967296 * c' * (P * R) := by rw [← Nat.add_mul, ← Nat.add_mul, e4]
  grind
theorem MInv.top {g c b : Nat} {U : List Nat} (h : MInv u v g k v.length U c b) (hk : k + v.length < u.length) :
  val (U.set (k + v.length) (tN (U.getD (k + v.length) 0) (b + c) % 4294967296)) + g * val v * B32 ^ k = val u + B32 ^ (k + v.length + 1) * (tN (U.getD (k + v.length) 0) (b + c) / 9223372036854775808) := by
 have ha := T9 h.dU (k + v.length)
 have hb := h.hb
 have hc := h.hc
 have hs : b + c ≤ 4294967296 := by omega
 have e := val_set (xs := U) (k := k + v.length) (d := tN (U.getD (k + v.length) 0) (b + c) % 4294967296) (by have := h.lU; omega)
 have e1 := tN_digit ha hs
 have e2 := h.eq
 rw [List.take_length] at e2
 rw [Nat.pow_succ]
 generalize B32 ^ (k + v.length) = R at *
 generalize tN (U.getD (k + v.length) 0) (b + c) % 4294967296 = td at *
 generalize tN (U.getD (k + v.length) 0) (b + c) / 9223372036854775808 = tb at *
 generalize val (U.set (k + v.length) td) = W at *
 generalize U.getD (k + v.length) 0 = a at *
 have e8 : R * td + (b + c) * R = R * a + R * 4294967296 * tb := by
  have : R * (td + (b + c)) = R * (a + 4294967296 * tb) := by rw [e1]
  grind
 have e9 : R * B32 * tb = R * 4294967296 * tb := rfl
 omega
theorem K_yes {g : Nat} {U : List Nat} (h : KInv a0 v u q n m (k + 1)) (he : val U + g * val v * B32 ^ k = val u) (hlo : val (u.drop k) < (g + 1) * val v) (hp : 0 < val v) : g = val (u.drop k) / val v := by
 have e := val_cut u (j := k) (by have := h.lu; have := h.hk; omega)
 have ht := val_take_lt h.du k
 have h1 : g * val v ≤ val (u.drop k) := by
  have h2 : B32 ^ k * (g * val v) < B32 ^ k * (val (u.drop k) + 1) := by
   rw [Nat.mul_add, Nat.mul_one, Nat.mul_comm (B32 ^ k) (g * val v)]; omega
  have := Nat.lt_of_mul_lt_mul_left h2
  omega
 exact (Nat.div_eq_of_lt_le h1 hlo).symm
theorem K_no {g : Nat} {U : List Nat} (h : KInv a0 v u q n m (k + 1)) (hv : v.length = n) (hd : U7 v) (hlU : U.length = u.length) (hdU : U7 U) (hsame : ∀ t, k + n < t → U.getD t 0 = u.getD t 0)
  (he : val U + g * val v * B32 ^ k = val u + B32 ^ (k + n + 1)) (hup : g * val v < val (u.drop k) + val v) (hp : 0 < val v) : 1 ≤ g ∧ g - 1 = val (u.drop k) / val v ∧ val (U.drop (k + n + 1)) = 0 := by
 have hl : k + n + 1 ≤ u.length := by have := h.lu; have := h.hk; omega
 have h0 := h.top0 hv hd
 have h1 := val_drop_same hlU (t := k + n + 1) fun i hi => hsame i (by omega)
 have h2 := val_cut U (j := k + n + 1) (by omega)
 rw [h1, h0, Nat.mul_zero, Nat.add_zero] at h2
 have h3 : val U < B32 ^ (k + n + 1) := by rw [h2]; exact val_take_lt hdU _
 have e := val_cut u (j := k) (by omega)
 have h4 : val (u.drop k) < g * val v := by
  have : B32 ^ k * val (u.drop k) < B32 ^ k * (g * val v) := by rw [Nat.mul_comm (B32 ^ k) (g * val v)]; omega
  exact Nat.lt_of_mul_lt_mul_left this
 have hg : 1 ≤ g := by
  rcases Nat.eq_zero_or_pos g with q | q
  ·subst q; omega
  ·exact q
 refine ⟨hg, (Nat.div_eq_of_lt_le ?_ ?_).symm, h1.trans h0⟩
 ·obtain ⟨f, rfl⟩ : ∃ f, g = f + 1 := ⟨g - 1, by omega⟩
  rw [Nat.add_sub_cancel]; rw [Nat.add_mul] at hup; omega
 ·rw [Nat.sub_add_cancel hg]; exact h4
structure AInv (u v : List Nat) (k i : Nat) (U : List Nat) (s : Nat) : Prop where
 lU : U.length = u.length
 dU : U7 U
 same : ∀ t, t < k ∨ k + i ≤ t → U.getD t 0 = u.getD t 0
 hs : s ≤ 1
 eq : val U + s * B32 ^ (k + i) = val u + val (v.take i) * B32 ^ k
theorem AInv.start (hd : U7 u) : AInv u v k 0 u 0 := ⟨rfl, hd, fun _ _ => rfl, by decide, by simp [val]⟩
theorem AInv.next {i s : Nat} {U : List Nat} (h : AInv u v k i U s) (hv : U7 v) (hi : i < v.length) (hk : k + i < u.length) :
  AInv u v k (i + 1) (U.set (k + i) ((U.getD (k + i) 0 + v.getD i 0 + s) % 4294967296)) ((U.getD (k + i) 0 + v.getD i 0 + s) / 4294967296) := by
 have ha := T9 h.dU (k + i)
 have hx := T9 hv i
 have hs := h.hs
 refine ⟨by simp [h.lU], digs_set h.dU (Nat.mod_lt _ (by decide)), fun t ht => ?_, by omega, ?_⟩
 ·rw [digD_set, if_neg (by omega)]; exact h.same t (by omega)
 ·have e := val_set (xs := U) (k := k + i) (d := (U.getD (k + i) 0 + v.getD i 0 + s) % 4294967296) (by have := h.lU; omega)
  have e2 := h.eq
  have e3 := val_take_succ (xs := v) (k := i) hi
  have e4 := Nat.mod_add_div (U.getD (k + i) 0 + v.getD i 0 + s) 4294967296
  have e5 : B32 ^ (k + (i + 1)) = B32 ^ k * B32 ^ i * 4294967296 := by rw [show k + (i + 1) = (k + i) + 1 by omega, Nat.pow_succ, Nat.pow_add]
  have e6 : B32 ^ (k + i) = B32 ^ k * B32 ^ i := Nat.pow_add ..
  rw [e3, e5]
  rw [e6] at e e2
  generalize B32 ^ k = P at *
  generalize B32 ^ i = R at *
  generalize (U.getD (k + i) 0 + v.getD i 0 + s) % 4294967296 = lo at *
  generalize (U.getD (k + i) 0 + v.getD i 0 + s) / 4294967296 = hi' at *
  generalize val (U.set (k + i) lo) = W at *
  generalize U.getD (k + i) 0 = a at *
  generalize v.getD i 0 = x at *
  have e7 : P * R * lo + P * R * (4294967296 * hi') = P * R * (a + x + s) := by rw [← e4]; grind
  grind
theorem AInv.top {s g : Nat} {U : List Nat} {u0 : Nat} (h : AInv u v k v.length U s) (hk : k + v.length < u.length) (he : val u + (g + 1) * val v * B32 ^ k = u0 + B32 ^ (k + v.length + 1)) (hlt : u0 < g * val v * B32 ^ k + B32 ^ (k + v.length)) (hge : g * val v * B32 ^ k ≤ u0) (hH : val (u.drop (k + v.length + 1)) = 0) :
  val (U.set (k + v.length) ((U.getD (k + v.length) 0 + s) % 4294967296)) + g * val v * B32 ^ k = u0 := by
 have hU := val_cut U (j := k + v.length) (by have := h.lU; omega)
 have hH2 := (val_drop_same h.lU (t := k + v.length + 1) fun i hi => h.same i (by omega)).trans hH
 rw [val_drop1, hH2] at hU
 have ht := val_take_lt h.dU (k + v.length)
 have e := val_set (xs := U) (k := k + v.length) (d := (U.getD (k + v.length) 0 + s) % 4294967296) (by have := h.lU; omega)
 have e2 := h.eq
 rw [List.take_length] at e2
 have ha := T9 h.dU (k + v.length)
 have hs := h.hs
 have e5 : B32 ^ (k + v.length + 1) = B32 ^ (k + v.length) * 4294967296 := Nat.pow_succ ..
 rw [e5] at he
 obtain ⟨Z, rfl⟩ : ∃ Z, u0 = g * val v * B32 ^ k + Z := ⟨u0 - g * val v * B32 ^ k, by omega⟩
 have hZ : Z < B32 ^ (k + v.length) := by omega
 have e6 : val U + s * B32 ^ (k + v.length) = Z + B32 ^ (k + v.length) * 4294967296 := by
  rw [Nat.add_mul, Nat.add_mul, Nat.one_mul] at he; omega
 generalize B32 ^ (k + v.length) = R at *
 generalize U.getD (k + v.length) 0 = a at *
 generalize val (U.take (k + v.length)) = L at *
 have hR : 0 < R := by omega
 have e7 : L + R * (a + s) = Z + R * 4294967296 := by
  have : R * (a + B32 * 0) + s * R = R * (a + s) := by grind
  omega
 have e8 : a + s = 4294967296 := by
  have h1 := congrArg (· / R) e7
  simp only [Nat.add_mul_div_left _ _ hR, Nat.div_eq_of_lt ht, Nat.div_eq_of_lt hZ, Nat.zero_add] at h1
  exact h1
 have e9 : L = Z := by rw [e8] at e7; omega
 have e10 : (a + s) % 4294967296 = 0 := by rw [e8]
 rw [e10] at e ⊢
 rw [Nat.mul_zero, Nat.add_zero] at e
 have e11 : R * (a + B32 * 0) = R * a := by simp
 omega
end
end Go.Rt
