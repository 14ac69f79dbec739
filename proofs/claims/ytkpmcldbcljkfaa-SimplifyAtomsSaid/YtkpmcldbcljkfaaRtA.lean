/- The logic of the walks, part A: states with a mask of the blocks that may still be written, persistent types of values, typed frames, and the judgements over lists of operations and code. Conditions: none; nothing of a program stands here. -/
import Derived.WalkKit
import Derived.Orders
import Derived.KernelRfl
set_option linter.unusedVariables false
set_option linter.unusedSimpArgs false
namespace Go.Rt
open Go Go.RowKit

/-- A world, and which blocks may still be written (by this call or by one of those that wait for it). -/
structure St where
  w : World
  M : Nat → Prop

/-- s' comes later than s: what may not be written any more is as it was. -/
structure Le (s s' : St) : Prop where
  size : s.w.heap.size ≤ s'.w.heap.size
  block : ∀ k, k < s.w.heap.size → ¬ s.M k → s'.w.heap[k]? = s.w.heap[k]?
  mask : ∀ k, k < s.w.heap.size → s'.M k → s.M k

theorem Le.refl (s : St) : Le s s := ⟨Nat.le_refl _, fun _ _ _ => rfl, fun _ _ h => h⟩

theorem Le.trans {a b c : St} (h : Le a b) (k : Le b c) : Le a c :=
  ⟨Nat.le_trans h.size k.size,
   fun i hi hm => (k.block i (Nat.lt_of_lt_of_le hi h.size) (fun hb => hm (h.mask i hi hb))).trans (h.block i hi hm),
   fun i hi hc => h.mask i hi (k.mask i (Nat.lt_of_lt_of_le hi h.size) hc)⟩

theorem Le.below {w w' : World} (M : Nat → Prop) (h : Below w.heap.size w w') : Le ⟨w, M⟩ ⟨w', M⟩ :=
  ⟨h.size, fun k hk _ => h.block k hk, fun _ _ h => h⟩

/-- A cell that is not written any more. -/
def St.cell (s : St) (b o : Nat) (v : Value) : Prop := s.w.cell? ⟨b, o, none⟩ = some v ∧ ¬ s.M b

theorem St.cell.up {s s' : St} (h : Le s s') {b o : Nat} {v : Value} (hc : s.cell b o v) : s'.cell b o v := by
  have hb : b < s.w.heap.size := World.block_lt_of_cell? s.w ⟨b, o, none⟩ hc.1
  exact ⟨(World.cell?_of_block (w := s.w) (a := ⟨b, o, none⟩) (h.block b hb hc.2)).trans hc.1, fun hm => hc.2 (h.mask b hb hm)⟩

/-- A type of values: a predicate that lives on. -/
structure Ty where
  p : Value → St → Prop
  up : ∀ {v : Value} {s s' : St}, Le s s' → p v s → p v s'

/-- A type of rows of cells. -/
structure CTy where
  p : List Value → St → Prop
  up : ∀ {cs : List Value} {s s' : St}, Le s s' → p cs s → p cs s'

def tIs (u : Value) : Ty := ⟨fun v _ => v = u, fun _ h => h⟩
def tAny : Ty := ⟨fun _ _ => True, fun _ h => h⟩
/-- A value of T in so far as c holds. -/
def tIf (c : Prop) (T : Ty) : Ty := ⟨fun v s => (c → T.p v s) ∧ (¬ c → v = undef), fun hl h => ⟨fun hc => T.up hl (h.1 hc), h.2⟩⟩
/-- Some value of T x for an x with q x. -/
def tEx {α : Type} (q : α → Prop) (T : α → Ty) : Ty := ⟨fun v s => ∃ x, q x ∧ (T x).p v s, fun hl ⟨x, hq, h⟩ => ⟨x, hq, (T x).up hl h⟩⟩

def Value.isAgg : Value → Bool
  | .agg _ => true
  | _ => false

/-- How the values of a type of the plain world lie in cells. -/
structure Enc (α : Type) where
  sz : Nat
  ag : Bool
  C : α → List Value → St → Prop
  up : ∀ {x : α} {cs : List Value} {s s' : St}, Le s s' → C x cs s → C x cs s'
  len : ∀ {x : α} {cs : List Value} {s : St}, C x cs s → cs.length = sz
  one : ∀ {x : α} {cs : List Value} {s : St}, C x cs s → ∀ u ∈ cs, u.oneCell' = true

def tV {α : Type} (E : Enc α) (x : α) : Ty :=
  ⟨fun v s => Value.isAgg v = E.ag ∧ E.C x v.cells.toList s, fun hl h => ⟨h.1, E.up hl h.2⟩⟩

/-- A row of cells, typed one by one. -/
def cellsP : List Ty → List Value → St → Prop
  | [], [], _ => True
  | T :: Ts, v :: vs, s => T.p v s ∧ v.oneCell' = true ∧ cellsP Ts vs s
  | _, _, _ => False

theorem cellsP.up {s s' : St} (hl : Le s s') : ∀ {Ts : List Ty} {cs : List Value}, cellsP Ts cs s → cellsP Ts cs s'
  | [], [], _ => trivial
  | [], _ :: _, h => h.elim
  | _ :: _, [], h => h.elim
  | T :: _, _ :: _, h => ⟨T.up hl h.1, h.2.1, cellsP.up hl h.2.2⟩

theorem cellsP.length {s : St} : ∀ {Ts : List Ty} {cs : List Value}, cellsP Ts cs s → cs.length = Ts.length
  | [], [], _ => rfl
  | [], _ :: _, h => h.elim
  | _ :: _, [], h => h.elim
  | _ :: _, _ :: _, h => by simp [cellsP.length h.2.2]

def cTs (Ts : List Ty) : CTy := ⟨cellsP Ts, fun hl h => cellsP.up hl h⟩
def cEnc {α : Type} (E : Enc α) (x : α) : CTy := ⟨E.C x, E.up⟩

/-! ### Typed frames -/

abbrev Gam := List (Nat × Ty)

def look : Gam → Nat → Option Ty
  | [], _ => none
  | (j, T) :: r, i => bif Nat.beq j i then some T else look r i

structure HEnt where
  b : Nat
  ty : TypeId
  R : CTy

abbrev Hp := List HEnt

def mask (M0 : Nat → Prop) (H : Hp) : Nat → Prop := fun k => M0 k ∨ ∃ e ∈ H, e.b = k

/-- What was there is as it was, but for the blocks in L, which the caller has lent. -/
structure Kept (L : List Nat) (w w' : World) : Prop where
  os : w'.os = w.os
  tape : w'.tape = w.tape
  output : w'.output = w.output
  size : w.heap.size ≤ w'.heap.size
  block : ∀ k, k < w.heap.size → k ∉ L → w'.heap[k]? = w.heap[k]?

theorem Kept.refl (L : List Nat) (w : World) : Kept L w w := ⟨rfl, rfl, rfl, Nat.le_refl _, fun _ _ _ => rfl⟩
theorem Kept.below {w w' : World} (h : Kept [] w w') : Below w.heap.size w w' := ⟨h.os, h.tape, h.output, h.size, fun k hk => h.block k hk (by simp)⟩
theorem Kept.ext {L : List Nat} {w0 w w' : World} (h : Kept L w0 w) (hb : Below w.heap.size w w') : Kept L w0 w' :=
  ⟨hb.os.trans h.os, hb.tape.trans h.tape, hb.output.trans h.output, Nat.le_trans h.size hb.size, fun k hk hL => (hb.block k (Nat.lt_of_lt_of_le hk h.size)).trans (h.block k hk hL)⟩

/-- What stays the same through one call: the program, the world at its beginning, the callers' mask, the blocks that the caller lends, the number of slots, the deferred calls (marks of loops over functions). -/
structure Cx where
  P : Program
  w0 : World
  M0 : Nat → Prop
  L : List Nat
  N : Nat
  Df : List Deferred

def hpOk (X : Cx) (H : Hp) (w : World) : Prop :=
  (∀ e ∈ H, (X.w0.heap.size ≤ e.b ∨ e.b ∈ X.L) ∧ ∃ cs, w.heap[e.b]? = some (.cells cs e.ty (0, 0)) ∧ e.R.p cs.toList ⟨w, mask X.M0 H⟩) ∧ (H.map (·.b)).Pairwise (· ≠ ·)

/-- The frame a and the world w are as Γ and H say; of Γ only the slots in L are asked. -/
structure SatOn (X : Cx) (L : List Nat) (Γ : Gam) (H : Hp) (a : Act) (w : World) : Prop where
  size : a.tmps.size = X.N
  defers : a.defers = X.Df
  m0 : ∀ k, X.M0 k → k < X.w0.heap.size ∧ k ∉ X.L
  below : Kept X.L X.w0 w
  slots : ∀ i T, i ∈ L → look Γ i = some T → T.p (a.tmps.getD i undef) ⟨w, mask X.M0 H⟩
  hp : hpOk X H w

structure Sat (X : Cx) (Γ : Gam) (H : Hp) (a : Act) (w : World) : Prop where
  size : a.tmps.size = X.N
  defers : a.defers = X.Df
  m0 : ∀ k, X.M0 k → k < X.w0.heap.size ∧ k ∉ X.L
  below : Kept X.L X.w0 w
  slots : ∀ i T, look Γ i = some T → T.p (a.tmps.getD i undef) ⟨w, mask X.M0 H⟩
  hp : hpOk X H w

theorem Sat.on {X : Cx} {Γ : Gam} {H : Hp} {a : Act} {w : World} (h : Sat X Γ H a w) (L : List Nat) : SatOn X L Γ H a w :=
  ⟨h.size, h.defers, h.m0, h.below, fun i T _ hi => h.slots i T hi, h.hp⟩

theorem hpOk.lt {X : Cx} {H : Hp} {w : World} (h : hpOk X H w) {e : HEnt} (he : e ∈ H) : e.b < w.heap.size := by
  obtain ⟨_, cs, hc, _⟩ := h.1 e he
  exact (Array.getElem?_eq_some_iff.1 hc).1

theorem hpOk.ext {X : Cx} {H : Hp} {w w' : World} (h : hpOk X H w) (hb : Below w.heap.size w w') : hpOk X H w' := by
  refine ⟨fun e he => ?_, h.2⟩
  obtain ⟨h1, cs, hc, hr⟩ := h.1 e he
  exact ⟨h1, cs, (hb.block e.b (h.lt he)).trans hc, e.R.up (Le.below _ hb) hr⟩

theorem below_ext {w0 w w' : World} (h : Below w0.heap.size w0 w) (hb : Below w.heap.size w w') : Below w0.heap.size w0 w' := h.trans (hb.mono h.size)

theorem Sat.ext {X : Cx} {Γ : Gam} {H : Hp} {a : Act} {w w' : World} (h : Sat X Γ H a w) (hb : Below w.heap.size w w') : Sat X Γ H a w' :=
  ⟨h.size, h.defers, h.m0, h.below.ext hb, fun i T hi => T.up (Le.below _ hb) (h.slots i T hi), h.hp.ext hb⟩

theorem SatOn.ext {X : Cx} {L : List Nat} {Γ : Gam} {H : Hp} {a : Act} {w w' : World} (h : SatOn X L Γ H a w) (hb : Below w.heap.size w w') : SatOn X L Γ H a w' :=
  ⟨h.size, h.defers, h.m0, h.below.ext hb, fun i T hL hi => T.up (Le.below _ hb) (h.slots i T hL hi), h.hp.ext hb⟩

theorem getD_put {a : Act} {d i : Nat} {v : Value} (hd : d < a.tmps.size) : ((a.put (some d) v).tmps.getD i undef) = bif Nat.beq d i then v else a.tmps.getD i undef := by
  simp only [Act.put, Array.getD_eq_getD_getElem?]
  by_cases h : d = i
  · subst h
    simp [hd]
  · have : Nat.beq d i = false := by
      cases hb : Nat.beq d i with
      | false => rfl
      | true => exact absurd (Nat.eq_of_beq_eq_true hb) h
    rw [this, Array.getElem?_setIfInBounds_ne h]
    rfl

theorem size_put (a : Act) (d : Option Nat) (v : Value) : (a.put d v).tmps.size = a.tmps.size := by
  cases d <;> simp [Act.put]

theorem defers_put (a : Act) (d : Option Nat) (v : Value) : (a.put d v).defers = a.defers := by
  cases d <;> rfl

theorem look_cons (j : Nat) (T : Ty) (r : Gam) (i : Nat) : look ((j, T) :: r) i = bif Nat.beq j i then some T else look r i := rfl

theorem Sat.put {X : Cx} {Γ : Gam} {H : Hp} {a : Act} {w : World} (h : Sat X Γ H a w) {d : Nat} (hd : d < X.N) {T : Ty} {v : Value} (hv : T.p v ⟨w, mask X.M0 H⟩) :
    Sat X ((d, T) :: Γ) H (a.put (some d) v) w := by
  refine ⟨(size_put _ _ _).trans h.size, (defers_put _ _ _).trans h.defers, h.m0, h.below, fun i T' hi => ?_, h.hp⟩
  rw [getD_put (by rw [h.size]; exact hd)]
  rw [look_cons] at hi
  cases hb : Nat.beq d i with
  | true => rw [hb] at hi; cases hi; exact hv
  | false => rw [hb] at hi; exact h.slots i T' hi

/-! ### Operands -/

inductive OpT (Γ : Gam) : Operand → Ty → Prop
  | tmp {t : Nat} {T : Ty} (h : look Γ t = some T) : OpT Γ (.tmp t) T
  | const {v : Value} {T : Ty} (h : ∀ s, T.p v s) : OpT Γ (.const v) T
  | func {f : FuncId} {T : Ty} (h : ∀ s, T.p (.func (.func f) #[] #[]) s) : OpT Γ (.func f) T
  | glob {g : Nat} {T : Ty} (h : ∀ s, T.p (.pointer (some ⟨g, 0, none⟩)) s) : OpT Γ (.global g) T
  | sub {x : Operand} {T T' : Ty} (h : OpT Γ x T) (hs : ∀ v s, T.p v s → T'.p v s) : OpT Γ x T'

def slotOf : Operand → List Nat
  | .tmp t => [t]
  | _ => []

theorem OpT.ev {Γ : Gam} {x : Operand} {T : Ty} (h : OpT Γ x T) {X : Cx} {L : List Nat} {H : Hp} {a : Act} {w : World} (hs : SatOn X L Γ H a w) (hL : ∀ i ∈ slotOf x, i ∈ L) :
    T.p (a.eval x) ⟨w, mask X.M0 H⟩ := by
  induction h with
  | tmp h => exact hs.slots _ _ (hL _ (by simp [slotOf])) h
  | const h => exact h _
  | func h => exact h _
  | glob h => exact h _
  | sub _ hsub ih => exact hsub _ _ (ih hL)

theorem OpT.is {Γ : Gam} {v : Value} : OpT Γ (.const v) (tIs v) := .const fun _ => rfl
theorem OpT.eq {Γ : Gam} {x : Operand} {T T' : Ty} (h : OpT Γ x T) (e : T = T') : OpT Γ x T' := e ▸ h

/-! ### One operation -/

def slotsOf (o : Oper) : List Nat := o.op.operands.toList.flatMap slotOf

/-- The operation yields a value of T in its slot; what was there is as it was. -/
def OpTy (X : Cx) (Γ : Gam) (H : Hp) (o : Oper) (T : Ty) : Prop :=
  ∀ a w, SatOn X (slotsOf o) Γ H a w → o.wp X.P a w (fun a' w' => ∃ v, a' = a.put o.dst v ∧ Below w.heap.size w w' ∧ T.p v ⟨w', mask X.M0 H⟩) (fun _ _ _ => False)

theorem letsOut_false : ¬ LetsOut (fun _ _ _ => False) := fun ⟨_, _, h⟩ => h

theorem upon_mono {P : Program} {o : Oper} {a : Act} {K K' : Act → World → Prop} {Q : Exit → Act → World → Prop} (h : ∀ a w, K a w → K' a w) :
    ∀ r, o.upon P a K (fun _ _ _ => False) r → o.upon P a K' Q r := by
  intro r hr
  cases r with
  | ok n w' =>
    cases n <;> simp only [Oper.upon] at hr ⊢ <;>
      first
        | exact h _ _ hr
        | exact Calls.mono hr (fun e w'' he => by cases e <;> first | exact h _ _ he | exact he.elim | exact (letsOut_false he).elim)
        | exact Rows.mono hr (fun _ _ he => h _ _ he)
        | exact hr.elim
  | halt x w' => cases x <;> simp only [Oper.upon] at hr ⊢ <;> exact hr.elim

theorem wp_mono_false {P : Program} {o : Oper} {a : Act} {w : World} {K K' : Act → World → Prop} {Q : Exit → Act → World → Prop} (h : ∀ a w, K a w → K' a w)
    (hh : o.wp P a w K (fun _ _ _ => False)) : o.wp P a w K' Q := upon_mono h _ hh

/-- Operations that run in their order, none of which asks for memory in vain. -/
def wpN (P : Program) (ops : Array Oper) (Q : Exit → Act → World → Prop) : List Oper → Act → World → Prop
  | [], a, w => Q .normal a w
  | o :: rest, a, w => if Region.wanted o (yielded ops a.tmps) then o.wp P a w (wpN P ops Q rest) Q else wpN P ops Q rest (a.put o.dst undef) w
theorem wpN.list {P : Program} {ops : Array Oper} {Q : Exit → Act → World → Prop} : ∀ {l : List Oper} {a : Act} {w : World}, wpN P ops Q l a w → wpList P ops Q l a w
  | [], _, _, h => h
  | o :: rest, a, w, h => by
    unfold wpN at h
    unfold wpList
    split
    · rename_i hw; rw [if_pos hw] at h; exact .inl (Oper.wp_mono (fun _ _ h => wpN.list h) h)
    · rename_i hw; rw [if_neg hw] at h; exact wpN.list h

/-- A list of operations that run in their order. -/
def J (X : Cx) (ops : Array Oper) (Q : Exit → Act → World → Prop) (l : List Oper) (Γ : Gam) (H : Hp) : Prop := ∀ a w, Sat X Γ H a w → wpN X.P ops Q l a w
def JC (X : Cx) (c : Code) (Q : Exit → Act → World → Prop) (Γ : Gam) (H : Hp) : Prop := ∀ a w, Sat X Γ H a w → c.wp X.P Q a w
def JQ (X : Cx) (Q : Exit → Act → World → Prop) (e : Exit) (Γ : Gam) (H : Hp) : Prop := ∀ a w, Sat X Γ H a w → Q e a w

variable {X : Cx} {ops : Array Oper} {Q : Exit → Act → World → Prop} {rest : List Oper} {Γ : Gam} {H : Hp}

theorem J.nil (h : JQ X Q .normal Γ H) : J X ops Q [] Γ H := fun a w hs => h a w hs

theorem wanted_none {o : Oper} (hg : o.guard = none) (f : Nat → Option Bool) : Region.wanted o f = true := by simp [Region.wanted, hg]

theorem J.op {o : Oper} {d : Nat} {T : Ty} (h : OpTy X Γ H o T) (hd : o.dst = some d) (hN : d < X.N) (hg : o.guard = none) (next : J X ops Q rest ((d, T) :: Γ) H) : J X ops Q (o :: rest) Γ H := by
  intro a w hs
  unfold wpN
  rw [if_pos (wanted_none hg _)]
  refine wp_mono_false ?_ (h a w (hs.on _))
  rintro a' w' ⟨v, rfl, hb, hv⟩
  rw [hd]
  exact next _ _ ((hs.ext hb).put hN hv)

attribute [irreducible] wpN

/-- What is known may be forgotten or said otherwise. -/
theorem J.weak {l : List Oper} {Γ' : Gam} {H' : Hp} (h : ∀ a w, Sat X Γ H a w → Sat X Γ' H' a w) (next : J X ops Q l Γ' H') : J X ops Q l Γ H := fun a w hs => next a w (h a w hs)
theorem JC.weak {c : Code} {Γ' : Gam} {H' : Hp} (h : ∀ a w, Sat X Γ H a w → Sat X Γ' H' a w) (next : JC X c Q Γ' H') : JC X c Q Γ H := fun a w hs => next a w (h a w hs)
theorem JQ.weak {e : Exit} {Γ' : Gam} {H' : Hp} (h : ∀ a w, Sat X Γ H a w → Sat X Γ' H' a w) (next : JQ X Q e Γ' H') : JQ X Q e Γ H := fun a w hs => next a w (h a w hs)

/-! ### Code -/

theorem JC.seq {x y : Code} (h : JC X x (Exit.then (y.wp X.P Q) Q) Γ H) : JC X (.seq x y) Q Γ H := fun a w hs => wp_seq (h a w hs)
theorem JC.skip (h : JQ X Q .normal Γ H) : JC X .skip Q Γ H := fun a w hs => wp_skip (h a w hs)
theorem JC.exit {id : Nat} (h : JQ X Q (.exit id) Γ H) : JC X (.exit id) Q Γ H := fun a w hs => wp_exit (h a w hs)
theorem JC.ret (h : JQ X Q .ret Γ H) : JC X .ret Q Γ H := fun a w hs => wp_ret (h a w hs)
theorem JC.block {id : Nat} {c : Code} (h : JC X c (Exit.inBlock id Q) Γ H) : JC X (.block id c) Q Γ H := fun a w hs => wp_block (h a w hs)
theorem JC.region {id : Nat} {l : List Oper} (h : J X l.toArray Q l Γ H) : JC X (.region id l.toArray false) Q Γ H := fun a w hs => wp_region_lit (h a w hs).list
theorem JC.cond {c : Operand} {x y : Code} {t : Bool} (hc : OpT Γ c (tIs (.bool t))) (ht : t = true → JC X x Q Γ H) (hf : t = false → JC X y Q Γ H) : JC X (.cond c x y) Q Γ H := fun a w hs =>
  wp_cond_split (hc.ev (hs.on (slotOf c)) (fun _ h => h)) (fun h => ht h a w hs) (fun h => hf h a w hs)
theorem JC.cond_true {c : Operand} {x y : Code} (hc : OpT Γ c (tIs (.bool true))) (ht : JC X x Q Γ H) : JC X (.cond c x y) Q Γ H := fun a w hs =>
  wp_cond_true (hc.ev (hs.on (slotOf c)) (fun _ h => h)) (ht a w hs)
theorem JC.cond_false {c : Operand} {x y : Code} (hc : OpT Γ c (tIs (.bool false))) (hf : JC X y Q Γ H) : JC X (.cond c x y) Q Γ H := fun a w hs =>
  wp_cond_false (hc.ev (hs.on (slotOf c)) (fun _ h => h)) (hf a w hs)

theorem JQ.then_normal {c : Code} {Q' : Exit → Act → World → Prop} (h : JC X c Q Γ H) : JQ X (Exit.then (c.wp X.P Q) Q') .normal Γ H := h
theorem JQ.then_exit {K : Act → World → Prop} {id : Nat} (h : JQ X Q (.exit id) Γ H) : JQ X (Exit.then K Q) (.exit id) Γ H := h
theorem JQ.then_ret {K : Act → World → Prop} (h : JQ X Q .ret Γ H) : JQ X (Exit.then K Q) .ret Γ H := h
theorem JQ.block_normal {id : Nat} (h : JQ X Q .normal Γ H) : JQ X (Exit.inBlock id Q) .normal Γ H := h
theorem JQ.block_ret {id : Nat} (h : JQ X Q .ret Γ H) : JQ X (Exit.inBlock id Q) .ret Γ H := h
theorem JQ.block_exit {id : Nat} (h : JQ X Q .normal Γ H) : JQ X (Exit.inBlock id Q) (.exit id) Γ H := fun a w hs => by
  show (if id = id then _ else _)
  rw [if_pos rfl]; exact h a w hs
theorem JQ.block_other {id j : Nat} (hne : Nat.beq j id = false) (h : JQ X Q (.exit j) Γ H) : JQ X (Exit.inBlock id Q) (.exit j) Γ H := fun a w hs => by
  have hn : ¬ j = id := fun e => by subst e; rw [Nat.beq_refl] at hne; cases hne
  show (if j = id then _ else _)
  rw [if_neg hn]; exact h a w hs

/-- A loop: at every round's head the frame is as some i with inv i says. -/
theorem JC.loop {ι : Type} {c : Code} (G : ι → Gam) (HH : ι → Hp) (inv : ι → Prop) (μ : ι → Nat) (i0 : ι) (h0 : inv i0) (hs0 : ∀ a w, Sat X Γ H a w → Sat X (G i0) (HH i0) a w)
    (round : ∀ i, inv i → JC X c (Exit.then (fun a w => ∃ j, inv j ∧ μ j < μ i ∧ Sat X (G j) (HH j) a w) Q) (G i) (HH i)) : JC X (.loop c) Q Γ H := by
  intro a w hs
  intro b k cs
  have key : ∀ m (j : ι), μ j = m → inv j → ∀ a w, Sat X (G j) (HH j) a w →
      ∃ e a' w', Q e a' w' ∧ Arrives X.P (lone (b.at a (.code c :: .inLoop c :: k)) cs w) b k cs e a' w' := by
    intro m
    induction m using Nat.strongRecOn with
    | _ m ih2 =>
      intro j hm hj a w hs
      obtain ⟨e, a₁, w₁, hq, harr⟩ := round j hj a w hs b (.inLoop c :: k) cs
      cases e with
      | normal =>
        obtain ⟨j2, hj2, hlt, hs2⟩ := hq
        obtain ⟨e₂, a₂, w₂, hq₂, harr₂⟩ := ih2 (μ j2) (hm ▸ hlt) j2 rfl hj2 a₁ w₁ hs2
        exact ⟨e₂, a₂, w₂, hq₂, .of_steps (Steps.trans harr (.one step_inLoop)) harr₂⟩
      | exit id => exact ⟨_, a₁, w₁, hq, .pass (x := .inLoop c) rfl (fun _ _ => .inl (by simp)) harr⟩
      | goto l => exact ⟨_, a₁, w₁, hq, .pass (x := .inLoop c) rfl (fun _ _ => .inl (by simp)) harr⟩
      | ret => exact ⟨_, a₁, w₁, hq, .pass (x := .inLoop c) rfl (fun _ _ => .inl (by simp)) harr⟩
      | panic ch => exact ⟨_, a₁, w₁, hq, .pass (x := .inLoop c) rfl (fun _ _ => .inl (by simp)) harr⟩
      | outgrown => exact ⟨_, a₁, w₁, hq, .pass (x := .inLoop c) rfl (fun _ _ => .inl (by simp)) harr⟩
  obtain ⟨e, a', w', hq, harr⟩ := key _ i0 rfl h0 a w (hs0 a w hs)
  exact ⟨e, a', w', hq, .of_steps (.one step_loop) harr⟩

theorem JQ.round {ι : Type} {G : ι → Gam} {HH : ι → Hp} {inv : ι → Prop} {μ : ι → Nat} {i : ι} (j : ι) (hj : inv j) (hμ : μ j < μ i) (hs : ∀ a w, Sat X Γ H a w → Sat X (G j) (HH j) a w) :
    JQ X (Exit.then (fun a w => ∃ j, inv j ∧ μ j < μ i ∧ Sat X (G j) (HH j) a w) Q) .normal Γ H := fun a w h => ⟨j, hj, hμ, hs a w h⟩

/-! ### Saying otherwise -/

theorem sub_nil (hH : ∀ a w, Sat X Γ H a w → Sat X Γ H a w := fun _ _ h => h) : ∀ a w, Sat X Γ H a w → Sat X [] H a w := fun a w h =>
  have h := hH a w h
  ⟨h.size, h.defers, h.m0, h.below, fun _ _ hi => by simp [look] at hi, h.hp⟩

theorem sub_cons {Γ' : Gam} {i : Nat} {T : Ty} (hT : OpT Γ (.tmp i) T) (h : ∀ a w, Sat X Γ H a w → Sat X Γ' H a w) : ∀ a w, Sat X Γ H a w → Sat X ((i, T) :: Γ') H a w := fun a w hs => by
  have h' := h a w hs
  refine ⟨h'.size, h'.defers, h'.m0, h'.below, fun j T' hj => ?_, h'.hp⟩
  rw [look_cons] at hj
  cases hb : Nat.beq i j with
  | true =>
    rw [hb] at hj; cases hj
    have := hT.ev (hs.on [i]) (by simp [slotOf])
    rw [← Nat.eq_of_beq_eq_true hb]
    exact this
  | false => rw [hb] at hj; exact h'.slots j T' hj

theorem sub_trans {Γ1 Γ2 : Gam} {H1 H2 : Hp} (h1 : ∀ a w, Sat X Γ H a w → Sat X Γ1 H1 a w) (h2 : ∀ a w, Sat X Γ1 H1 a w → Sat X Γ2 H2 a w) : ∀ a w, Sat X Γ H a w → Sat X Γ2 H2 a w := fun a w h => h2 a w (h1 a w h)

theorem mask_le {w : World} {M0 : Nat → Prop} {H H' : Hp} (h : ∀ e ∈ H', ∃ e' ∈ H, e'.b = e.b) : Le ⟨w, mask M0 H⟩ ⟨w, mask M0 H'⟩ :=
  ⟨Nat.le_refl _, fun _ _ _ => rfl, fun k _ hk => by
    rcases hk with hk | ⟨e, he, rfl⟩
    · exact .inl hk
    · obtain ⟨e', he', hb⟩ := h e he
      exact .inr ⟨e', he', hb⟩⟩

/-- Blocks of the call's own are forgotten, or their contents said otherwise. -/
inductive HSub : Hp → Hp → Prop
  | nil : HSub [] []
  | drop {e : HEnt} {H H' : Hp} (h : HSub H H') : HSub (e :: H) H'
  | keep {b : Nat} {ty : TypeId} {R R' : CTy} {H H' : Hp} (hR : ∀ cs s, R.p cs s → R'.p cs s) (h : HSub H H') : HSub (⟨b, ty, R⟩ :: H) (⟨b, ty, R'⟩ :: H')

theorem HSub.mem {H H' : Hp} (h : HSub H H') : ∀ e' ∈ H', ∃ e ∈ H, e.b = e'.b ∧ e.ty = e'.ty ∧ ∀ cs s, e.R.p cs s → e'.R.p cs s := by
  induction h with
  | nil => intro e h; cases h
  | drop _ ih => intro e' he'; obtain ⟨e, he, h⟩ := ih e' he'; exact ⟨e, .tail _ he, h⟩
  | keep hR _ ih =>
    intro e' he'
    cases he' with
    | head => exact ⟨_, .head _, rfl, rfl, hR⟩
    | tail _ he' => obtain ⟨e, he, h⟩ := ih e' he'; exact ⟨e, .tail _ he, h⟩

theorem HSub.sublist {H H' : Hp} (h : HSub H H') : (H'.map (·.b)).Sublist (H.map (·.b)) := by
  induction h with
  | nil => exact .slnil
  | drop _ ih => exact .cons _ ih
  | keep _ _ ih => exact .cons_cons _ ih

theorem HSub.refl : ∀ (H : Hp), HSub H H
  | [] => .nil
  | ⟨_, _, _⟩ :: H => .keep (fun _ _ h => h) (HSub.refl H)

theorem sub_heap {H' : Hp} (h : HSub H H') : ∀ a w, Sat X Γ H a w → Sat X Γ H' a w := fun a w hs => by
  have hm : Le ⟨w, mask X.M0 H⟩ ⟨w, mask X.M0 H'⟩ := mask_le fun e he => let ⟨e', he', hb, _⟩ := h.mem e he; ⟨e', he', hb⟩
  refine ⟨hs.size, hs.defers, hs.m0, hs.below, fun i T hi => T.up hm (hs.slots i T hi), fun e' he' => ?_, hs.hp.2.sublist h.sublist⟩
  obtain ⟨e, he, hb, ht, hr⟩ := h.mem e' he'
  obtain ⟨h1, cs, hc, hR⟩ := hs.hp.1 e he
  rw [← hb, ← ht]
  exact ⟨h1, cs, hc, e'.R.up hm (hr _ _ hR)⟩

end Go.Rt
