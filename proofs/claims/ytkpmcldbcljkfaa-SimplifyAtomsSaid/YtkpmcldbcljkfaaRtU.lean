/- The logic of the walks, part U: what an iterator owes, the range over a function, leaving with its mark. Conditions: none; nothing of a program stands here. -/
import Derived.Test.YtkpmcldbcljkfaaRtT
set_option linter.unusedVariables false
set_option linter.unusedSimpArgs false
namespace Go.Rt
open Go Go.RowKit

variable {X : Cx} {Q : Exit → Act → World → Prop} {Γ : Gam} {H : Hp} {r : Option Nat} {rest : List Oper} {ops : Array Oper}
variable {dst : Option Tmp} {ty : TypeId} {pos : String} {af : Array Edge} {gd : Option (Nat × Bool)}

theorem vsP_up {s s' : St} (hl : Le s s') : ∀ {Ts : List Ty} {vs : List Value}, vsP Ts vs s → vsP Ts vs s'
  | [], [], _ => trivial
  | [], _ :: _, h => h.elim
  | _ :: _, [], h => h.elim
  | T :: _, _ :: _, h => ⟨T.up hl h.1, vsP_up hl h.2⟩

/-- A function value with what it captured. -/
def tClo (f : FuncId) (Us : List Ty) : Ty := ⟨fun v s => ∃ cap : List Value, v = .func (.func f) #[] cap.toArray ∧ vsP Us cap s, fun hl ⟨cap, h, hv⟩ => ⟨cap, h, vsP_up hl hv⟩⟩

theorem ot_clo {f : FuncId} {xs : List Operand} {Us : List Ty} (hx : OpTs Γ xs Us) : OpTy X Γ H ⟨dst, .makeFunc (.func f) #[] xs.toArray, ty, pos, af, gd⟩ (tClo f Us) :=
  opTy_run fun a w hs => by
    have hv := hx.ev hs (fun x hx => mem_slots (by simp [Op.operands, hx]))
    exact ⟨.func (.func f) #[] (xs.map a.eval).toArray, w, by simp [execOp, Instr.makeFunc], Below.refl _ _, xs.map a.eval, rfl, hv⟩

/-- What the function value g of a range owes: it asks for n rounds, the k-th at values of Ts k; J is what the rounds keep; it lives on where blocks are laid. M: the blocks that a round may write. -/
def IterC (P : Program) (f : FuncId) (Us : List Ty) (n : Nat) (Ts : Nat → List Ty) : Prop :=
  ∀ (l : Nat) (W : World) (M : Nat → Prop) (J : Nat → World → Prop) (cap : List Value), (∀ k, M k → k < W.heap.size) → vsP Us cap ⟨W, M⟩ →
    (∀ k W1 W2, J k W1 → Below W1.heap.size W1 W2 → J k W2) → J 0 W →
    (∀ k W1 vs, k < n → J k W1 → (∀ b, M b → b < W1.heap.size) → vsP (Ts k) vs ⟨W1, M⟩ → YieldAt Fence.wide 0 P l vs.toArray W1 fun e W2 => e = .returned (.bool true) ∧ J (k + 1) W2 ∧ Le ⟨W1, M⟩ ⟨W2, M⟩) →
    Calls P f (#[.func (.yield l) #[] #[]] ++ cap.toArray) W fun e W2 => ∃ v, e = .returned v ∧ J n W2

/-! ### The iterator's side -/

theorem JL.yield {l d k : Nat} {fo : Operand} {xs : List Operand} {Ts : List Ty} {ats : Array TypeId} {J : Nat → World → Prop} {P : Program} {w0 : World} {M : Nat → Prop} {N : Nat} {Df : List Deferred}
    (hfo : OpT Γ fo (tIs (.func (.yield l) #[] #[]))) (hx : OpTs Γ xs Ts) (hup : ∀ k W1 W2, J k W1 → Below W1.heap.size W1 W2 → J k W2) (hJ : J k w0)
    (hy : ∀ W1 vs, J k W1 → (∀ b, M b → b < W1.heap.size) → vsP Ts vs ⟨W1, M⟩ → YieldAt Fence.wide 0 P l vs.toArray W1 fun e W2 => e = .returned (.bool true) ∧ J (k + 1) W2 ∧ Le ⟨W1, M⟩ ⟨W2, M⟩)
    (hN : d < N) (next : ∀ w1, J (k + 1) w1 → JL ⟨P, w1, M, [], N, Df⟩ none ops Q rest ((d, tIs (.bool true)) :: Γ) []) :
    JL ⟨P, w0, M, [], N, Df⟩ none ops Q (⟨some d, .call { callee := .value fo, args := xs.toArray, argTypes := ats }, ty, pos, af, none⟩ :: rest) Γ H := by
  intro a w hs
  unfold wpListIn
  rw [if_pos (wanted_none rfl _)]
  have h1 : a.eval fo = .func (.yield l) #[] #[] := hfo.ev (hs.on (slotOf fo)) (fun _ h => h)
  have hv := hx.ev (hs.on (xs.flatMap slotOf)) (fun x hx i hi => List.mem_flatMap.2 ⟨x, hx, hi⟩)
  have hM : ∀ b, M b → b < w.heap.size := fun b hb => Nat.lt_of_lt_of_le (hs.m0 b hb).1 hs.below.size
  have hm : Le ⟨w, mask M H⟩ ⟨w, M⟩ := ⟨Nat.le_refl _, fun _ _ _ => rfl, fun _ _ h => .inl h⟩
  obtain ⟨fn, tmps, assign, body, hrun, hround⟩ := hy w _ (hup k _ _ hJ hs.below.below) hM (vsP_up hm hv)
  refine ⟨fun _ _ => trivial, ?_⟩
  rw [Oper.semAt_eq _ _ _ (fun c e => by cases e)]
  have hr : (execOp a.eval ⟨some d, .call { callee := .value fo, args := xs.toArray, argTypes := ats }, ty, pos, af, none⟩).run P w = .ok (.round l fn tmps assign body) w := by
    simp only [execOp, resolve, Deferred.ofValue, h1, invoke, Sem.run_bind, Sem.run_pure, Result.andThen_ok]
    simpa using hrun
  rw [hr]
  refine ⟨fun h => by simp [Fence.wide] at h, hround.mono ?_⟩
  rintro e W2 ⟨rfl, hJ2, hle⟩
  refine next W2 hJ2 _ _ (Sat.put (X := ⟨P, W2, M, [], N, Df⟩) (T := tIs (.bool true)) ⟨hs.size, hs.defers, fun b hb => ⟨(Nat.lt_of_lt_of_le (hM b hb) hle.size : b < W2.heap.size), by simp⟩, Kept.refl _ _, fun i T hi => ?_, ⟨fun e (he : e ∈ []) => by (cases he), List.Pairwise.nil⟩⟩ hN rfl)
  have hm2 : mask M [] = M := by funext b; simp [mask]
  show T.p _ ⟨W2, mask M []⟩
  rw [hm2]
  exact T.up (hm.trans hle) (hs.slots i T hi)

/-- The loop of an iterator that hands out one value a round. -/
theorem JCR.loopY {c : Code} {P : Program} {w0 : World} {M : Nat → Prop} {N : Nat} {Df : List Deferred} (n : Nat) (Γk : Nat → Gam) (J : Nat → World → Prop) (hup : ∀ k W1 W2, J k W1 → Below W1.heap.size W1 W2 → J k W2) (h0 : J 0 w0)
    (hs0 : ∀ a w, Sat ⟨P, w0, M, [], N, Df⟩ Γ H a w → Sat ⟨P, w0, M, [], N, Df⟩ (Γk 0) [] a w)
    (round : ∀ k, k ≤ n → ∀ w0, J k w0 → JCR ⟨P, w0, M, [], N, Df⟩ none c (Exit.then (fun a w => k < n ∧ ∃ w1, J (k + 1) w1 ∧ Sat ⟨P, w1, M, [], N, Df⟩ (Γk (k + 1)) [] a w) Q) (Γk k) []) :
    JCR ⟨P, w0, M, [], N, Df⟩ none (.loop c) Q Γ H := by
  classical
  intro a w hs
  let I : Act → World → Prop := fun a w => ∃ m k, n - k = m ∧ k ≤ n ∧ ∃ w1, J k w1 ∧ Sat ⟨P, w1, M, [], N, Df⟩ (Γk k) [] a w
  let m : Act → World → Nat := fun a w => if h : I a w then Classical.choose (least h) else 0
  refine wpIn_loop I m ⟨_, 0, rfl, Nat.zero_le _, w0, h0, hs0 a w hs⟩ fun a w hI => ?_
  obtain ⟨⟨k, hk, hkn, w1, hJ, hsat⟩, _⟩ := Classical.choose_spec (least hI)
  have hm : m a w = Classical.choose (least hI) := dif_pos hI
  refine thenR_mono (fun a' w' ⟨hlt, w2, hJ2, hs'⟩ => ?_) (round k hkn w1 hJ a w hsat)
  have hI' : I a' w' := ⟨_, k + 1, rfl, hlt, w2, hJ2, hs'⟩
  refine ⟨hI', ?_⟩
  have hm' : m a' w' = Classical.choose (least hI') := dif_pos hI'
  have : Classical.choose (least hI') ≤ n - (k + 1) := (Classical.choose_spec (least hI')).2 _ ⟨k + 1, rfl, hlt, w2, hJ2, hs'⟩
  rw [hm, hm', ← hk]
  omega

/-- An iterator's contract out of its body's walk. -/
theorem IterC.of {P : Program} {f N n : Nat} {fn : Func} {c : Code} {Us : List Ty} {Ts : Nat → List Ty} (hf : P.funcs[f]? = some fn) (hb : fn.body = some c) (hN : fn.ntmps = N) (hl : Us.length + 1 ≤ N)
    (h : ∀ (l : Nat) (w0 : World) (M : Nat → Prop) (J : Nat → World → Prop), (∀ k W1 W2, J k W1 → Below W1.heap.size W1 W2 → J k W2) → J 0 w0 →
      (∀ k W1 vs, k < n → J k W1 → (∀ b, M b → b < W1.heap.size) → vsP (Ts k) vs ⟨W1, M⟩ → YieldAt Fence.wide 0 P l vs.toArray W1 fun e W2 => e = .returned (.bool true) ∧ J (k + 1) W2 ∧ Le ⟨W1, M⟩ ⟨W2, M⟩) →
      JCR ⟨P, w0, M, [], N, []⟩ none c (bodyPost P fn fun e W2 => ∃ v, e = .returned v ∧ J n W2) (gam0 0 (tIs (.func (.yield l) #[] #[]) :: Us)) []) : IterC P f Us n Ts := by
  intro l w0 M J cap hM hcap hup h0 hy
  refine calls_of_wp hf hb (JC.ofR (h l w0 M J hup h0 hy) _ _ ⟨?_, rfl, fun k hk => ⟨hM k hk, by simp⟩, Kept.refl _ _, fun i T hi => ?_, ⟨fun e he => by (cases he), List.Pairwise.nil⟩⟩)
  · have := hcap.length
    simp; omega
  · have hvs : vsP (tIs (.func (.yield l) #[] #[]) :: Us) ((.func (.yield l) #[] #[]) :: cap) ⟨w0, M⟩ := ⟨rfl, hcap⟩
    obtain ⟨_, v, hv, hT⟩ := slots0 0 hvs i T hi
    have hM' : mask M [] = M := by funext k; simp [mask]
    show T.p _ ⟨w0, mask M []⟩
    rw [hM']
    have hlt : i < ((Value.func (.yield l) #[] #[]) :: cap).length := (List.getElem?_eq_some_iff.1 hv).1
    have : (#[Value.func (.yield l) #[] #[]] ++ cap.toArray ++ Array.replicate (fn.ntmps - (#[Value.func (.yield l) #[] #[]] ++ cap.toArray).size) undef).getD i undef = v := by
      rw [Array.getD_eq_getD_getElem?, Array.getElem?_append_left (by simp at hlt ⊢; omega)]
      simp at hv
      simp [hv]
    rw [this]; exact hT

theorem JQ.endY {fn : Func} {P : Program} {w0 : World} {M : Nat → Prop} {N n : Nat} {J : Nat → World → Prop} (hf : fn.results = #[]) (hup : ∀ k W1 W2, J k W1 → Below W1.heap.size W1 W2 → J k W2) (hJ : J n w0) :
    JQ ⟨P, w0, M, [], N, []⟩ (bodyPost P fn fun e W2 => ∃ v, e = .returned v ∧ J n W2) .normal Γ H := fun a w hs =>
  ⟨hs.defers, .tuple #[], results_none hf _ _ _, _, rfl, hup n _ _ hJ hs.below.below⟩

/-! ### The statement -/

/-- The frame of a round: the values of the loop's variables in their slots. -/
def gamP : List Tmp → List Ty → Gam → Gam
  | p :: ps, T :: Ts, Γ => gamP ps Ts ((p, T) :: Γ)
  | _, _, Γ => Γ
theorem Sat.params : ∀ {ps : List Tmp} {Ts : List Ty} {vs : List Value} {Γ : Gam} {a : Act} {w : World}, Sat X Γ H a w → (∀ p ∈ ps, p < X.N) → Ts.length = ps.length → vsP Ts vs ⟨w, mask X.M0 H⟩ →
    Sat X (gamP ps Ts Γ) H { tmps := (ps.zip vs).foldl (fun t (p, v) => t.setIfInBounds p v) a.tmps, defers := a.defers } w
  | [], [], [], _, _, _, h, _, _, _ => h
  | [], _ :: _, _, _, _, _, _, _, hl, _ => by simp at hl
  | _ :: _, [], _, _, _, _, _, _, hl, _ => by simp at hl
  | [], [], _ :: _, _, _, _, _, _, _, hv => hv.elim
  | _ :: _, _ :: _, [], _, _, _, _, _, _, hv => hv.elim
  | p :: ps, T :: Ts, v :: vs, Γ, a, w, h, hp, hl, hv => by
    have h2 := h.put (d := p) (hp p (.head _)) hv.1
    exact Sat.params (ps := ps) (Ts := Ts) (vs := vs) h2 (fun q hq => hp q (.tail _ hq)) (by simpa using hl) hv.2

/-- Behind a loop over a function: the context is told anew at the world w1; D is the block of the loop's deferred calls. -/
structure Rb (X : Cx) (w1 : World) (M1 : Nat → Prop) (L1 : List Nat) (D : Nat) : Prop where
  kept : Kept X.L X.w0 w1
  lent : ∀ b ∈ L1, X.w0.heap.size ≤ b ∨ b ∈ X.L
  mask : ∀ k, X.M0 k → M1 k
  md : M1 D
  d0 : w1.heap[D]? = some (.deferred (some []))
  dge : X.w0.heap.size ≤ D

theorem mask_same {M0 : Nat → Prop} {H H' : Hp} (h : H'.map (·.b) = H.map (·.b)) : mask M0 H' = mask M0 H := by
  funext k
  have : ∀ H : Hp, (∃ e ∈ H, e.b = k) ↔ k ∈ H.map (·.b) := fun H => by simp [List.mem_map]
  simp only [mask, this, h]

theorem putObj_le {w : World} {M : Nat → Prop} {l : Nat} {o : Obj} (hl : M l) : Le ⟨w, M⟩ ⟨w.putObj l o, M⟩ :=
  ⟨by simp, fun k hk hm => World.putObj_heap_other (fun e => hm (e ▸ hl)), fun _ _ h => h⟩

/-- What is asked of one round: the assignments, then the body; each is walked in a context of its own. -/
def RoundC (P : Program) (N l : Nat) (assign body : Code) (Γ0 : Gam) (H0 H1 : Hp) : Prop :=
  ∀ w0 M0 L Q1,
    (∀ Γ1 Hb, (∀ w1 M1 L1 Q2, JQ ⟨P, w1, M1, L1, N, []⟩ Q2 .normal [] H1 → JCR ⟨P, w1, M1, L1, N, []⟩ (some l) body Q2 Γ1 Hb) → JQ ⟨P, w0, M0, L, N, []⟩ Q1 .normal Γ1 Hb) →
    JCR ⟨P, w0, M0, L, N, []⟩ (some l) assign Q1 Γ0 H0

theorem JC.rangeFunc {g : Operand} {ps : List Tmp} {assign body : Code} {f : FuncId} {Us : List Ty} {n : Nat} {Ts : Nat → List Ty} {Γ0 : Gam} (HH : Nat → Hp)
    (hg : OpT Γ0 g (tClo f Us)) (hf : fnB X.P f = true) (hit : IterC X.P f Us n Ts) (hDf : X.Df = [])
    (hs0 : ∀ a w, Sat X Γ H a w → Sat X Γ0 (HH 0) a w) (hbs : ∀ k, (HH k).map (·.b) = (HH 0).map (·.b)) (hplB : (ps.all fun p => Nat.blt p X.N) = true) (hTs : ∀ k, (Ts k).length = ps.length)
    (hround : ∀ k, k < n → ∀ l, RoundC X.P X.N l assign body (gamP ps (Ts k) Γ0) (HH k) (HH (k + 1)))
    (hdone : ∀ D w1 M1 L1, Rb X w1 M1 L1 D → JQ ⟨X.P, w1, M1, L1, X.N, [{ target := .collected D, args := #[] }]⟩ Q .normal Γ0 (HH n)) : JC X (.rangeFunc g ps.toArray assign body) Q Γ H := by
  have hpl : ∀ p ∈ ps, p < X.N := fun p hp => nat_blt.1 (List.all_eq_true.1 hplB p hp)
  intro a w hsat
  have hs := hs0 a w hsat
  obtain ⟨cap, hgv, hcap0⟩ := hg.ev (hs.on (slotOf g)) (fun _ h => h)
  refine wpIn_wide.1 (wpIn_rangeFunc (n := 0) ?_)
  intro fn _
  obtain ⟨rec, hrec⟩ : ∃ rec : LoopState → Option Code → Loop, rec = fun st pe => { state := st, pending := pe, fn, tmps := a.tmps, params := ps.toArray, assign, body, defers := w.heap.size } := ⟨_, rfl⟩
  obtain ⟨W1, hW1⟩ : ∃ W1, (w.alloc (.deferred (some []))).alloc (.loop (rec .ready none)) = W1 := ⟨_, rfl⟩
  have hb1 : Below w.heap.size w W1 := by
    rw [← hW1]; exact ((Below.refl _ w).alloc (Nat.le_refl _) _).alloc (by simp) _
  have hL1 : W1.heap[w.heap.size + 1]? = some (.loop (rec .ready none)) := by
    rw [← hW1]; have := World.alloc_heap_new (w.alloc (.deferred (some []))) (.loop (rec .ready none)); rwa [World.size_alloc] at this
  have hK1 : W1.heap[w.heap.size]? = some (.deferred (some [])) := by
    rw [← hW1]; exact (Below.heap_alloc _ _ _ (by simp)).trans (World.alloc_heap_new w _)
  have hsz1 : W1.heap.size = w.heap.size + 2 := by rw [← hW1]; simp
  generalize hl : w.heap.size + 1 = l at *
  generalize hD : w.heap.size = D at *
  -- the blocks that a round may write
  let bs := (HH 0).map (·.b)
  let M0' : Nat → Prop := fun b => X.M0 b ∨ b = D ∨ b = l
  let M : Nat → Prop := mask M0' (HH 0)
  let XW : World → Cx := fun W => ⟨X.P, W, M0', bs, X.N, []⟩
  have hbsM : ∀ b ∈ bs, M b := fun b hb => by
    obtain ⟨e, he, rfl⟩ := List.mem_map.1 hb
    exact .inr ⟨e, he, rfl⟩
  have hMk : ∀ k, mask M0' (HH k) = M := fun k => mask_same (hbs k)
  have hbsw : ∀ b ∈ bs, b < D ∧ (X.w0.heap.size ≤ b ∨ b ∈ X.L) := fun b hb => by
    obtain ⟨e, he, rfl⟩ := List.mem_map.1 hb
    exact ⟨hD ▸ hs.hp.lt he, (hs.hp.1 e he).1⟩
  have hX0 : X.w0.heap.size ≤ D := hD ▸ hs.below.size
  have hM0' : ∀ b, M0' b → b < D + 2 ∧ b ∉ bs := fun b hb => by
    rcases hb with hb | rfl | rfl
    · have h1 := hs.m0 b hb
      refine ⟨by omega, fun h2 => ?_⟩
      rcases (hbsw b h2).2 with q | q
      · omega
      · exact h1.2 q
    · exact ⟨by omega, fun h2 => by have := (hbsw _ h2).1; omega⟩
    · exact ⟨by omega, fun h2 => by have := (hbsw _ h2).1; omega⟩
  have hMl : M l := .inl (.inr (.inr rfl))
  have hblk : ∀ k e, e ∈ HH k → e.b ∈ bs := fun k e he => by
    have : e.b ∈ (HH k).map (·.b) := List.mem_map.2 ⟨e, he, rfl⟩
    rw [hbs k] at this; exact this
  let a0 : Act := { tmps := a.tmps, defers := [] }
  let J : Nat → World → Prop := fun k W => Sat (XW W) Γ0 (HH k) a0 W ∧ W.heap[l]? = some (.loop (rec .ready none)) ∧ W.heap[D]? = some (.deferred (some [])) ∧ Kept X.L X.w0 W
  have hup : ∀ k W1 W2, J k W1 → Below W1.heap.size W1 W2 → J k W2 := by
    rintro k W1 W2 ⟨h1, h2, h3, h4⟩ hb
    have h5 := h1.ext hb
    refine ⟨⟨h5.size, h5.defers, fun b hb' => ⟨Nat.lt_of_lt_of_le (h1.m0 b hb').1 hb.size, (h1.m0 b hb').2⟩, Kept.refl _ _, h5.slots, fun e he => ?_, h5.hp.2⟩,
      (hb.block l (Array.getElem?_eq_some_iff.1 h2).1).trans h2, (hb.block D (Array.getElem?_eq_some_iff.1 h3).1).trans h3, h4.ext hb⟩
    exact ⟨.inr (hblk k e he), (h5.hp.1 e he).2⟩
  have hle1 : Le ⟨w, mask X.M0 (HH 0)⟩ ⟨W1, M⟩ := ⟨by show w.heap.size ≤ W1.heap.size; omega, fun k hk _ => hb1.block k (by rw [← hD]; exact hk), fun k hk h => by
    have hk' : k < D := by rw [← hD]; exact hk
    rcases h with (h | h | h) | h
    · exact .inl h
    · omega
    · omega
    · exact .inr h⟩
  have hJ0 : J 0 W1 := by
    have h5 := hs.ext (w' := W1) (hD.symm ▸ hb1)
    refine ⟨⟨hs.size, rfl, fun b hb' => ⟨by have := (hM0' b hb').1; show b < W1.heap.size; omega, (hM0' b hb').2⟩, Kept.refl _ _, fun i T hi => T.up hle1 (hs.slots i T hi), fun e he => ?_, hs.hp.2⟩, hL1, hK1, h5.below⟩
    obtain ⟨_, cs, hc, hr⟩ := hs.hp.1 e he
    exact ⟨.inr (hblk 0 e he), cs, (hb1.block e.b (hbsw _ (hblk 0 e he)).1).trans hc, e.R.up hle1 hr⟩
  refine ⟨l, [{ target := .collected D, args := #[] }], W1, { target := .fn (.func f) cap.toArray, args := #[.func (.yield l) #[] #[]] }, W1, f, #[.func (.yield l) #[] #[]] ++ cap.toArray, W1, ?_, ?_, fun _ _ => trivial, ?_, fun h => by simp [Fence.wide] at h, ?_⟩
  · have := run_enterLoop_outer (P := X.P) (w := w) fn a.tmps ps.toArray assign body
    rw [hD, hl] at this
    rw [← hW1, hrec]; exact this
  · have : (resolve a.eval (rangeCall g l) 0).run X.P W1 = .ok { target := .fn (.func f) cap.toArray, args := #[.func (.yield l) #[] #[]] } W1 := by
      have e1 : a.eval (Operand.const (Value.func (Fn.yield l) #[] #[])) = Value.func (Fn.yield l) #[] #[] := rfl
      simp only [resolve, Deferred.ofValue, hgv, Sem.run_bind, Sem.run_pure, Result.andThen_ok]
      simp [Sem.run_pure, e1]
    exact this
  · have := run_callFunc hf (#[Value.func (.yield l) #[] #[]] ++ cap.toArray) W1
    simp only [invoke]
    simpa using this
  refine CallsIn.mono (callsIn_wide.2 (hit l W1 M J cap (fun b hb => ?_) (vsP_up hle1 hcap0) hup hJ0 ?_)) ?_
  · rcases hb with hb | ⟨e, he, rfl⟩
    · have := (hM0' b hb).1; omega
    · have := (hbsw _ (hblk 0 e he)).1; omega
  · -- one round
    intro k W vs hk hJk hMW hvs
    obtain ⟨hsk, hl0, hd0, hkept⟩ := hJk
    have hmk : mask M0' (HH k) = M := hMk k
    have hy := run_yield (P := X.P) (args := vs.toArray) hl0 (by rw [hrec]; have := hvs.length; simp [this, hTs k])
    rw [hrec] at hy
    refine ⟨fn, _, assign, body, hy, roundIn_of_wpIn trivial ?_⟩
    have hs1 : Sat (XW W) (gamP ps (Ts k) Γ0) (HH k) { tmps := (ps.zip vs).foldl (fun t (p, v) => t.setIfInBounds p v) a.tmps, defers := [] } W :=
      Sat.params (vs := vs) hsk hpl (hTs k) (by show vsP (Ts k) vs ⟨W, mask M0' (HH k)⟩; rw [hmk]; exact hvs)
    have hlW : l < W.heap.size := (Array.getElem?_eq_some_iff.1 hl0).1
    have hdW : D < W.heap.size := (Array.getElem?_eq_some_iff.1 hd0).1
    have hlbs : l ∉ bs := (hM0' l (.inr (.inr rfl))).2
    have hdbs : D ∉ bs := (hM0' D (.inr (.inl rfl))).2
    have hne : D ≠ l := by omega
    have hMb : ∀ b, M b → b < W.heap.size := hMW
    have hasg := hround k hk l W M0' bs (Exit.then (fun a₁ w₁ => ∃ w₂, (Instr.beginRound l).run X.P w₁ = .ok () w₂ ∧ body.wpIn (fenR (some l)) 0 X.P (roundPost X.P l fun e W2 => e = .returned (.bool true) ∧ J (k + 1) W2 ∧ Le ⟨W, M⟩ ⟨W2, M⟩) a₁ w₂) (fun _ _ _ => False)) ?_ _ W hs1
    · have e : (ps.toArray.zip vs.toArray).foldl (fun tmps (x : Tmp × Value) => tmps.setIfInBounds x.1 x.2) a.tmps = (ps.zip vs).foldl (fun t (x : Tmp × Value) => t.setIfInBounds x.1 x.2) a.tmps := by
        simp
      show assign.wpIn (fenR (some l)) 0 X.P _ { tmps := (ps.toArray.zip vs.toArray).foldl (fun tmps (x : Tmp × Value) => tmps.setIfInBounds x.1 x.2) a.tmps, defers := [] } W
      rw [e]; exact hasg
    · intro Γ1 Hb hbody a₁ w₁ hs2
      have hk1 : Kept bs W w₁ := hs2.below
      have hl1 : w₁.heap[l]? = some (.loop (rec .ready none)) := (hk1.block l hlW hlbs).trans hl0
      have hd1 : w₁.heap[D]? = some (.deferred (some [])) := (hk1.block D hdW hdbs).trans hd0
      have hHb : ∀ e ∈ Hb, W.heap.size ≤ e.b ∨ e.b ∈ bs := fun e he => (hs2.hp.1 e he).1
      have hHbl : l ∉ Hb.map (·.b) := fun h => by
        obtain ⟨e, he, hel⟩ := List.mem_map.1 h
        rcases hHb e he with q | q
        · rw [hel] at q; omega
        · rw [hel] at q; exact hlbs q
      have hHbd : D ∉ Hb.map (·.b) := fun h => by
        obtain ⟨e, he, hel⟩ := List.mem_map.1 h
        rcases hHb e he with q | q
        · rw [hel] at q; omega
        · rw [hel] at q; exact hdbs q
      let bz : Obj := .loop { rec .ready none with state := .busy }
      let w₂ := w₁.putObj l bz
      have hl1s : l < w₁.heap.size := (Array.getElem?_eq_some_iff.1 hl1).1
      have hle2 : Le ⟨w₁, mask M0' Hb⟩ ⟨w₂, mask M0' Hb⟩ := putObj_le (.inl (.inr (.inr rfl)))
      refine ⟨w₂, run_beginRound hl1 (by rw [hrec]), hbody w₂ M0' (Hb.map (·.b)) _ ?_ a₁ w₂ ⟨hs2.size, hs2.defers, fun b hb => ?_, Kept.refl _ _, fun i T hi => T.up hle2 (hs2.slots i T hi), fun e he => ?_, hs2.hp.2⟩⟩
      · -- the body's end
        intro a₃ w₃ hs3
        have hk3 : Kept (Hb.map (·.b)) w₂ w₃ := hs3.below
        have hl2 : w₂.heap[l]? = some bz := World.putObj_heap_same hl1s
        have hl2s : l < w₂.heap.size := (Array.getElem?_eq_some_iff.1 hl2).1
        have hl3 : w₃.heap[l]? = some bz := (hk3.block l hl2s hHbl).trans hl2
        have hd2 : w₂.heap[D]? = some (.deferred (some [])) := (World.putObj_heap_other hne).trans hd1
        have hd3 : w₃.heap[D]? = some (.deferred (some [])) := (hk3.block D (Array.getElem?_eq_some_iff.1 hd2).1 hHbd).trans hd2
        have her := run_endRound (P := X.P) none hl3
        let w₄ := w₃.putObj l (.loop (rec .ready none))
        have her' : (Instr.endRound l none).run X.P w₃ = .ok (.bool true) w₄ := by
          show _ = Result.ok (Value.bool true) (w₃.putObj l (.loop (rec .ready none)))
          rw [her]; subst hrec; rfl
        have hl3s : l < w₃.heap.size := (Array.getElem?_eq_some_iff.1 hl3).1
        have hsz4 : W.heap.size ≤ w₄.heap.size := by
          have q1 := hk1.size
          have q2 := hk3.size
          have q3 : w₂.heap.size = w₁.heap.size := World.putObj_size
          have q4 : w₄.heap.size = w₃.heap.size := World.putObj_size
          omega
        have hblock : ∀ b, b < W.heap.size → b ∉ bs → b ≠ l → w₄.heap[b]? = W.heap[b]? := fun b hb hbb hbl => by
          have q1 : w₁.heap[b]? = W.heap[b]? := hk1.block b hb hbb
          have q2 : w₂.heap[b]? = w₁.heap[b]? := World.putObj_heap_other hbl
          have hbs2 : b < w₂.heap.size := by have := hk1.size; have q3 : w₂.heap.size = w₁.heap.size := World.putObj_size; omega
          have q3 : w₃.heap[b]? = w₂.heap[b]? := hk3.block b hbs2 fun h => by
            obtain ⟨e, he, hel⟩ := List.mem_map.1 h
            rcases hHb e he with q | q
            · rw [hel] at q; omega
            · rw [hel] at q; exact hbb q
          have q4 : w₄.heap[b]? = w₃.heap[b]? := World.putObj_heap_other hbl
          exact q4.trans (q3.trans (q2.trans q1))
        have hle : Le ⟨W, M⟩ ⟨w₄, M⟩ := ⟨hsz4, fun b hb hm => hblock b hb (fun h => hm (hbsM b h)) (fun h => hm (h ▸ hMl)), fun _ _ h => h⟩
        have hle3 : Le ⟨w₃, mask M0' (HH (k + 1))⟩ ⟨w₄, mask M0' (HH (k + 1))⟩ := putObj_le (.inl (.inr (.inr rfl)))
        refine ⟨.bool true, w₄, her', rfl, ⟨⟨hsk.size, rfl, fun b hb => ⟨?_, (hM0' b hb).2⟩, Kept.refl _ _, fun i T hi => ?_, fun e he => ?_, hs3.hp.2⟩, World.putObj_heap_same hl3s, (World.putObj_heap_other hne).trans hd3, ?_⟩, hle⟩
        · exact Nat.lt_of_lt_of_le (hMW b (.inl hb)) hsz4
        · have q := hsk.slots i T hi
          have e1 : mask (XW W).M0 (HH k) = M := hmk
          have e2 : mask (XW w₄).M0 (HH (k + 1)) = M := hMk (k + 1)
          rw [e1] at q
          rw [e2]
          exact T.up hle q
        · obtain ⟨_, cs, hc, hr⟩ := hs3.hp.1 e he
          refine ⟨.inr (hblk (k + 1) e he), cs, ?_, e.R.up hle3 hr⟩
          have hel : e.b ≠ l := fun h => by
            have q := hblk (k + 1) e he
            rw [h] at q; exact hlbs q
          exact (World.putObj_heap_other hel).trans hc
        · refine ⟨?_, ?_, ?_, Nat.le_trans hkept.size hsz4, fun b hb hbL => ?_⟩
          · exact hk3.os.trans (hk1.os.trans hkept.os)
          · exact hk3.tape.trans (hk1.tape.trans hkept.tape)
          · exact hk3.output.trans (hk1.output.trans hkept.output)
          · refine (hblock b (Nat.lt_of_lt_of_le hb hkept.size) (fun h => ?_) (by omega)).trans (hkept.block b hb hbL)
            rcases (hbsw b h).2 with q | q
            · omega
            · exact hbL q
      · refine ⟨?_, fun h => ?_⟩
        · have q1 : b < W.heap.size := hMW b (.inl hb)
          have q2 := hk1.size
          have q3 : w₂.heap.size = w₁.heap.size := World.putObj_size
          show b < w₂.heap.size
          omega
        · obtain ⟨e, he, hel⟩ := List.mem_map.1 h
          have q1 : b < W.heap.size := hMW b (.inl hb)
          rcases hHb e he with q | q
          · rw [hel] at q; omega
          · rw [hel] at q; exact (hM0' b hb).2 q
      · obtain ⟨_, cs, hc, hr⟩ := hs2.hp.1 e he
        refine ⟨.inr (List.mem_map.2 ⟨e, he, rfl⟩), cs, ?_, e.R.up hle2 hr⟩
        exact (World.putObj_heap_other (fun h => hHbl (List.mem_map.2 ⟨e, he, h⟩))).trans hc
  · -- behind the iterator
    rintro e W2 ⟨v, rfl, hsn, hl2, hd2, hkept⟩
    have hend := run_endLoop (P := X.P) hl2 (by rw [hrec]; simp)
    have hl2s : l < W2.heap.size := (Array.getElem?_eq_some_iff.1 hl2).1
    have hne : D ≠ l := by omega
    refine ⟨none, _, by rw [hrec] at hend; exact hend, ?_⟩
    show Q .normal { tmps := a.tmps, defers := [{ target := .collected D, args := #[] }] ++ a.defers } _
    generalize hob : Obj.loop _ = ob
    have hle : Le ⟨W2, mask M0' (HH n)⟩ ⟨W2.putObj l ob, mask M0' (HH n)⟩ := putObj_le (.inl (.inr (.inr rfl)))
    refine hdone D (W2.putObj l ob) M0' bs ⟨⟨hkept.os, hkept.tape, hkept.output, by simp; exact hkept.size, fun b (hb : b < X.w0.heap.size) hbL => (World.putObj_heap_other (by omega)).trans (hkept.block b hb hbL)⟩,
      fun b hb => (hbsw b hb).2, fun k hk => .inl hk, .inr (.inl rfl), (World.putObj_heap_other hne).trans hd2, hX0⟩ _ _
      ⟨hsat.size, by simp [hsat.defers, hDf], fun b hb => ⟨?_, (hM0' b hb).2⟩, Kept.refl _ _, fun i T hi => T.up hle (hsn.slots i T hi), fun e he => ?_, hsn.hp.2⟩
    · have q1 := (hM0' b hb).1
      show b < (W2.putObj l ob).heap.size
      simp; omega
    · obtain ⟨_, cs, hc, hr⟩ := hsn.hp.1 e he
      refine ⟨.inr (hblk n e he), cs, ?_, e.R.up hle hr⟩
      have hel : e.b ≠ l := fun h => by
        have q := hblk n e he
        rw [h] at q; exact (hM0' l (.inr (.inr rfl))).2 q
      exact (World.putObj_heap_other hel).trans hc

/-! ### Leaving with a mark -/

theorem ResT.ctx {X' : Cx} {v : ResultVar} {T : Ty} (h : ResT X Γ H v T) (hP : X'.P = X.P) : ResT X' Γ H v T := by
  cases h with
  | tmp h => exact .tmp h
  | scal h he hs hR => exact .scal h he (hP ▸ hs) hR
  | agg h he hs hR => exact .agg h he (hP ▸ hs) hR

variable {fn : Func} {w1 : World} {M1 : Nat → Prop} {L1 : List Nat} {D : Nat}

theorem mark_done {a : Act} {w : World} {R : Ending → World → Prop} {N : Nat} (hrb : Rb X w1 M1 L1 D) (hs : Sat ⟨X.P, w1, M1, L1, N, [{ target := .collected D, args := #[] }]⟩ Γ H a w)
    (h : ∀ w', Kept X.L X.w0 w' → Sat ⟨X.P, w', M1, H.map (·.b), N, [{ target := .collected D, args := #[] }]⟩ Γ H a w' → ∃ v, (results fn a.tmps).run X.P w' = .ok v w' ∧ R (.returned v) w') :
    bodyPostM Fence.wide 0 X.P fn R .ret a w ∧ bodyPostM Fence.wide 0 X.P fn R .normal a w := by
  have hdL : D ∉ L1 := (hs.m0 D hrb.md).2
  have hD1 : D < w1.heap.size := (Array.getElem?_eq_some_iff.1 hrb.d0).1
  have hd : w.heap[D]? = some (.deferred (some [])) := (hs.below.block D hD1 hdL).trans hrb.d0
  have hHb : ∀ e ∈ H, w1.heap.size ≤ e.b ∨ e.b ∈ L1 := fun e he => (hs.hp.1 e he).1
  have hne : ∀ e ∈ H, e.b ≠ D := fun e he hel => by
    rcases hHb e he with q | q
    · rw [hel] at q; omega
    · rw [hel] at q; exact hdL q
  have hle : Le ⟨w, mask M1 H⟩ ⟨w.putObj D (.deferred none), mask M1 H⟩ := putObj_le (.inl hrb.md)
  have hkept : Kept X.L X.w0 (w.putObj D (.deferred none)) := by
    refine ⟨hs.below.os.trans hrb.kept.os, hs.below.tape.trans hrb.kept.tape, hs.below.output.trans hrb.kept.output, ?_, fun b hb hbL => ?_⟩
    · have q1 := hrb.kept.size
      have q2 : w1.heap.size ≤ w.heap.size := hs.below.size
      simp; omega
    · have hb1 : b < w1.heap.size := Nat.lt_of_lt_of_le hb hrb.kept.size
      have hbD : b ≠ D := by have := hrb.dge; omega
      have hb2 : b ∉ L1 := fun h => by
        rcases hrb.lent b h with q | q
        · omega
        · exact hbL q
      exact (World.putObj_heap_other hbD).trans ((hs.below.block b hb1 hb2).trans (hrb.kept.block b hb hbL))
  have hs' : Sat ⟨X.P, w.putObj D (.deferred none), M1, H.map (·.b), N, [{ target := .collected D, args := #[] }]⟩ Γ H a (w.putObj D (.deferred none)) := by
    refine ⟨hs.size, hs.defers, fun b hb => ⟨?_, fun hm => ?_⟩, Kept.refl _ _, fun i T hi => T.up hle (hs.slots i T hi), fun e he => ?_, hs.hp.2⟩
    · have q1 : b < w1.heap.size := (hs.m0 b hb).1
      have q2 : w1.heap.size ≤ w.heap.size := hs.below.size
      show b < (w.putObj D (.deferred none)).heap.size
      simp; omega
    · obtain ⟨e, he, hel⟩ := List.mem_map.1 hm
      have q1 := hs.m0 b hb
      rcases hHb e he with q | q
      · have q1' : b < w1.heap.size := q1.1
        omega
      · rw [hel] at q; exact q1.2 q
    · obtain ⟨_, cs, hc, hr⟩ := hs.hp.1 e he
      exact ⟨.inr (List.mem_map.2 ⟨e, he, rfl⟩), cs, (World.putObj_heap_other (hne e he)).trans hc, e.R.up hle hr⟩
  obtain ⟨v, hr, hR⟩ := h _ hkept hs'
  have hl : LeavesInM Fence.wide 0 X.P fn a.tmps R a.defers .returning w := by
    rw [hs.defers]
    exact ⟨(fun q => by cases q), .inl ⟨D, _, rfl, run_takeDeferred hd, v, hr, hR⟩⟩
  exact ⟨hl, hl⟩

theorem JQ.retM1 {N : Nat} {v : ResultVar} {T : Ty} (hrb : Rb X w1 M1 L1 D) (hf : fn.results = #[v]) (h : ResT ⟨X.P, w1, M1, L1, N, [{ target := .collected D, args := #[] }]⟩ Γ H v T) :
    JQ ⟨X.P, w1, M1, L1, N, [{ target := .collected D, args := #[] }]⟩ (bodyPostM Fence.wide 0 X.P fn (Post X T)) .ret Γ H ∧ JQ ⟨X.P, w1, M1, L1, N, [{ target := .collected D, args := #[] }]⟩ (bodyPostM Fence.wide 0 X.P fn (Post X T)) .normal Γ H := by
  have key : ∀ a w, Sat ⟨X.P, w1, M1, L1, N, [{ target := .collected D, args := #[] }]⟩ Γ H a w → bodyPostM Fence.wide 0 X.P fn (Post X T) .ret a w ∧ bodyPostM Fence.wide 0 X.P fn (Post X T) .normal a w := fun a w hs =>
    mark_done hrb hs fun w' hk hs' => by
      obtain ⟨u, hr, hT⟩ := (h.ctx (X' := ⟨X.P, w', M1, H.map (·.b), N, [{ target := .collected D, args := #[] }]⟩) rfl).run hs'
      exact ⟨u, by rw [results_eq, hf]; simp [hr], u, rfl, hk, T.up (show Le ⟨w', Go.Rt.mask M1 H⟩ ⟨w', X.M0⟩ from ⟨Nat.le_refl _, fun _ _ _ => rfl, fun k _ hk => Or.inl (hrb.mask k hk)⟩) hT⟩
  exact ⟨fun a w hs => (key a w hs).1, fun a w hs => (key a w hs).2⟩

theorem JQ.retML1 {N b : Nat} {bt : TypeId} {R R' : CTy} {v : ResultVar} {T : Ty} (hrb : Rb X w1 M1 L1 D) (hf : fn.results = #[v]) (hb : (⟨b, bt, R⟩ : HEnt) ∈ H) (hR : ∀ cs s, R.p cs s → R'.p cs s) (h : ResT ⟨X.P, w1, M1, L1, N, [{ target := .collected D, args := #[] }]⟩ Γ H v T) :
    JQ ⟨X.P, w1, M1, L1, N, [{ target := .collected D, args := #[] }]⟩ (bodyPostM Fence.wide 0 X.P fn (PostL X b bt R' T)) .ret Γ H ∧ JQ ⟨X.P, w1, M1, L1, N, [{ target := .collected D, args := #[] }]⟩ (bodyPostM Fence.wide 0 X.P fn (PostL X b bt R' T)) .normal Γ H := by
  have key : ∀ a w, Sat ⟨X.P, w1, M1, L1, N, [{ target := .collected D, args := #[] }]⟩ Γ H a w → bodyPostM Fence.wide 0 X.P fn (PostL X b bt R' T) .ret a w ∧ bodyPostM Fence.wide 0 X.P fn (PostL X b bt R' T) .normal a w := fun a w hs =>
    mark_done hrb hs fun w' hk hs' => by
      obtain ⟨u, hr, hT⟩ := (h.ctx (X' := ⟨X.P, w', M1, H.map (·.b), N, [{ target := .collected D, args := #[] }]⟩) rfl).run hs'
      obtain ⟨_, cs, hc, hr2⟩ := hs'.hp.1 _ hb
      have hl : Le ⟨w', Go.Rt.mask M1 H⟩ ⟨w', fun k => X.M0 k ∨ k = b⟩ := ⟨Nat.le_refl _, fun _ _ _ => rfl, fun k _ hk => by
        rcases hk with hk | rfl
        · exact Or.inl (hrb.mask k hk)
        · exact Or.inr ⟨_, hb, rfl⟩⟩
      exact ⟨u, by rw [results_eq, hf]; simp [hr], u, cs, rfl, hk, hc, R'.up hl (hR _ _ hr2), T.up hl hT⟩
  exact ⟨fun a w hs => (key a w hs).1, fun a w hs => (key a w hs).2⟩

theorem JQ.retM1_ret {N : Nat} {v : ResultVar} {T : Ty} (hrb : Rb X w1 M1 L1 D) (hf : fn.results = #[v]) (h : ResT ⟨X.P, w1, M1, L1, N, [{ target := .collected D, args := #[] }]⟩ Γ H v T) : JQ ⟨X.P, w1, M1, L1, N, [{ target := .collected D, args := #[] }]⟩ (bodyPostM Fence.wide 0 X.P fn (Post X T)) .ret Γ H := (JQ.retM1 hrb hf h).1
theorem JQ.retML1_ret {N b : Nat} {bt : TypeId} {R R' : CTy} {v : ResultVar} {T : Ty} (hrb : Rb X w1 M1 L1 D) (hf : fn.results = #[v]) (hb : (⟨b, bt, R⟩ : HEnt) ∈ H) (hR : ∀ cs s, R.p cs s → R'.p cs s) (h : ResT ⟨X.P, w1, M1, L1, N, [{ target := .collected D, args := #[] }]⟩ Γ H v T) : JQ ⟨X.P, w1, M1, L1, N, [{ target := .collected D, args := #[] }]⟩ (bodyPostM Fence.wide 0 X.P fn (PostL X b bt R' T)) .ret Γ H := (JQ.retML1 hrb hf hb hR h).1
theorem JQ.retM1_normal {N : Nat} {v : ResultVar} {T : Ty} (hrb : Rb X w1 M1 L1 D) (hf : fn.results = #[v]) (h : ResT ⟨X.P, w1, M1, L1, N, [{ target := .collected D, args := #[] }]⟩ Γ H v T) : JQ ⟨X.P, w1, M1, L1, N, [{ target := .collected D, args := #[] }]⟩ (bodyPostM Fence.wide 0 X.P fn (Post X T)) .normal Γ H := (JQ.retM1 hrb hf h).2
theorem JQ.retML1_normal {N b : Nat} {bt : TypeId} {R R' : CTy} {v : ResultVar} {T : Ty} (hrb : Rb X w1 M1 L1 D) (hf : fn.results = #[v]) (hb : (⟨b, bt, R⟩ : HEnt) ∈ H) (hR : ∀ cs s, R.p cs s → R'.p cs s) (h : ResT ⟨X.P, w1, M1, L1, N, [{ target := .collected D, args := #[] }]⟩ Γ H v T) : JQ ⟨X.P, w1, M1, L1, N, [{ target := .collected D, args := #[] }]⟩ (bodyPostM Fence.wide 0 X.P fn (PostL X b bt R' T)) .normal Γ H := (JQ.retML1 hrb hf hb hR h).2

/-- Leaving ahead of the loop. -/
theorem noMark {a : Act} {w : World} {R : Ending → World → Prop} {e : Exit} (h : bodyPost X.P fn R e a w) (he : e = .ret ∨ e = .normal) : bodyPostM Fence.wide 0 X.P fn R e a w := by
  rcases he with rfl | rfl
  · obtain ⟨hd, v, hr, hR⟩ := h
    show LeavesInM _ _ _ _ _ _ _ _ _
    rw [hd]; exact ⟨v, hr, hR⟩
  · obtain ⟨hd, v, hr, hR⟩ := h
    show LeavesInM _ _ _ _ _ _ _ _ _
    rw [hd]; exact ⟨v, hr, hR⟩
theorem JQ.noMark_ret {R : Ending → World → Prop} (h : JQ X (bodyPost X.P fn R) .ret Γ H) : JQ X (bodyPostM Fence.wide 0 X.P fn R) .ret Γ H := fun a w hs => noMark (h a w hs) (.inl rfl)
theorem JQ.noMark_normal {R : Ending → World → Prop} (h : JQ X (bodyPost X.P fn R) .normal Γ H) : JQ X (bodyPostM Fence.wide 0 X.P fn R) .normal Γ H := fun a w hs => noMark (h a w hs) (.inr rfl)

/-! ### Contracts of functions that hold a range over a function -/

theorem Ctr.ofM {P : Program} {f N : Nat} {fn : Func} {c : Code} {Ts : List Ty} {T : Ty} (hf : P.funcs[f]? = some fn) (hb : fn.body = some c) (hN : fn.ntmps = N) (hl : Ts.length ≤ N)
    (h : ∀ w0 M0, JC ⟨P, w0, M0, [], N, []⟩ c (bodyPostM Fence.wide 0 P fn (Post ⟨P, w0, M0, [], N, []⟩ T)) (gam0 0 Ts) []) : Ctr P f Ts T := by
  intro w0 M0 hM vs hvs
  refine Calls.mono (callsIn_wide.1 (callsIn_of_wp_marks (n := 0) (R := Post ⟨P, w0, M0, [], N, []⟩ T) hf hb trivial (wpIn_wide.2 ?_))) fun e w' ⟨v, h1, h2, h3⟩ => ⟨v, h1, h2.below, h3⟩
  subst hN
  refine h w0 M0 _ _ ⟨?_, rfl, fun k hk => ⟨hM k hk, by simp⟩, Kept.refl _ _, fun i T hi => ?_, ⟨fun e he => by (cases he), List.Pairwise.nil⟩⟩
  · have := hvs.length
    simp; omega
  · obtain ⟨_, v, hv, hT⟩ := slots0 0 hvs i T hi
    have hM' : mask M0 [] = M0 := by funext k; simp [mask]
    show T.p _ ⟨w0, mask M0 []⟩
    rw [hM']
    have hlt : i < vs.length := (List.getElem?_eq_some_iff.1 hv).1
    have : (vs.toArray ++ Array.replicate (fn.ntmps - vs.toArray.size) undef).getD i undef = v := by
      rw [Array.getD_eq_getD_getElem?, Array.getElem?_append_left (by simpa using hlt)]
      simp at hv
      simp [hv]
    rw [this]; exact hT

theorem CtrL.ofM {P : Program} {f N : Nat} {fn : Func} {c : Code} {Ts : List Ty} {b : Nat} {bt : TypeId} {R R' : CTy} {T : Ty} (hf : P.funcs[f]? = some fn) (hb : fn.body = some c) (hN : fn.ntmps = N) (hl : Ts.length ≤ N)
    (h : ∀ w0 M0, JC ⟨P, w0, M0, [b], N, []⟩ c (bodyPostM Fence.wide 0 P fn (PostL ⟨P, w0, M0, [b], N, []⟩ b bt R' T)) (gam0 0 Ts) [⟨b, bt, R⟩]) : CtrL P f Ts b bt R R' T := by
  intro w0 M0 hM hMb cs hcs hR vs hvs
  have hMe : (fun k => (M0 k ∧ k ≠ b) ∨ k = b) = M0 := by
    funext k
    by_cases hk : k = b
    · subst hk; simp [hMb]
    · simp [hk]
  refine Calls.mono (callsIn_wide.1 (callsIn_of_wp_marks (n := 0) (R := PostL ⟨P, w0, fun k => M0 k ∧ k ≠ b, [b], N, []⟩ b bt R' T) hf hb trivial (wpIn_wide.2 ?_))) fun e w' ⟨v, cs', h1, h2, h3, h4, h5⟩ => ⟨v, cs', h1, h2, h3, by rw [← hMe]; exact h4, by rw [← hMe]; exact h5⟩
  subst hN
  have hM' : mask (fun k => M0 k ∧ k ≠ b) [⟨b, bt, R⟩] = M0 := by
    funext k
    refine propext ⟨fun h => ?_, fun h => ?_⟩
    · rcases h with h | ⟨e, he, rfl⟩
      · exact h.1
      · cases he with
        | head => exact hMb
        | tail _ he => cases he
    · by_cases hk : k = b
      · exact .inr ⟨_, .head _, hk.symm⟩
      · exact .inl ⟨h, hk⟩
  refine h w0 (fun k => M0 k ∧ k ≠ b) _ _ ⟨?_, rfl, fun k hk => ⟨hM k hk.1, by simpa using hk.2⟩, Kept.refl _ _, fun i T hi => ?_, ⟨fun e he => ?_, List.pairwise_singleton ..⟩⟩
  · have := hvs.length
    simp; omega
  · obtain ⟨_, v, hv, hT⟩ := slots0 0 hvs i T hi
    show T.p _ ⟨w0, mask (fun k => M0 k ∧ k ≠ b) [⟨b, bt, R⟩]⟩
    rw [hM']
    have hlt : i < vs.length := (List.getElem?_eq_some_iff.1 hv).1
    have : (vs.toArray ++ Array.replicate (fn.ntmps - vs.toArray.size) undef).getD i undef = v := by
      rw [Array.getD_eq_getD_getElem?, Array.getElem?_append_left (by simpa using hlt)]
      simp at hv
      simp [hv]
    rw [this]; exact hT
  · cases he with
    | head =>
      refine ⟨.inr (.head _), cs, hcs, ?_⟩
      show R.p cs.toList ⟨w0, mask (fun k => M0 k ∧ k ≠ b) [⟨b, bt, R⟩]⟩
      rw [hM']; exact hR
    | tail _ he => cases he
end Go.Rt
