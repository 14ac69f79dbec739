/- The logic of the walks, and the plain mathematics, part 4: how a program logic for the model steps through code, and what the functions compute. Conditions: those of each theorem. -/
import Derived.Test.YtcbnpddeiaccbaaL3
set_option linter.unusedVariables false
set_option linter.unusedSimpArgs false
namespace Go.Rt
open Go Go.RowKit
variable {X : Cx} {ops : Array Oper} {Q : Exit → Act → World → Prop} {rest : List Oper} {Γ : Gam} {H : Hp}
variable {dst : Option Tmp} {ty : TypeId} {pos : String} {af : Array Edge} {gd : Option (Nat × Bool)} {o : Oper}
def CtrV (P : Program) (f : FuncId) (Ts : List Ty) (bt : TypeId) (T : Nat → Nat → Ty) (R : Nat → CTy) : Prop :=
 ∀ (w0 : World) (M0 : Nat → Prop), (∀ k, M0 k → k < w0.heap.size) → ∀ vs, vsP Ts vs ⟨w0, M0⟩ →
  Calls P f vs.toArray w0 fun e w' => ∃ b cap cs v, e = .returned v ∧ (T b cap).p v ⟨w', fun k => M0 k ∨ k = b⟩ ∧ Below w0.heap.size w0 w' ∧ w0.heap.size ≤ b ∧ w'.heap[b]? = some (.cells cs bt (0, 0)) ∧ (R cap).p cs.toList ⟨w', fun k => M0 k ∨ k = b⟩
def PostV (X : Cx) (bt : TypeId) (T : Nat → Nat → Ty) (R : Nat → CTy) : Ending → World → Prop := fun e w' =>
 ∃ b cap cs v, e = .returned v ∧ (T b cap).p v ⟨w', fun k => X.M0 k ∨ k = b⟩ ∧ Kept X.L X.w0 w' ∧ (X.w0.heap.size ≤ b ∨ b ∈ X.L) ∧ w'.heap[b]? = some (.cells cs bt (0, 0)) ∧ (R cap).p cs.toList ⟨w', fun k => X.M0 k ∨ k = b⟩
theorem CtrV.of {P : Program} {f N : Nat} {fn : Func} {c : Code} {Ts : List Ty} {bt : TypeId} {T : Nat → Nat → Ty} {R : Nat → CTy} (hf : P.funcs[f]? = some fn) (hb : fn.body = some c) (hN : fn.ntmps = N) (hl : Ts.length ≤ N)
  (h : ∀ w0 M0, JC ⟨P, w0, M0, [], N, []⟩ c (bodyPost P fn (PostV ⟨P, w0, M0, [], N, []⟩ bt T R)) (gam0 0 Ts) []) : CtrV P f Ts bt T R := by
 intro w0 M0 hM vs hvs
 refine Calls.mono (calls_of_wp (R := PostV ⟨P, w0, M0, [], N, []⟩ bt T R) hf hb ?_) fun e w' ⟨b, cap, cs, v, h1, hv, h2, h3, h4, h5⟩ => ⟨b, cap, cs, v, h1, hv, h2.below, h3.elim id (fun h => by cases h), h4, h5⟩
 subst hN
 refine h w0 M0 _ _ ⟨?_, rfl, fun k hk => ⟨hM k hk, by simp⟩, Kept.refl _ _, fun i T hi => ?_, ⟨fun e he => by (cases he), List.Pairwise.nil⟩⟩
 ·have := hvs.length
  simp; omega
 ·obtain ⟨_, v, hv, hT⟩ := slots0 0 hvs i T hi
  have hM' : mask M0 [] = M0 := by funext k; simp [mask]
  show T.p _ ⟨w0, mask M0 []⟩
  rw [hM']
  have hlt : i < vs.length := (List.getElem?_eq_some_iff.1 hv).1
  have : (vs.toArray ++ Array.replicate (fn.ntmps - vs.toArray.size) undef).getD i undef = v := by
   rw [Array.getD_eq_getD_getElem?, Array.getElem?_append_left (by simpa using hlt)]
   simp at hv
   simp [hv]
  rw [this]; exact hT
theorem mask_one {w : World} {M0 : Nat → Prop} {b : Nat} {bt : TypeId} {R : CTy} (hb : (⟨b, bt, R⟩ : HEnt) ∈ H) : Le ⟨w, mask M0 H⟩ ⟨w, fun k => M0 k ∨ k = b⟩ := ⟨Nat.le_refl _, fun _ _ _ => rfl, fun k _ hk => by
 rcases hk with hk | rfl
 ·exact .inl hk
 ·exact .inr ⟨_, hb, rfl⟩⟩
theorem JQ.retV {fn : Func} {b cap : Nat} {bt : TypeId} {T : Nat → Nat → Ty} {R : Nat → CTy} {r : ResultVar} (hf : fn.results = #[r]) (hb : (⟨b, bt, R cap⟩ : HEnt) ∈ H) (h : ResT X Γ H r (T b cap)) (hD : X.Df = [] := by rfl) :
  JQ X (bodyPost X.P fn (PostV X bt T R)) .ret Γ H := fun a w hs => by
 obtain ⟨hb0, cs, hc, hr⟩ := hs.hp.1 _ hb
 obtain ⟨v, hv, hT⟩ := h.run hs
 have hl := mask_one (w := w) (M0 := X.M0) hb
 exact ⟨hs.defers.trans hD, v, by rw [results_eq, hf]; simp [hv], b, cap, cs, v, rfl, (T b cap).up hl hT, hs.below, hb0, hc, (R cap).up hl hr⟩
theorem JQ.retLr {fn : Func} {b : Nat} {bt : TypeId} {R R' : CTy} {r : ResultVar} {T : Ty} (hf : fn.results = #[r]) (hb : (⟨b, bt, R⟩ : HEnt) ∈ H) (hR : ∀ cs s, R.p cs s → R'.p cs s) (h : ResT X Γ H r T) (hD : X.Df = [] := by rfl) :
  JQ X (bodyPost X.P fn (PostL X b bt R' T)) .ret Γ H := fun a w hs => by
 obtain ⟨_, cs, hc, hr⟩ := hs.hp.1 _ hb
 obtain ⟨v, hv, hT⟩ := h.run hs
 have hl := mask_one (w := w) (M0 := X.M0) hb
 exact ⟨hs.defers.trans hD, v, by rw [results_eq, hf]; simp [hv], v, cs, rfl, hs.below, hc, R'.up hl (hR _ _ hr), T.up hl hT⟩
theorem J.callV {d f bt : Nat} {T : Nat → Nat → Ty} {R : Nat → CTy} {xs : List Operand} {Ts : List Ty} {ats : Array TypeId} (hf : fnB X.P f = true) (hc : CtrV X.P f Ts bt T R) (hx : OpTs Γ xs Ts) (hN : d < X.N)
  (next : ∀ b cap, J X ops Q rest ((d, T b cap) :: Γ) (⟨b, bt, R cap⟩ :: H)) :
  J X ops Q (⟨some d, .call { callee := .value (.func f), args := xs.toArray, argTypes := ats }, ty, pos, af, none⟩ :: rest) Γ H := by
 intro a w hs
 unfold wpN
 rw [if_pos (V6 rfl _)]
 have hv := hx.ev (X := X) (hs.on (xs.flatMap T7)) (fun x hx i hi => List.mem_flatMap.2 ⟨x, hx, hi⟩)
 have h := hc w _ (mask_lt (hs.on [])) _ hv
 unfold Oper.wp
 have hr : (execOp a.eval ⟨some d, .call { callee := .value (.func f), args := xs.toArray, argTypes := ats }, ty, pos, af, none⟩).run X.P w = .ok (.enter f (xs.map a.eval).toArray) w := by
  rw [execOp_call_go]
  have := run_callFunc hf (xs.map a.eval).toArray w
  simpa using this
 rw [hr]
 refine Calls.mono h ?_
 rintro e w' ⟨b, cap, cs, v, rfl, hT, hb, hbs, hcs, hR⟩
 have hm : (fun k => mask X.M0 H k ∨ k = b) = mask X.M0 (⟨b, bt, R cap⟩ :: H) := by
  funext k
  refine propext ⟨fun h => ?_, fun h => ?_⟩
  ·rcases h with (h | ⟨e, he, h⟩) | h
   ·exact .inl h
   ·exact .inr ⟨e, .tail _ he, h⟩
   ·exact .inr ⟨_, .head _, h.symm⟩
  ·rcases h with h | ⟨e, he, h⟩
   ·exact .inl (.inl h)
   ·cases he with
    | head => exact .inr h.symm
    | tail _ he => exact .inl (.inr ⟨e, he, h⟩)
 rw [hm] at hR hT
 have hl : Le ⟨w, mask X.M0 H⟩ ⟨w', mask X.M0 (⟨b, bt, R cap⟩ :: H)⟩ := ⟨hb.size, fun k hk _ => hb.block k hk, fun k hk h => by
  rcases h with h | ⟨e, he, rfl⟩
  ·exact .inl h
  ·cases he with
   | head => exact absurd hk (Nat.not_lt.2 hbs)
   | tail _ he => exact .inr ⟨e, he, rfl⟩⟩
 have hs2 : Sat X Γ (⟨b, bt, R cap⟩ :: H) a w' := by
  refine ⟨hs.size, hs.defers, hs.m0, hs.below.ext hb, fun i T hi => T.up hl (hs.slots i T hi), fun e he => ?_, ?_⟩
  ·cases he with
   | head => exact ⟨.inl (Nat.le_trans hs.below.size hbs), cs, hcs, hR⟩
   | tail _ he =>
    obtain ⟨h1, cs', hc', hr'⟩ := hs.hp.1 e he
    exact ⟨h1, cs', (hb.block _ (hs.hp.lt he)).trans hc', e.R.up hl hr'⟩
  ·refine List.Pairwise.cons (fun b' hb' => ?_) hs.hp.2
   obtain ⟨e, he, rfl⟩ := List.mem_map.1 hb'
   have := hs.hp.lt he
   show b ≠ e.b
   omega
 exact next b cap _ _ (hs2.put hN hT)
theorem J.callB {d f : Nat} {Γ' : Gam} {H' : Hp} {xs : List Operand} {Ts : List Ty} {u : Value} {ats : Array TypeId} (hf : fnB X.P f = true) (hc : Ctr X.P f Ts (tIs u)) (hsub : ∀ a w, Sat X Γ H a w → Sat X Γ' H' a w) (hx : OpTs Γ' xs Ts) (hN : d < X.N)
  (next : J X ops Q rest ((d, tIs u) :: Γ) H) :
  J X ops Q (⟨some d, .call { callee := .value (.func f), args := xs.toArray, argTypes := ats }, ty, pos, af, none⟩ :: rest) Γ H := by
 intro a w hs
 unfold wpN
 rw [if_pos (V6 rfl _)]
 have hs' := hsub a w hs
 have hv := hx.ev (X := X) (hs'.on (xs.flatMap T7)) (fun x hx i hi => List.mem_flatMap.2 ⟨x, hx, hi⟩)
 have h := hc w _ (mask_lt (hs'.on [])) _ hv
 unfold Oper.wp
 have hr : (execOp a.eval ⟨some d, .call { callee := .value (.func f), args := xs.toArray, argTypes := ats }, ty, pos, af, none⟩).run X.P w = .ok (.enter f (xs.map a.eval).toArray) w := by
  rw [execOp_call_go]
  have := run_callFunc hf (xs.map a.eval).toArray w
  simpa using this
 rw [hr]
 refine Calls.mono h ?_
 rintro e w' ⟨v, rfl, hb, hT⟩
 have hT' : v = u := hT
 subst hT'
 exact next _ _ ((hs.ext hb).put hN rfl)
theorem sub_freezeV {α : Type} {E : Enc α} {xs : List α} {b e cap c n t m : Nat} {A : List Ty} {H' : Hp} (ht : look Γ t = some (tV (encL m) (A ++ [sIs b 0 n c]))) (hr : HRem ⟨b, e, Y5 E xs cap⟩ H H') (hn : n = xs.length) (hc : n ≤ c ∨ cap ≤ c) :
  ∀ a w, Sat X Γ H a w → Sat X [(t, tV (encL m) (A ++ [tSl E xs]))] H' a w := fun a w hs => by
 -- the row by itself
 have key : (tSl E xs).p (.slice (some ⟨b, 0, none⟩) n c) ⟨w, mask X.M0 H'⟩ := by
  have h1 : Sat ⟨X.P, X.w0, X.M0, X.L, 1, X.Df⟩ [(0, sIs b 0 n c)] H ⟨#[.slice (some ⟨b, 0, none⟩) n c], a.defers⟩ w := by
   refine ⟨rfl, hs.defers, hs.m0, hs.below, fun i T hi => ?_, hs.hp⟩
   rw [T6] at hi
   cases hb : Nat.beq 0 i with
   | true => rw [hb] at hi; have := R0.1 hb; subst this; cases hi; rfl
   | false => rw [hb] at hi; cases hi
  have h2 := U9 (X := ⟨X.P, X.w0, X.M0, X.L, 1, X.Df⟩) [0] ⟨rfl, trivial⟩ hr hn hc _ _ h1
  exact h2.slots 0 (tSl E xs) rfl
 have hsub : Sat X [] H' a w := Q8 (sub_nil) (X3 hr.sub) a w hs
 have hm : Le ⟨w, mask X.M0 H⟩ ⟨w, mask X.M0 H'⟩ := mask_le fun e he => let ⟨e', he', hb, _⟩ := hr.sub.mem e he; ⟨e', he', hb⟩
 refine ⟨hs.size, hs.defers, hs.m0, hs.below, fun i T hi => ?_, hsub.hp⟩
 rw [T6] at hi
 cases hb : Nat.beq t i with
 | false => rw [hb] at hi; cases hi
 | true =>
  rw [hb] at hi; have := R0.1 hb; subst this; cases hi
  obtain ⟨h1, h2, h3⟩ := hs.slots t _ ht
  refine ⟨h1, by simpa [encL, encF] using h2, ?_⟩
  have h4 : ∀ {A : List Ty} {cs : List Value}, cellsP (A ++ [sIs b 0 n c]) cs ⟨w, mask X.M0 H⟩ → cellsP (A ++ [tSl E xs]) cs ⟨w, mask X.M0 H'⟩ := fun {A} => by
   induction A with
   | nil =>
    intro cs h
    match cs, h with
    | [v], ⟨q1, q2, q3⟩ =>
     have q1' : v = .slice (some ⟨b, 0, none⟩) n c := q1
     subst q1'; exact ⟨key, q2, q3⟩
   | cons T A ih =>
    intro cs h
    match cs, h with
    | v :: vs, ⟨q1, q2, q3⟩ => exact ⟨T.up hm q1, q2, ih q3⟩
  exact h4 h3
section mid
variable {all : List Oper} {n : Nat} {T : Nat → Ty}
theorem region_late {Hb : Hp} {fl : Nat → Bool} {G : Nat → Gam} (hokE : okEdges all = true) (hok : ∀ i j, i < all.length → j < all.length → okPair all i j = true) (hn : n < all.length) (hG0 : G 0 = Γ)
  (hG : ∀ i o, i < all.length → all[i]? = some o → ∃ d, o.dst = some d ∧ d < X.N ∧ G (i + 1) = (d, T i) :: G i)
  (hB : ∀ i o, i < all.length → i ≠ n → (n < i ∨ fl i = true) → all[i]? = some o → OpOk X (G i) Hb all o (T i)) (hk : ∀ a w, Sat X (G all.length) Hb a w → Q .normal a w) :
  ∀ fuel listed a w, unl listed all.length ≤ fuel → RInv X Hb Γ all all.length T listed a w → listed.getD n false = true → (∀ i, i < n → fl i = false → listed.getD i false = true) → wpAny X.P .any all.toArray Q fuel listed a w := by
 have hG' : ∀ i, i < all.length → ∃ d, W6 all i = some d ∧ G (i + 1) = (d, T i) :: G i := fun i hi => by
  obtain ⟨d, h1, _, h2⟩ := hG i all[i] hi (List.getElem?_eq_getElem hi)
  exact ⟨d, by simp [W6, List.getElem?_eq_getElem hi, h1], h2⟩
 have fin : ∀ listed a w, RInv X Hb Γ all all.length T listed a w → Region.ready .any all.toArray listed = [] → Q .normal a w := by
  intro listed a w hi hr
  have hall : ∀ i, i < all.length → listed.getD i false = true := fun i hil => by
   cases hb : listed.getD i false with
   | true => rfl
   | false => exact absurd hr (ready_some hokE hi.lsize hil hb)
  exact hk a w (hi.fin hG0 hG' hall)
 intro fuel
 induction fuel with
 | zero =>
  intro listed a w hu hi hn' hrest
  have hr : Region.ready .any all.toArray listed = [] := by
   cases hr : Region.ready .any all.toArray listed with
   | nil => rfl
   | cons j l =>
    have hj : j ∈ Region.ready .any all.toArray listed := by rw [hr]; exact .head _
    obtain ⟨hun, o, ho, _⟩ := mem_ready.1 hj
    have hjl : j < all.length := by have := (Array.getElem?_eq_some_iff.1 ho).1; simpa using this
    have hm : j ∈ (List.range all.length).filter fun i => !listed.getD i true := List.mem_filter.2 ⟨List.mem_range.2 hjl, by simp [hun]⟩
    have : 0 < unl listed all.length := List.length_pos_of_mem hm
    omega
  exact ⟨hr, fin listed a w hi hr⟩
 | succ fuel ih =>
  intro listed a w hu hi hn' hrest
  refine ⟨fun hr => fin listed a w hi hr, fun i hir => ?_⟩
  obtain ⟨hun, o, ho, hready⟩ := mem_ready.1 hir
  have ho' : all[i]? = some o := by simpa using ho
  have hil : i < all.length := (List.getElem?_eq_some_iff.1 ho').1
  have hun' : listed.getD i false = false := by rw [R7 (by rw [hi.lsize]; omega) false true]; exact hun
  have hu' : unl (listed.setIfInBounds i true) all.length ≤ fuel := by
   have := unl_set hil hi.lsize hun
   omega
  have hin : i ≠ n := fun e => by rw [e, hn'] at hun'; cases hun'
  have hfl : n < i ∨ fl i = true := by
   rcases Nat.lt_or_ge i n with q | q
   ·cases hb : fl i with
    | true => exact .inr rfl
    | false => rw [hrest i q hb] at hun'; cases hun'
   ·exact .inl (by omega)
  obtain ⟨d, hd, hdN, hg⟩ := hG i o hil ho'
  have hset : ∀ j, listed.getD j false = true → (listed.setIfInBounds i true).getD j false = true := fun j hj => by
   rw [R6 (by rw [hi.lsize]; exact hil)]
   split
   ·rfl
   ·exact hj
  exact hi.step hG0 hG' hok hil ho' hun' hready hd hdN (hB i o hil hin hfl ho') fun a' w' h => ih _ a' w' hu' h (hset n hn') fun j hj hf => hset j (hrest j hj hf)
theorem region_mid {ι : Type} {Hb : ι → Hp} {Tn : ι → Ty} {TB : ι → Nat → Ty} {fl : Nat → Bool} {os : Oper} {ds : Nat} {GA : Nat → Gam} {GB : ι → Nat → Gam} (hokE : okEdges all = true) (hok : ∀ i j, i < all.length → j < all.length → okPair all i j = true) (hn : n < all.length)
  (h1 : ∀ i, i < n → fl i = false → ∃ j o, i < j ∧ j ≤ n ∧ all[j]? = some o ∧ backTo o i = true ∧ (j = n ∨ fl j = false))
  (h2 : ∀ i o, n < i → all[i]? = some o → fl i = false → ∃ j, n ≤ j ∧ j < i ∧ backTo o j = true ∧ (j = n ∨ fl j = false))
  (hos : all[n]? = some os) (hds : os.dst = some ds) (hTn : T n = K5)
  (hA0 : GA 0 = Γ) (hA : ∀ i o, i < all.length → all[i]? = some o → ∃ d, o.dst = some d ∧ d < X.N ∧ GA (i + 1) = (d, T i) :: GA i)
  (hAok : ∀ i o, i < all.length → i ≠ n → (i < n ∨ fl i = true) → all[i]? = some o → OpOk X (GA i) H all o (T i))
  (hTn' : ∀ k, TB k n = Tn k) (hTB : ∀ k i, i < all.length → i ≠ n → (i < n ∨ fl i = true) → TB k i = T i)
  (hB0 : ∀ k, GB k 0 = Γ) (hB : ∀ k i o, i < all.length → all[i]? = some o → ∃ d, o.dst = some d ∧ d < X.N ∧ GB k (i + 1) = (d, TB k i) :: GB k i)
  (hBok : ∀ k i o, i < all.length → i ≠ n → (n < i ∨ fl i = true) → all[i]? = some o → OpOk X (GB k i) (Hb k) all o (TB k i))
  (hg : os.guard = none) (hst : ∀ Γx, (∀ x U, x ∈ readsOf all os → look (GA n) x = some U → look Γx x = some U) → J X all.toArray (fun e a w => e = .normal ∧ ∃ k, Sat X ((ds, Tn k) :: Γx) (Hb k) a w) [os] Γx H)
  (hk : ∀ k a w, Sat X (GB k all.length) (Hb k) a w → Q .normal a w) :
  ∀ fuel listed a w, unl listed all.length ≤ fuel → RInv X H Γ all all.length T listed a w → listed.getD n false = false → wpAny X.P .any all.toArray Q fuel listed a w := by
 have hA' : ∀ i, i < all.length → ∃ d, W6 all i = some d ∧ GA (i + 1) = (d, T i) :: GA i := fun i hi => by
  obtain ⟨d, q1, _, q2⟩ := hA i all[i] hi (List.getElem?_eq_getElem hi)
  exact ⟨d, by simp [W6, List.getElem?_eq_getElem hi, q1], q2⟩
 have hdn : W6 all n = some ds := by simp [W6, hos, hds]
 have nready : ∀ listed a w, RInv X H Γ all all.length T listed a w → listed.getD n false = false → Region.ready .any all.toArray listed ≠ [] := fun listed a w hi hun => ready_some hokE hi.lsize hn hun
 intro fuel
 induction fuel with
 | zero =>
  intro listed a w hu hi hun
  have hm : n ∈ (List.range all.length).filter fun i => !listed.getD i true := List.mem_filter.2 ⟨List.mem_range.2 hn, by rw [R7 (by rw [hi.lsize]; omega) true false, hun]; rfl⟩
  have : 0 < unl listed all.length := List.length_pos_of_mem hm
  omega
 | succ fuel ih =>
  intro listed a w hu hi hnn
  refine ⟨fun hr => absurd hr (nready listed a w hi hnn), fun i hir => ?_⟩
  obtain ⟨hun, o, ho, hready⟩ := mem_ready.1 hir
  have ho' : all[i]? = some o := by simpa using ho
  have hil : i < all.length := (List.getElem?_eq_some_iff.1 ho').1
  have hls := hi.lsize
  have hun' : listed.getD i false = false := by rw [R7 (by rw [hls]; omega) false true]; exact hun
  have hu' : unl (listed.setIfInBounds i true) all.length ≤ fuel := by
   have := unl_set hil hls hun
   omega
  have hset : ∀ j, (listed.setIfInBounds i true).getD j false = if i = j then true else listed.getD j false := fun j => by rw [R6 (by rw [hls]; exact hil)]
  -- what hangs on the new thing hasn't run yet
  have late : ∀ m j, j ≤ m → n < j → fl j = false → listed.getD j false = false := by
   intro m
   induction m with
   | zero => intro j q1 q2; omega
   | succ m ihm =>
    intro j q1 q2 hf
    cases hb : listed.getD j false with
    | false => rfl
    | true =>
     have hjl : j < all.length := by
      rcases Nat.lt_or_ge j listed.size with q | q
      ·omega
      ·rw [Array.getD_eq_getD_getElem?, Array.getElem?_eq_none q] at hb; cases hb
     obtain ⟨k, k1, k2, k3, k4⟩ := h2 j all[j] q2 (List.getElem?_eq_getElem hjl) hf
     obtain ⟨e, he, hbd, hon⟩ := W4 k3
     have hc := hi.closed j all[j] (List.getElem?_eq_getElem hjl) hb e he hbd
     rw [hon] at hc
     rcases k4 with k4 | k4
     ·rw [k4, hnn] at hc; cases hc
     ·by_cases e2 : k = n
      ·rw [e2, hnn] at hc; cases hc
      ·rw [ihm k (by omega) (by omega) k4] at hc; cases hc
  by_cases hin : i = n
  ·subst hin
   rw [hos] at ho'; cases ho'
   have hbef : ∀ m j, i - j ≤ m → j < i → fl j = false → listed.getD j false = true := by
    intro m
    induction m with
    | zero => intro j q1 q2; omega
    | succ m ihm =>
     intro j q1 q2 hf
     obtain ⟨k, ok, hjk, hki, hok', hbk, hkf⟩ := h1 j q2 hf
     obtain ⟨e, he, hbd, hon⟩ := W4 hbk
     rcases Nat.lt_or_ge k i with q | q
     ·have hkf' : fl k = false := by rcases hkf with h | h; omega; exact h
      have := hi.closed k ok hok' (ihm k (by omega) q hkf') e he hbd
      rw [hon] at this; exact this
     ·have hki : k = i := by omega
      subst hki
      rw [hos] at hok'; cases hok'
      have := hready e he hbd
      rw [hon] at this; exact this
   have hsat := hi.known
   have hrd : ∀ x U, x ∈ readsOf all os → look (GA i) x = some U → look (Go.Rt.known all all.length T listed Γ) x = some U := fun x U hx hU => by
    rcases G_look (fun j hj => hA' j (by omega)) i (Nat.le_refl _) x U hU with ⟨j, hj, hd, rfl⟩ | ⟨hno, hU0⟩
    ·obtain ⟨oj, q1, q2⟩ := Option.bind_eq_some_iff.1 hd
     obtain ⟨e, he, hb, hon⟩ := W4 ((okPair_read (hok i j hil (by omega)) hos q1 q2 hx).1 hj)
     exact known_new (by omega) (by rw [← hon]; exact hready e he hb) hd fun k hkl hkj => okPair_dst (hok j k (by omega) hkl) (Ne.symm hkj) hd
    ·rw [hA0] at hU0
     refine known_old hU0 fun j hjl hl hd => ?_
     rcases Nat.lt_trichotomy j i with q | q | q
     ·exact hno j q hd
     ·subst q; rw [hnn] at hl; cases hl
     ·obtain ⟨oj, q1, q2⟩ := Option.bind_eq_some_iff.1 hd
      obtain ⟨e, he, hb, hon⟩ := W4 ((okPair_read (hok i j hil hjl) hos q1 q2 hx).2 q)
      have := hi.closed j oj q1 hl e he hb
      rw [hon, hnn] at this; cases this
   have hty := hst _ hrd a w hsat
   unfold wpN at hty
   rw [if_pos (V6 hg _)] at hty
   unfold wpOp
   simp only [ho]
   rw [if_pos (V6 hg _)]
   refine .inl (upon_mono1 (fun e a w q => q.1) (fun a' w' q => ?_) _ hty)
   unfold wpN at q
   obtain ⟨_, k, hs'⟩ := q
   have hne : ∀ x, ds ≠ x → ∀ U, look (Go.Rt.known all all.length T listed Γ) x = some U → U.p (a'.tmps.getD x undef) ⟨w', mask X.M0 (Hb k)⟩ := fun x hx U hU => by
    refine hs'.slots x U ?_
    rw [T6]
    have : Nat.beq ds x = false := by
     cases hb : Nat.beq ds x with
     | false => rfl
     | true => exact absurd (R0.1 hb) hx
    rw [this]; exact hU
   refine region_late (T := TB k) (fl := fl) (G := GB k) hokE hok hil (hB0 k) (hB k) (hBok k) (hk k) _ _ a' w' hu' ?_ ((hset i).trans (if_pos rfl)) fun j hj hf => by
    rw [hset, if_neg (by omega)]; exact hbef (i - j) j (Nat.le_refl _) hj hf
   refine ⟨hs'.size, hs'.defers, hs'.m0, hs'.below, hs'.hp, by simp [hls], fun j oj hj hl e he hbd => ?_, fun j x hj hl hx => ?_, fun x U hU hno => ?_⟩
   ·rw [hset] at hl ⊢
    by_cases hij : i = j
    ·subst hij
     rw [hos] at hj; cases hj
     split
     ·rfl
     ·exact hready e he hbd
    ·rw [if_neg hij] at hl
     split
     ·rfl
     ·exact hi.closed j oj hj hl e he hbd
   ·by_cases hji : j = i
    ·subst hji
     rw [hdn] at hx; cases hx
     rw [hTn']
     refine hs'.slots ds _ ?_
     rw [T6, Nat.beq_refl]; rfl
    ·rw [hset, if_neg (Ne.symm hji)] at hl
     have hearly : j < i ∨ fl j = true := by
      rcases Nat.lt_or_ge j i with q | q
      ·exact .inl q
      ·cases hf : fl j with
       | true => exact .inr rfl
       | false => rw [late j j (Nat.le_refl _) (by omega) hf] at hl; cases hl
     rw [hTB k j hj hji hearly]
     exact hne x (fun e => okPair_dst (hok i j hil hj) (Ne.symm hji) hdn (e ▸ hx)) _ (known_new hj hl hx fun m hm hmj => okPair_dst (hok j m hj hm) (Ne.symm hmj) hx)
   ·refine hne x (fun e => hno i hil (by rw [hset, if_pos rfl]) (e ▸ hdn)) _ (known_old hU fun m hm hl => hno m hm ?_)
    rw [hset]; split
    ·rfl
    ·exact hl
  ·by_cases hlt : i < n ∨ fl i = true
   ·obtain ⟨d, hd, hdN, hgg⟩ := hA i o hil ho'
    exact hi.step hA0 hA' hok hil ho' hun' hready hd hdN (hAok i o hil hin hlt ho') fun a' w' h => ih _ a' w' hu' h (by rw [hset, if_neg hin]; exact hnn)
   ·have hf : fl i = false := by
     cases hb : fl i with
     | false => rfl
     | true => exact absurd (.inr hb) hlt
    have hni : n < i := by
     rcases Nat.lt_trichotomy i n with q | q | q
     ·exact absurd (.inl q) hlt
     ·exact absurd q hin
     ·exact q
    obtain ⟨k, k1, k2, k3, k4⟩ := h2 i o hni ho' hf
    obtain ⟨e, he, hbd, hon⟩ := W4 k3
    have hc := hready e he hbd
    rw [hon] at hc
    by_cases e2 : k = n
    ·rw [e2, hnn] at hc; cases hc
    ·rw [late k k (Nat.le_refl _) (by omega) (k4.resolve_left e2)] at hc; cases hc
end mid
inductive TM {ι : Type} (X : Cx) (H : Hp) (Hb : ι → Hp) (Tn : ι → Ty) (all : List Oper) (fl : Nat → Bool) (n : Nat) (Γn : Gam) : Nat → Gam → (ι → Gam) → List Oper → (ι → Gam) → Prop
 | nil {i : Nat} {ΓA : Gam} {ΓB : ι → Gam} : TM X H Hb Tn all fl n Γn i ΓA ΓB [] ΓB
 | pre {i d : Nat} {ΓA : Gam} {ΓB Γ' : ι → Gam} {o : Oper} {rest : List Oper} {T : Ty} (h : R2 X ΓA H o T) (hd : o.dst = some d) (hN : d < X.N) (hg : o.guard = none) (hf : (Nat.blt i n && !fl i) = true)
   (next : TM X H Hb Tn all fl n Γn (i + 1) ((d, T) :: ΓA) (fun k => (d, T) :: ΓB k) rest Γ') : TM X H Hb Tn all fl n Γn i ΓA ΓB (o :: rest) Γ'
 | any {i d : Nat} {ΓA : Gam} {ΓB Γ' : ι → Gam} {o : Oper} {rest : List Oper} {T : Ty} (h : R2 X ΓA H o T) (h' : ∀ k, R2 X (ΓB k) (Hb k) o T) (hd : o.dst = some d) (hN : d < X.N) (hg : o.guard = none) (hf : (!Nat.beq i n && fl i) = true)
   (next : TM X H Hb Tn all fl n Γn (i + 1) ((d, T) :: ΓA) (fun k => (d, T) :: ΓB k) rest Γ') : TM X H Hb Tn all fl n Γn i ΓA ΓB (o :: rest) Γ'
 | mid {d : Nat} {ΓB Γ' : ι → Gam} {o : Oper} {rest : List Oper} (hd : o.dst = some d) (hN : d < X.N) (hg : o.guard = none)
   (next : TM X H Hb Tn all fl n Γn (n + 1) ((d, K5) :: Γn) (fun k => (d, Tn k) :: ΓB k) rest Γ') : TM X H Hb Tn all fl n Γn n Γn ΓB (o :: rest) Γ'
 | post {i d : Nat} {ΓA : Gam} {ΓB Γ' : ι → Gam} {o : Oper} {rest : List Oper} {T : ι → Ty} (h' : ∀ k, R2 X (ΓB k) (Hb k) o (T k)) (hd : o.dst = some d) (hN : d < X.N) (hg : o.guard = none) (hf : (Nat.blt n i && !fl i) = true)
   (next : TM X H Hb Tn all fl n Γn (i + 1) ((d, K5) :: ΓA) (fun k => (d, T k) :: ΓB k) rest Γ') : TM X H Hb Tn all fl n Γn i ΓA ΓB (o :: rest) Γ'
theorem TM.seq {ι : Type} {Hb : ι → Hp} {Tn : ι → Ty} {all : List Oper} {fl : Nat → Bool} {n k : Nat} {ΓA Γn : Gam} {ΓB Γ' : ι → Gam} {l : List Oper} (h : TM X H Hb Tn all fl n Γn k ΓA ΓB l Γ') :
  ∃ (GA : Nat → Gam) (GB : ι → Nat → Gam) (T : Nat → Ty) (TB : ι → Nat → Ty), GA 0 = ΓA ∧ (∀ κ, GB κ 0 = ΓB κ) ∧ (∀ κ, GB κ l.length = Γ' κ) ∧
  ∀ i o, l[i]? = some o → o.guard = none ∧ ∃ d, o.dst = some d ∧ d < X.N ∧ GA (i + 1) = (d, T i) :: GA i ∧ (∀ κ, GB κ (i + 1) = (d, TB κ i) :: GB κ i) ∧
   (k + i ≠ n → (k + i < n ∨ fl (k + i) = true) → R2 X (GA i) H o (T i) ∧ ∀ κ, TB κ i = T i) ∧ (k + i ≠ n → (n < k + i ∨ fl (k + i) = true) → ∀ κ, R2 X (GB κ i) (Hb κ) o (TB κ i)) ∧ (k + i = n → T i = K5 ∧ GA i = Γn ∧ ∀ κ, TB κ i = Tn κ) := by
 induction h with
 | nil => rename_i i ΓA ΓB; exact ⟨fun _ => ΓA, fun κ _ => ΓB κ, fun _ => K5, fun _ _ => K5, rfl, fun _ => rfl, fun _ => rfl, fun i o h => by simp at h⟩
 | pre h hd hN hg hf _ ih =>
  rename_i j d ΓA ΓB Γ' o rest T _
  obtain ⟨GA, GB, T', TB, h0, h1, h2, h3⟩ := ih
  simp only [Bool.and_eq_true, Bool.not_eq_true'] at hf
  have hlt := nat_blt.1 hf.1
  refine ⟨fun i => match i with | 0 => ΓA | i + 1 => GA i, fun κ i => match i with | 0 => ΓB κ | i + 1 => GB κ i, fun i => match i with | 0 => T | i + 1 => T' i, fun κ i => match i with | 0 => T | i + 1 => TB κ i, rfl, fun _ => rfl, h2, fun i o' ho => ?_⟩
  cases i with
  | zero => simp at ho; subst ho; exact ⟨hg, d, hd, hN, h0, fun κ => h1 κ, fun _ _ => ⟨h, fun _ => rfl⟩, fun _ q => (by rcases q with q | q; (omega); (rw [Nat.add_zero, hf.2] at q; cases q)), fun q => by omega⟩
  | succ i =>
   have := h3 i o' (by simpa using ho)
   rw [show j + 1 + i = j + (i + 1) by omega] at this
   exact this
 | any h h' hd hN hg hf _ ih =>
  rename_i j d ΓA ΓB Γ' o rest T _
  obtain ⟨GA, GB, T', TB, h0, h1, h2, h3⟩ := ih
  simp only [Bool.and_eq_true, Bool.not_eq_true'] at hf
  have hne : j ≠ n := fun e => by rw [R0.2 e] at hf; cases hf.1
  refine ⟨fun i => match i with | 0 => ΓA | i + 1 => GA i, fun κ i => match i with | 0 => ΓB κ | i + 1 => GB κ i, fun i => match i with | 0 => T | i + 1 => T' i, fun κ i => match i with | 0 => T | i + 1 => TB κ i, rfl, fun _ => rfl, h2, fun i o' ho => ?_⟩
  cases i with
  | zero => simp at ho; subst ho; exact ⟨hg, d, hd, hN, h0, fun κ => h1 κ, fun _ _ => ⟨h, fun _ => rfl⟩, fun _ _ => h', fun q => absurd q hne⟩
  | succ i =>
   have := h3 i o' (by simpa using ho)
   rw [show j + 1 + i = j + (i + 1) by omega] at this
   exact this
 | mid hd hN hg _ ih =>
  rename_i d ΓB Γ' o rest _
  obtain ⟨GA, GB, T', TB, h0, h1, h2, h3⟩ := ih
  refine ⟨fun i => match i with | 0 => Γn | i + 1 => GA i, fun κ i => match i with | 0 => ΓB κ | i + 1 => GB κ i, fun i => match i with | 0 => K5 | i + 1 => T' i, fun κ i => match i with | 0 => Tn κ | i + 1 => TB κ i, rfl, fun _ => rfl, h2, fun i o' ho => ?_⟩
  cases i with
  | zero => simp at ho; subst ho; exact ⟨hg, d, hd, hN, h0, fun κ => h1 κ, fun q => absurd rfl q, fun q => absurd rfl q, fun _ => ⟨rfl, rfl, fun _ => rfl⟩⟩
  | succ i =>
   have := h3 i o' (by simpa using ho)
   rw [show n + 1 + i = n + (i + 1) by omega] at this
   exact this
 | post h' hd hN hg hf _ ih =>
  rename_i j d ΓA ΓB Γ' o rest T _
  obtain ⟨GA, GB, T', TB, h0, h1, h2, h3⟩ := ih
  simp only [Bool.and_eq_true, Bool.not_eq_true'] at hf
  have hlt := nat_blt.1 hf.1
  refine ⟨fun i => match i with | 0 => ΓA | i + 1 => GA i, fun κ i => match i with | 0 => ΓB κ | i + 1 => GB κ i, fun i => match i with | 0 => K5 | i + 1 => T' i, fun κ i => match i with | 0 => T κ | i + 1 => TB κ i, rfl, fun _ => rfl, h2, fun i o' ho => ?_⟩
  cases i with
  | zero => simp at ho; subst ho; exact ⟨hg, d, hd, hN, h0, fun κ => h1 κ, fun _ q => (by rcases q with q | q; (omega); (rw [Nat.add_zero, hf.2] at q; cases q)), fun _ _ => h', fun q => by omega⟩
  | succ i =>
   have := h3 i o' (by simpa using ho)
   rw [show j + 1 + i = j + (i + 1) by omega] at this
   exact this
def okM (all : List Oper) (n : Nat) (fl : Nat → Bool) : Bool :=
 okEdges all && ((List.range all.length).all fun i => (List.range all.length).all fun j => okPair all i j) && Nat.blt n all.length &&
 ((List.range n).all fun i => fl i || (List.range (n + 1)).any fun j => Nat.blt i j && opAtB all j (backTo · i) && (Nat.beq j n || !fl j)) &&
 (List.range all.length).all fun i => !Nat.blt n i || fl i || (List.range i).any fun j => Nat.ble n j && opAtB all i (backTo · j) && (Nat.beq j n || !fl j)
theorem JC.drawM {ι : Type} {Hb : ι → Hp} {Tn : ι → Ty} {id ds : Nat} {l : List Oper} {Γn : Gam} {Γ' : ι → Gam} {os : Oper} (n : Nat) (fl : Nat → Bool) (hm : X.P.follows .mixedOrders = true) (hok : okM l n fl = true) (hos : l[n]? = some os) (hds : os.dst = some ds)
  (ht : TM X H Hb Tn l fl n Γn 0 Γ (fun _ => Γ) l Γ') (hst : ∀ Γx, (∀ x U, x ∈ readsOf l os → look Γn x = some U → look Γx x = some U) → J X l.toArray (fun e a w => e = .normal ∧ ∃ k, Sat X ((ds, Tn k) :: Γx) (Hb k) a w) [os] Γx H)
  (next : ∀ k, JQ X Q .normal (Γ' k) (Hb k)) : JC X (.region id l.toArray true) Q Γ H := by
 intro a w hs
 simp only [okM, Bool.and_eq_true] at hok
 obtain ⟨⟨⟨⟨h1, h2⟩, h3⟩, h4⟩, h5⟩ := hok
 have hn := nat_blt.1 h3
 obtain ⟨GA, GB, T, TB, g0, g1, g2, g3⟩ := ht.seq
 have hdn := g3 n os hos
 rw [Nat.zero_add] at hdn
 have e0 : ∀ i, 0 + i = i := fun i => Nat.zero_add i
 refine wp_region_any hm ?_
 have hb : Below w.heap.size w { w with drawn := w.drawn + 1 } := (Below.refl _ w).drew
 obtain ⟨hgn, d, hdd, _, _, _, _, _, hTn⟩ := hdn
 have hTn := hTn rfl
 have := region_mid (Q := Q) (H := H) (Hb := Hb) (Tn := Tn) (TB := TB) (fl := fl) (os := os) (ds := ds) (T := T) (GA := GA) (GB := GB) (n := n) h1 (fun i j hi hj => K9 (K9 h2 hi) hj) hn
  (fun i hi hf => ?_) (fun i o hi ho hf => ?_) hos hds hTn.1 g0
  (fun i o hi ho => by obtain ⟨_, d, q1, q2, q3, _⟩ := g3 i o ho; exact ⟨d, q1, q2, q3⟩)
  (fun i o hi hne hlt ho => by obtain ⟨q0, d, q1, q2, q3, q4, q5, _⟩ := g3 i o ho; rw [e0] at q5; exact .inl ⟨q0, (q5 hne hlt).1⟩)
  hTn.2.2 (fun k i hi hne hlt => by obtain ⟨q0, d, q1, q2, q3, q4, q5, _⟩ := g3 i l[i] (List.getElem?_eq_getElem hi); rw [e0] at q5; exact (q5 hne hlt).2 k)
  g1 (fun k i o hi ho => by obtain ⟨_, d, q1, q2, q3, q4, _⟩ := g3 i o ho; exact ⟨d, q1, q2, q4 k⟩)
  (fun k i o hi hne hlt ho => by obtain ⟨q0, d, q1, q2, q3, q4, q5, q6, _⟩ := g3 i o ho; rw [e0] at q6; exact .inl ⟨q0, q6 hne hlt k⟩)
  hgn (fun Γx hx => hst Γx fun x U q1 q2 => hx x U q1 (hTn.2.1 ▸ q2)) (fun k a w hs => next k a w (g2 k ▸ hs)) l.length (Array.replicate l.length false) a { w with drawn := w.drawn + 1 }
  (by have := List.length_filter_le (fun i => !(Array.replicate l.length false).getD i true) (List.range l.length); simpa [unl] using this)
  (RInv.start (hs.ext hb)) (by simp only [Array.getD_eq_getD_getElem?, Array.getElem?_replicate]; split <;> rfl)
 ·simpa using this
 ·have h6 := K9 h4 hi
  simp only [Bool.or_eq_true] at h6
  rcases h6 with h6 | h6
  ·rw [hf] at h6; cases h6
  ·obtain ⟨j, hj, hjj⟩ := List.any_eq_true.1 h6
   simp only [Bool.and_eq_true, Bool.or_eq_true, Bool.not_eq_true', R0] at hjj
   have hjl : j < l.length := by have := List.mem_range.1 hj; omega
   refine ⟨j, l[j], nat_blt.1 hjj.1.1, by have := List.mem_range.1 hj; omega, List.getElem?_eq_getElem hjl, ?_, hjj.2⟩
   have := hjj.1.2
   simpa [opAtB, List.getElem?_eq_getElem hjl] using this
 ·have hil : i < l.length := (List.getElem?_eq_some_iff.1 ho).1
  have h6 := K9 h5 hil
  simp only [Bool.or_eq_true, Bool.not_eq_true'] at h6
  rcases h6 with (h6 | h6) | h6
  ·rw [nat_blt.2 hi] at h6; cases h6
  ·rw [hf] at h6; cases h6
  ·obtain ⟨j, hj, hjj⟩ := List.any_eq_true.1 h6
   simp only [Bool.and_eq_true, Bool.or_eq_true, Bool.not_eq_true', R0] at hjj
   refine ⟨j, Nat.le_of_ble_eq_true hjj.1.1, List.mem_range.1 hj, ?_, hjj.2⟩
   have := hjj.1.2
   simpa [opAtB, ho] using this
theorem J.midO {ι : Type} {Hb : ι → Hp} {Tn : ι → Ty} {d : Nat} {l : List Oper} (k : ι) : J X l.toArray (fun e a w => e = .normal ∧ ∃ k, Sat X ((d, Tn k) :: Γ) (Hb k) a w) [] ((d, Tn k) :: Γ) (Hb k) := fun a w hs => by unfold wpN; exact ⟨rfl, k, hs⟩
end Go.Rt
namespace Go.Rt
open Go Go.RowKit
variable {X : Cx} {ops : Array Oper} {Q : Exit → Act → World → Prop} {rest : List Oper} {Γ : Gam} {H : Hp}
section gp
variable {all : List Oper} {n : Nat} {T : Nat → Ty} {G : Nat → Gam}
def GPok (all : List Oper) (T : Nat → Ty) (G : Nat → Gam) (n : Nat) : Prop := ∀ i, i < n → (∃ d, W6 all i = some d ∧ G (i + 1) = (d, T i) :: G i) ∨ (W6 all i = none ∧ G (i + 1) = G i)
theorem GPok.look (hG : GPok all T G n) : ∀ i, i ≤ n → ∀ x U, Rt.look (G i) x = some U → (∃ j, j < i ∧ W6 all j = some x ∧ U = T j) ∨ ((∀ j, j < i → W6 all j ≠ some x) ∧ Rt.look (G 0) x = some U) := by
 intro i
 induction i with
 | zero => intro _ x U h; exact .inr ⟨fun j hj => by omega, h⟩
 | succ i ih =>
  intro hi x U h
  rcases hG i (by omega) with ⟨d, hd, hg⟩ | ⟨hd, hg⟩
  ·rw [hg, T6] at h
   cases hb : Nat.beq d x with
   | true =>
    rw [hb] at h; cases h
    exact .inl ⟨i, by omega, by rw [hd, R0.1 hb], rfl⟩
   | false =>
    rw [hb] at h
    have hne : d ≠ x := fun e => by rw [e, Nat.beq_refl] at hb; cases hb
    rcases ih (by omega) x U h with ⟨j, h1, h2, h3⟩ | ⟨h1, h2⟩
    ·exact .inl ⟨j, by omega, h2, h3⟩
    ·refine .inr ⟨fun j hj => ?_, h2⟩
     rcases Nat.lt_or_ge j i with q | q
     ·exact h1 j q
     ·have : j = i := by omega
      subst this
      rw [hd]; exact fun e => hne (by simpa using e)
  ·rw [hg] at h
   rcases ih (by omega) x U h with ⟨j, h1, h2, h3⟩ | ⟨h1, h2⟩
   ·exact .inl ⟨j, by omega, h2, h3⟩
   ·refine .inr ⟨fun j hj => ?_, h2⟩
    rcases Nat.lt_or_ge j i with q | q
    ·exact h1 j q
    ·have : j = i := by omega
     subst this
     rw [hd]; exact fun e => by cases e
theorem RInv.readsP {listed : Array Bool} {a : Act} {w : World} (hi : RInv X H Γ all n T listed a w) (hG0 : G 0 = Γ) (hG : GPok all T G n) (hok : ∀ i j, i < n → j < n → okPair all i j = true) {i : Nat} (hin : i < n) {o : Oper} (ho : all[i]? = some o) (hun : listed.getD i false = false) (hready : ∀ e ∈ o.after, Region.binds .any e = true → listed.getD e.on false = true)
  {x : Nat} (hx : x ∈ readsOf all o) {U : Ty} (hU : Rt.look (G i) x = some U) : U.p (a.tmps.getD x undef) ⟨w, mask X.M0 H⟩ := by
 have wr : ∀ j, j < n → W6 all j = some x → ∃ oj, all[j]? = some oj ∧ oj.dst = some x := fun j _ hj => by
  unfold W6 at hj
  obtain ⟨oj, h1, h2⟩ := Option.bind_eq_some_iff.1 hj
  exact ⟨oj, h1, h2⟩
 rcases hG.look i (by omega) x U hU with ⟨j, hj, hd, rfl⟩ | ⟨hno, hU0⟩
 ·obtain ⟨oj, h1, h2⟩ := wr j (by omega) hd
  obtain ⟨e, he, hb, hon⟩ := W4 ((okPair_read (hok i j hin (by omega)) ho h1 h2 hx).1 hj)
  exact hi.done j x (by omega) (by rw [← hon]; exact hready e he hb) hd
 ·rw [hG0] at hU0
  refine hi.old x U hU0 fun j hjn hl hd => ?_
  rcases Nat.lt_trichotomy j i with q | q | q
  ·exact hno j q hd
  ·subst q; rw [hun] at hl; cases hl
  ·obtain ⟨oj, h1, h2⟩ := wr j hjn hd
   obtain ⟨e, he, hb, hon⟩ := W4 ((okPair_read (hok i j hin hjn) ho h1 h2 hx).2 q)
   have := hi.closed j oj h1 hl e he hb
   rw [hon, hun] at this; cases this
theorem RInv.finP {listed : Array Bool} {a : Act} {w : World} (hi : RInv X H Γ all n T listed a w) (hG0 : G 0 = Γ) (hG : GPok all T G n) (hl : ∀ i, i < n → listed.getD i false = true) : Sat X (G n) H a w := by
 refine ⟨hi.size, hi.defers, hi.m0, hi.below, fun x U hU => ?_, hi.hp⟩
 rcases hG.look n (Nat.le_refl _) x U hU with ⟨j, hj, hd, rfl⟩ | ⟨hno, hU0⟩
 ·exact hi.done j x hj (hl j hj) hd
 ·rw [hG0] at hU0
  exact hi.old x U hU0 fun j hj _ => hno j hj
theorem RInv.stepP {listed : Array Bool} {a : Act} {w : World} (hi : RInv X H Γ all n T listed a w) (hG0 : G 0 = Γ) (hG : GPok all T G n) (hok : ∀ i j, i < n → j < n → okPair all i j = true) {i d : Nat} (hin : i < n) {o : Oper} (ho : all[i]? = some o) (hun : listed.getD i false = false) (hready : ∀ e ∈ o.after, Region.binds .any e = true → listed.getD e.on false = true)
  (hd : o.dst = some d) (hdN : d < X.N) (hgn : o.guard = none) (hop : R2 X (G i) H o (T i)) {K : Act → World → Prop} (hK : ∀ a' w', RInv X H Γ all n T (listed.setIfInBounds i true) a' w' → K a' w') : wpOp X.P all.toArray Q i K a w := by
 have hson : SatOn X (slotsOf o) (G i) H a w := ⟨hi.size, hi.defers, hi.m0, hi.below, fun x U hx hU => hi.readsP hG0 hG hok hin ho hun hready (List.mem_append.2 (.inl hx)) hU, hi.hp⟩
 have ho2 : all.toArray[i]? = some o := by simpa using ho
 unfold wpOp
 simp only [ho2]
 rw [if_pos (V6 hgn _)]
 refine .inl (wp_mono_false ?_ (hop a w hson))
 rintro a' w' ⟨v, rfl, hb, hv⟩
 rw [hd]
 exact hK _ _ (hi.next hok hin ho hd hdN hready hb hv)
end gp
inductive TP (X : Cx) (H : Hp) (al : Nat → Bool) (n : Nat) (Γn : Gam) : Nat → Gam → List Oper → List Ty → Gam → Prop
 | nil {i : Nat} {Γ : Gam} : TP X H al n Γn i Γ [] [] Γ
 | op {i d : Nat} {Γ Γ' : Gam} {o : Oper} {rest : List Oper} {T : Ty} {Ts : List Ty} (h : R2 X Γ H o T) (hd : o.dst = some d) (hN : d < X.N) (hg : o.guard = none) (hi : Nat.beq i n = false) (next : TP X H al n Γn (i + 1) ((d, T) :: Γ) rest Ts Γ') : TP X H al n Γn i Γ (o :: rest) (T :: Ts) Γ'
 | skip {i d : Nat} {Γ Γ' : Gam} {o : Oper} {rest : List Oper} {T : Ty} {Ts : List Ty} (hd : o.dst = some d) (hf : al i = false) (hi : Nat.beq i n = false) (next : TP X H al n Γn (i + 1) ((d, T) :: Γ) rest Ts Γ') : TP X H al n Γn i Γ (o :: rest) (T :: Ts) Γ'
 | skip0 {i : Nat} {Γ Γ' : Gam} {o : Oper} {rest : List Oper} {T : Ty} {Ts : List Ty} (hd : o.dst = none) (hf : al i = false) (hi : Nat.beq i n = false) (next : TP X H al n Γn (i + 1) Γ rest Ts Γ') : TP X H al n Γn i Γ (o :: rest) (T :: Ts) Γ'
 | at {d : Nat} {Γ' : Gam} {o : Oper} {rest : List Oper} {T : Ty} {Ts : List Ty} (hd : o.dst = some d) (hf : al n = false) (next : TP X H al n Γn (n + 1) ((d, T) :: Γn) rest Ts Γ') : TP X H al n Γn n Γn (o :: rest) (T :: Ts) Γ'
 | at0 {Γ' : Gam} {o : Oper} {rest : List Oper} {T : Ty} {Ts : List Ty} (hd : o.dst = none) (hf : al n = false) (next : TP X H al n Γn (n + 1) Γn rest Ts Γ') : TP X H al n Γn n Γn (o :: rest) (T :: Ts) Γ'
def tyAt (Ts : List Ty) (i : Nat) : Ty := Ts.getD i K5
theorem TP.seq {al : Nat → Bool} {n k : Nat} {Γn Γ Γ' : Gam} {l : List Oper} {Ts : List Ty} (h : TP X H al n Γn k Γ l Ts Γ') : ∃ G : Nat → Gam, G 0 = Γ ∧ G l.length = Γ' ∧ Ts.length = l.length ∧
  ∀ i o, l[i]? = some o → ((∃ d, o.dst = some d ∧ G (i + 1) = (d, tyAt Ts i) :: G i) ∨ (o.dst = none ∧ G (i + 1) = G i)) ∧ (al (k + i) = true → o.guard = none ∧ R2 X (G i) H o (tyAt Ts i) ∧ ∃ d, o.dst = some d ∧ d < X.N) ∧ (k + i = n → G i = Γn) := by
 induction h with
 | nil => rename_i i Γ; exact ⟨fun _ => Γ, rfl, rfl, rfl, fun i o h => by simp at h⟩
 | op h hd hN hg hi _ ih =>
  rename_i j d Γ Γ' o rest T Ts _
  obtain ⟨G, h0, h1, hl, h2⟩ := ih
  refine ⟨fun i => match i with | 0 => Γ | i + 1 => G i, rfl, h1, by simp [hl], fun i o' ho => ?_⟩
  cases i with
  | zero => simp at ho; subst ho; exact ⟨.inl ⟨d, hd, h0⟩, fun _ => ⟨hg, h, d, hd, hN⟩, fun e => (by rw [R0.2 (show j = n from e)] at hi; cases hi)⟩
  | succ i =>
   have := h2 i o' (by simpa using ho)
   rw [show j + 1 + i = j + (i + 1) by omega] at this
   exact this
 | skip hd hf hi _ ih =>
  rename_i j d Γ Γ' o rest T Ts _
  obtain ⟨G, h0, h1, hl, h2⟩ := ih
  refine ⟨fun i => match i with | 0 => Γ | i + 1 => G i, rfl, h1, by simp [hl], fun i o' ho => ?_⟩
  cases i with
  | zero => simp at ho; subst ho; exact ⟨.inl ⟨d, hd, h0⟩, fun q => (by rw [Nat.add_zero, hf] at q; cases q), fun e => (by rw [R0.2 (show j = n from e)] at hi; cases hi)⟩
  | succ i =>
   have := h2 i o' (by simpa using ho)
   rw [show j + 1 + i = j + (i + 1) by omega] at this
   exact this
 | skip0 hd hf hi _ ih =>
  rename_i j Γ Γ' o rest T Ts _
  obtain ⟨G, h0, h1, hl, h2⟩ := ih
  refine ⟨fun i => match i with | 0 => Γ | i + 1 => G i, rfl, h1, by simp [hl], fun i o' ho => ?_⟩
  cases i with
  | zero => simp at ho; subst ho; exact ⟨.inr ⟨hd, h0⟩, fun q => (by rw [Nat.add_zero, hf] at q; cases q), fun e => (by rw [R0.2 (show j = n from e)] at hi; cases hi)⟩
  | succ i =>
   have := h2 i o' (by simpa using ho)
   rw [show j + 1 + i = j + (i + 1) by omega] at this
   exact this
 | «at» hd hf _ ih =>
  rename_i d Γ' o rest T Ts _
  obtain ⟨G, h0, h1, hl, h2⟩ := ih
  refine ⟨fun i => match i with | 0 => Γn | i + 1 => G i, rfl, h1, by simp [hl], fun i o' ho => ?_⟩
  cases i with
  | zero => simp at ho; subst ho; exact ⟨.inl ⟨d, hd, h0⟩, fun q => (by rw [Nat.add_zero, hf] at q; cases q), fun _ => rfl⟩
  | succ i =>
   have := h2 i o' (by simpa using ho)
   rw [show n + 1 + i = n + (i + 1) by omega] at this
   exact this
 | at0 hd hf _ ih =>
  rename_i Γ' o rest T Ts _
  obtain ⟨G, h0, h1, hl, h2⟩ := ih
  refine ⟨fun i => match i with | 0 => Γn | i + 1 => G i, rfl, h1, by simp [hl], fun i o' ho => ?_⟩
  cases i with
  | zero => simp at ho; subst ho; exact ⟨.inr ⟨hd, h0⟩, fun q => (by rw [Nat.add_zero, hf] at q; cases q), fun _ => rfl⟩
  | succ i =>
   have := h2 i o' (by simpa using ho)
   rw [show n + 1 + i = n + (i + 1) by omega] at this
   exact this
def RP (X : Cx) (Q : Exit → Act → World → Prop) (all : List Oper) (Γ : Gam) (H : Hp) (Ts : List Ty) (dn un : Nat → Bool) : Prop :=
 ∀ fuel listed a w, unl listed all.length ≤ fuel → RInv X H Γ all all.length (tyAt Ts) listed a w → (∀ i, i < all.length → dn i = true → listed.getD i false = true) → (∀ i, i < all.length → un i = true → listed.getD i false = false) → wpAny X.P .any all.toArray Q fuel listed a w
def okAll (all : List Oper) : Bool := okEdges all && (List.range all.length).all fun i => (List.range all.length).all fun j => okPair all i j
theorem RP.last {all : List Oper} {Ts : List Ty} {dn un al : Nat → Bool} {Γn Γ' : Gam} (hok : okAll all = true) (hal : ((List.range all.length).all fun i => (dn i || al i) && !un i) = true) (ht : TP X H al all.length Γn 0 Γ all Ts Γ') (hk : JQ X Q .normal Γ' H) : RP X Q all Γ H Ts dn un := by
 simp only [okAll, Bool.and_eq_true] at hok
 have hokP : ∀ i j, i < all.length → j < all.length → okPair all i j = true := fun i j hi hj => K9 (K9 hok.2 hi) hj
 obtain ⟨G, hG0, hGn, _, hG⟩ := ht.seq
 have hGO : GPok all (tyAt Ts) G all.length := fun i hi => by
  rcases (hG i all[i] (List.getElem?_eq_getElem hi)).1 with ⟨d, h1, h2⟩ | ⟨h1, h2⟩
  ·exact .inl ⟨d, by simp [W6, List.getElem?_eq_getElem hi, h1], h2⟩
  ·exact .inr ⟨by simp [W6, List.getElem?_eq_getElem hi, h1], h2⟩
 have fin : ∀ listed a w, RInv X H Γ all all.length (tyAt Ts) listed a w → Region.ready .any all.toArray listed = [] → Q .normal a w := by
  intro listed a w hi hr
  have hall : ∀ i, i < all.length → listed.getD i false = true := fun i hil => by
   cases hb : listed.getD i false with
   | true => rfl
   | false => exact absurd hr (ready_some hok.1 hi.lsize hil hb)
  exact hk a w (hGn ▸ hi.finP hG0 hGO hall)
 intro fuel
 induction fuel with
 | zero =>
  intro listed a w hu hi hd hun'
  have hr : Region.ready .any all.toArray listed = [] := by
   cases hr : Region.ready .any all.toArray listed with
   | nil => rfl
   | cons j l =>
    have hj : j ∈ Region.ready .any all.toArray listed := by rw [hr]; exact .head _
    obtain ⟨hun, o, ho, _⟩ := mem_ready.1 hj
    have hjl : j < all.length := by have := (Array.getElem?_eq_some_iff.1 ho).1; simpa using this
    have hm : j ∈ (List.range all.length).filter fun i => !listed.getD i true := List.mem_filter.2 ⟨List.mem_range.2 hjl, by simp [hun]⟩
    have : 0 < unl listed all.length := List.length_pos_of_mem hm
    omega
  exact ⟨hr, fin listed a w hi hr⟩
 | succ fuel ih =>
  intro listed a w hu hi hd hun'
  refine ⟨fun hr => fin listed a w hi hr, fun i hir => ?_⟩
  obtain ⟨hun, o, ho, hready⟩ := mem_ready.1 hir
  have ho' : all[i]? = some o := by simpa using ho
  have hil : i < all.length := (List.getElem?_eq_some_iff.1 ho').1
  have huni : listed.getD i false = false := by rw [R7 (by rw [hi.lsize]; omega) false true]; exact hun
  have hu' : unl (listed.setIfInBounds i true) all.length ≤ fuel := by
   have := unl_set hil hi.lsize hun
   omega
  have hali : al i = true := by
   have h := K9 hal hil
   simp only [Bool.and_eq_true, Bool.or_eq_true] at h
   rcases h.1 with h | h
   ·rw [hd i hil h] at huni; cases huni
   ·exact h
  have hGi := (hG i o ho').2.1
  rw [Nat.zero_add] at hGi
  obtain ⟨hgn, hop, d, hdd, hdN⟩ := hGi hali
  refine hi.stepP hG0 hGO hokP hil ho' huni hready hdd hdN hgn hop fun a' w' h => ih _ a' w' hu' h (fun j hj q => ?_) (fun j hj q => ?_)
  ·rw [R6 (by rw [hi.lsize]; exact hil)]
   split
   ·rfl
   ·exact hd j hj q
  ·have h := K9 hal hj
   simp only [Bool.and_eq_true, q, Bool.not_true] at h
   cases h.2
def Agree (late : Nat → Bool) : Nat → List Ty → List Ty → Prop
 | _, [], [] => True
 | i, A :: As, B :: Bs => (late i = true ∨ A = B) ∧ Agree late (i + 1) As Bs
 | _, _, _ => False
theorem Agree.spec {late : Nat → Bool} : ∀ {k : Nat} {As Bs : List Ty}, Agree late k As Bs → ∀ i, late (k + i) = false → tyAt As i = tyAt Bs i
 | _, [], [], _, i, _ => rfl
 | _, [], _ :: _, h, _, _ => h.elim
 | _, _ :: _, [], h, _, _ => h.elim
 | k, A :: As, B :: Bs, h, 0, hl => by
  rcases h.1 with q | q
  ·rw [Nat.add_zero] at hl; rw [hl] at q; cases q
  ·exact q
 | k, A :: As, B :: Bs, h, i + 1, hl => by
  have := h.2.spec i (by rw [show k + 1 + i = k + (i + 1) by omega]; exact hl)
  exact this
def okStep (all : List Oper) (C : Nat → Bool) (dn un al : Nat → Bool) : Bool :=
 ((List.range all.length).any C) && ((List.range all.length).all fun i => !C i || un i) &&
 ((List.range all.length).all fun i => !(al i && un i)) &&
 (List.range all.length).all fun i => dn i || al i || C i || (List.range i).any fun j => opAtB all i (backTo · j) && (C j || !(dn j || al j))
def okNext (all : List Oper) (n : Nat) (dn un dn' un' : Nat → Bool) : Bool :=
 ((List.range all.length).all fun i => !un' i || (un i && !Nat.beq i n)) &&
 (List.range all.length).all fun i => !dn' i || Nat.beq i n || dn i || (List.range (n + 1)).any fun j => Nat.blt i j && opAtB all j (backTo · i) && (Nat.beq j n || dn' j)
def putG (d : Option Nat) (T : Ty) (Γ : Gam) : Gam := match d with
 | some d => (d, T) :: Γ
 | none => Γ
def OneStep (X : Cx) (Q : Exit → Act → World → Prop) (all : List Oper) (Γ : Gam) (H : Hp) (Ts : List Ty) (dn un al : Nat → Bool) (Γn : Gam) (n : Nat) : Prop :=
 ∃ (ι : Type) (Hb : ι → Hp) (Tb : ι → List Ty) (dn' un' : Nat → Bool) (os : Oper), all[n]? = some os ∧ os.guard = none ∧ (∀ k, Agree (fun i => Nat.beq i n || !(dn i || al i)) 0 Ts (Tb k)) ∧ okNext all n dn un dn' un' = true ∧
  (∀ Γx, (∀ x U, x ∈ readsOf all os → look Γn x = some U → look Γx x = some U) → J X all.toArray (fun e a w => e = .normal ∧ ∃ k, Sat X (putG os.dst (tyAt (Tb k) n) Γx) (Hb k) a w) [os] Γx H) ∧
  ∀ k, RP X Q all Γ (Hb k) (Tb k) dn' un'
theorem OneStep.mk {ι : Type} {Hb : ι → Hp} {Tb : ι → List Ty} {all : List Oper} {Ts : List Ty} {dn un al : Nat → Bool} {Γn : Gam} {n : Nat} {os : Oper} (dn' un' : Nat → Bool) (hos : all[n]? = some os) (hg : os.guard = none) (hag : ∀ k, Agree (fun i => Nat.beq i n || !(dn i || al i)) 0 Ts (Tb k)) (hnx : okNext all n dn un dn' un' = true)
  (hop : ∀ Γx, (∀ x U, x ∈ readsOf all os → look Γn x = some U → look Γx x = some U) → J X all.toArray (fun e a w => e = .normal ∧ ∃ k, Sat X (putG os.dst (tyAt (Tb k) n) Γx) (Hb k) a w) [os] Γx H) (next : ∀ k, RP X Q all Γ (Hb k) (Tb k) dn' un') : OneStep X Q all Γ H Ts dn un al Γn n :=
 ⟨ι, Hb, Tb, dn', un', os, hos, hg, hag, hnx, hop, next⟩
theorem RP.cands {all : List Oper} {Ts : List Ty} {dn un al : Nat → Bool} {G : Nat → Gam} (C : Nat → Bool) (hok : okAll all = true) (hst : okStep all C dn un al = true) (hG0 : G 0 = Γ) (hGO : GPok all (tyAt Ts) G all.length)
  (hG : ∀ i o, all[i]? = some o → al i = true → o.guard = none ∧ R2 X (G i) H o (tyAt Ts i) ∧ ∃ d, o.dst = some d ∧ d < X.N)
  (hC : ∀ n, n < all.length → C n = true → OneStep X Q all Γ H Ts dn un al (G n) n) : RP X Q all Γ H Ts dn un := by
 simp only [okAll, Bool.and_eq_true] at hok
 have hokP : ∀ i j, i < all.length → j < all.length → okPair all i j = true := fun i j hi hj => K9 (K9 hok.2 hi) hj
 simp only [okStep, Bool.and_eq_true] at hst
 obtain ⟨⟨⟨s1, s2⟩, s3⟩, s4⟩ := hst
 obtain ⟨n0, hn0, hC0⟩ := List.any_eq_true.1 s1
 have hn0 := List.mem_range.1 hn0
 have hCun : ∀ j, j < all.length → C j = true → un j = true := fun j hj q => by
  have h := K9 s2 hj
  rw [q] at h; simpa using h
 intro fuel
 induction fuel with
 | zero =>
  intro listed a w hu hi hd hun
  have hm : n0 ∈ (List.range all.length).filter fun i => !listed.getD i true := List.mem_filter.2 ⟨List.mem_range.2 hn0, by rw [R7 (by rw [hi.lsize]; omega) true false, hun n0 hn0 (hCun n0 hn0 hC0)]; rfl⟩
  have : 0 < unl listed all.length := List.length_pos_of_mem hm
  omega
 | succ fuel ih =>
  intro listed a w hu hi hd hun
  have hCn : ∀ j, C j = true → listed.getD j false = false := fun j q => by
   rcases Nat.lt_or_ge j all.length with h | h
   ·exact hun j h (hCun j h q)
   ·rw [Array.getD_eq_getD_getElem?, Array.getElem?_eq_none (by rw [hi.lsize]; exact h)]; rfl
  refine ⟨fun hr => absurd hr (ready_some hok.1 hi.lsize hn0 (hCn n0 hC0)), fun i hir => ?_⟩
  obtain ⟨hunl, o, ho, hready⟩ := mem_ready.1 hir
  have ho' : all[i]? = some o := by simpa using ho
  have hil : i < all.length := (List.getElem?_eq_some_iff.1 ho').1
  have hls := hi.lsize
  have huni : listed.getD i false = false := by rw [R7 (by rw [hls]; omega) false true]; exact hunl
  have hu' : unl (listed.setIfInBounds i true) all.length ≤ fuel := by
   have := unl_set hil hls hunl
   omega
  have hset : ∀ j, (listed.setIfInBounds i true).getD j false = if i = j then true else listed.getD j false := fun j => by rw [R6 (by rw [hls]; exact hil)]
  -- an operation that hangs on the n-th
  have dep : ∀ j oj, j < all.length → all[j]? = some oj → dn j = false → al j = false → C j = false → ∃ k, k < j ∧ backTo oj k = true ∧ (C k = true ∨ (dn k = false ∧ al k = false)) := fun j oj hj hoj q1 q2 q3 => by
   have h := K9 s4 hj
   simp only [q1, q2, q3, Bool.false_or] at h
   obtain ⟨k, hk, hkk⟩ := List.any_eq_true.1 h
   simp only [Bool.and_eq_true, Bool.or_eq_true, R0, Bool.not_eq_true', Bool.or_eq_false_iff] at hkk
   exact ⟨k, List.mem_range.1 hk, by have := hkk.1; simpa [opAtB, hoj] using this, hkk.2⟩
  have late : ∀ m j, j ≤ m → j < all.length → dn j = false → al j = false → C j = false → listed.getD j false = false := by
   intro m
   induction m with
   | zero =>
    intro j q0 q1 q2 q3 q4
    obtain ⟨k, k1, _⟩ := dep j all[j] q1 (List.getElem?_eq_getElem q1) q2 q3 q4
    omega
   | succ m ihm =>
    intro j q0 q1 q2 q3 q4
    cases hb : listed.getD j false with
    | false => rfl
    | true =>
     obtain ⟨k, k1, k2, k3⟩ := dep j all[j] q1 (List.getElem?_eq_getElem q1) q2 q3 q4
     obtain ⟨e, he, hbd, hon⟩ := W4 k2
     have hc := hi.closed j all[j] (List.getElem?_eq_getElem q1) hb e he hbd
     rw [hon] at hc
     rcases k3 with k3 | k3
     ·rw [hCn k k3] at hc; cases hc
     ·cases e2 : C k with
      | true => rw [hCn k e2] at hc; cases hc
      | false => rw [ihm k (by omega) (by omega) k3.1 k3.2 e2] at hc; cases hc
  cases hin : C i with
  | true =>
   obtain ⟨ι, Hb, Tb, dn', un', os, hos, hg, hag, hnx, hop, next⟩ := hC i hil hin
   simp only [okNext, Bool.and_eq_true] at hnx
   obtain ⟨s5, s6⟩ := hnx
   have hnn := hCn i hin
   rw [hos] at ho'
   have eo := Option.some.inj ho'
   subst eo
   have hsat := hi.known
   have hrd : ∀ x U, x ∈ readsOf all os → look (G i) x = some U → look (Go.Rt.known all all.length (tyAt Ts) listed Γ) x = some U := fun x U hx hU => by
    rcases hGO.look i (by omega) x U hU with ⟨j, hj, hd', rfl⟩ | ⟨hno, hU0⟩
    ·obtain ⟨oj, q1, q2⟩ := Option.bind_eq_some_iff.1 hd'
     obtain ⟨e, he, hb, hon⟩ := W4 ((okPair_read (hokP i j hil (by omega)) hos q1 q2 hx).1 hj)
     exact known_new (by omega) (by rw [← hon]; exact hready e he hb) hd' fun k hkl hkj => okPair_dst (hokP j k (by omega) hkl) (Ne.symm hkj) hd'
    ·rw [hG0] at hU0
     refine known_old hU0 fun j hjl hl hd' => ?_
     rcases Nat.lt_trichotomy j i with q | q | q
     ·exact hno j q hd'
     ·subst q; rw [hnn] at hl; cases hl
     ·obtain ⟨oj, q1, q2⟩ := Option.bind_eq_some_iff.1 hd'
      obtain ⟨e, he, hb, hon⟩ := W4 ((okPair_read (hokP i j hil hjl) hos q1 q2 hx).2 q)
      have := hi.closed j oj q1 hl e he hb
      rw [hon, hnn] at this; cases this
   have hty := hop _ hrd a w hsat
   unfold wpN at hty
   rw [if_pos (V6 hg _)] at hty
   unfold wpOp
   simp only [ho]
   rw [if_pos (V6 hg _)]
   refine .inl (upon_mono1 (fun e a w q => q.1) (fun a' w' q => ?_) _ hty)
   unfold wpN at q
   obtain ⟨_, k, hs'⟩ := q
   have hne : ∀ x, W6 all i ≠ some x → ∀ U, look (Go.Rt.known all all.length (tyAt Ts) listed Γ) x = some U → U.p (a'.tmps.getD x undef) ⟨w', mask X.M0 (Hb k)⟩ := fun x hx U hU => by
    refine hs'.slots x U ?_
    have hdo : W6 all i = os.dst := by simp [W6, hos]
    rw [hdo] at hx
    cases hd' : os.dst with
    | none => exact hU
    | some d =>
     rw [hd'] at hx
     show look ((d, _) :: _) x = some U
     rw [T6]
     have : Nat.beq d x = false := by
      cases hb : Nat.beq d x with
      | false => rfl
      | true => exact absurd (by rw [R0.1 hb]) hx
     rw [this]; exact hU
   have hearly : ∀ j, j < all.length → j ≠ i → listed.getD j false = true → dn j = true ∨ al j = true := fun j hj hji hl => by
    cases h1 : dn j with
    | true => exact .inl rfl
    | false =>
     cases h2 : al j with
     | true => exact .inr rfl
     | false =>
      cases h3 : C j with
      | true => rw [hCn j h3] at hl; cases hl
      | false => rw [late j j (Nat.le_refl _) hj h1 h2 h3] at hl; cases hl
   refine next k _ _ a' w' hu' ⟨hs'.size, hs'.defers, hs'.m0, hs'.below, hs'.hp, by simp [hls], fun j oj hj hl e he hbd => ?_, fun j x hj hl hx => ?_, fun x U hU hno => ?_⟩ (fun j hj q => ?_) (fun j hj q => ?_)
   ·rw [hset] at hl ⊢
    by_cases hij : i = j
    ·subst hij
     rw [hos] at hj; cases hj
     split
     ·rfl
     ·exact hready e he hbd
    ·rw [if_neg hij] at hl
     split
     ·rfl
     ·exact hi.closed j oj hj hl e he hbd
   ·by_cases hji : j = i
    ·subst hji
     have hdo : W6 all j = os.dst := by simp [W6, hos]
     rw [hdo] at hx
     have := hs'.slots x (tyAt (Tb k) j) (by rw [hx]; show look ((x, _) :: _) x = _; rw [T6, Nat.beq_refl]; rfl)
     exact this
    ·rw [hset, if_neg (Ne.symm hji)] at hl
     have hag' := (hag k).spec j (by
      rw [Nat.zero_add]
      have hb : Nat.beq j i = false := by cases hb : Nat.beq j i with
       | false => rfl
       | true => exact absurd (R0.1 hb) hji
      rcases hearly j hj hji hl with h | h <;> simp [hb, h])
     rw [← hag']
     exact hne x (fun e => okPair_dst (hokP j i hj hil) hji hx e) _ (known_new hj hl hx fun m hm hmj => okPair_dst (hokP j m hj hm) (Ne.symm hmj) hx)
   ·refine hne x (fun e => hno i hil (by rw [hset, if_pos rfl]) e) _ (known_old hU fun m hm hl => hno m hm ?_)
    rw [hset]; split
    ·rfl
    ·exact hl
   ·-- what must have run by now
    have key : ∀ m j, i - j ≤ m → j < all.length → dn' j = true → (listed.setIfInBounds i true).getD j false = true := by
     intro m
     induction m with
     | zero =>
      intro j q0 hj q
      have h := K9 s6 hj
      simp only [q, Bool.not_true, Bool.false_or, Bool.or_eq_true, R0] at h
      rw [hset]
      rcases h with (h | h) | h
      ·rw [if_pos h.symm]
      ·split
       ·rfl
       ·exact hd j hj h
      ·obtain ⟨k', hk', hkk⟩ := List.any_eq_true.1 h
       simp only [Bool.and_eq_true, nat_blt] at hkk
       have := List.mem_range.1 hk'; omega
     | succ m ihm =>
      intro j q0 hj q
      have h := K9 s6 hj
      simp only [q, Bool.not_true, Bool.false_or, Bool.or_eq_true, R0] at h
      rw [hset]
      rcases h with (h | h) | h
      ·rw [if_pos h.symm]
      ·split
       ·rfl
       ·exact hd j hj h
      ·obtain ⟨k', hk', hkk⟩ := List.any_eq_true.1 h
       simp only [Bool.and_eq_true, nat_blt, Bool.or_eq_true, R0] at hkk
       have hkl := List.mem_range.1 hk'
       have hkal : k' < all.length := by omega
       obtain ⟨e, he, hbd, hon⟩ := W4 (o := all[k']) (i := j) (by have := hkk.1.2; simpa [opAtB, List.getElem?_eq_getElem hkal] using this)
       split
       ·rfl
       ·rename_i hij
        by_cases e2 : k' = i
        ·subst e2
         have e3 : all[k'] = os := by have := List.getElem?_eq_getElem hkal; rw [hos] at this; exact (Option.some.inj this).symm
         have := hready e (e3 ▸ he) hbd
         rw [hon] at this; exact this
        ·have hl := ihm k' (by omega) hkal (hkk.2.resolve_left e2)
         rw [hset, if_neg (Ne.symm e2)] at hl
         have := hi.closed k' all[k'] (List.getElem?_eq_getElem hkal) hl e he hbd
         rw [hon] at this; exact this
    exact key (i - j) j (Nat.le_refl _) hj q
   ·have h := K9 s5 hj
    simp only [q, Bool.not_true, Bool.false_or, Bool.and_eq_true, Bool.not_eq_true'] at h
    rw [hset, if_neg (fun e => by rw [R0.2 e.symm] at h; cases h.2)]
    exact hun j hj h.1
  | false =>
   have hali : al i = true := by
    cases h1 : al i with
    | true => rfl
    | false =>
     cases h2 : dn i with
     | true => rw [hd i hil h2] at huni; cases huni
     | false =>
      obtain ⟨k, k1, k2, k3⟩ := dep i o hil ho' h2 h1 hin
      obtain ⟨e, he, hbd, hon⟩ := W4 k2
      have hc := hready e he hbd
      rw [hon] at hc
      cases e2 : C k with
      | true => rw [hCn k e2] at hc; cases hc
      | false =>
       have := k3.resolve_left (by rw [e2]; decide)
       rw [late k k (Nat.le_refl _) (by omega) this.1 this.2 e2] at hc; cases hc
   obtain ⟨hgn, hopi, d, hdd, hdN⟩ := hG i o ho' hali
   refine hi.stepP hG0 hGO hokP hil ho' huni hready hdd hdN hgn hopi fun a' w' h => ih _ a' w' hu' h (fun j hj q => ?_) (fun j hj q => ?_)
   ·rw [hset]
    split
    ·rfl
    ·exact hd j hj q
   ·rw [hset, if_neg (fun e => ?_)]
    ·exact hun j hj q
    ·subst e
     have h := K9 s3 hil
     rw [hali, q] at h; cases h
theorem TP.cand {al : Nat → Bool} {n : Nat} {Γn Γ' : Gam} {all : List Oper} {Ts : List Ty} (ht : TP X H al n Γn 0 Γ all Ts Γ') : ∃ G : Nat → Gam, G 0 = Γ ∧ GPok all (tyAt Ts) G all.length ∧ (∀ i o, all[i]? = some o → al i = true → o.guard = none ∧ R2 X (G i) H o (tyAt Ts i) ∧ ∃ d, o.dst = some d ∧ d < X.N) ∧ (n < all.length → G n = Γn) := by
 obtain ⟨G, hG0, hGn, _, hG⟩ := ht.seq
 refine ⟨G, hG0, fun i hi => ?_, fun i o ho ha => ?_, fun hn => (hG n all[n] (List.getElem?_eq_getElem hn)).2.2 (Nat.zero_add n)⟩
 ·rcases (hG i all[i] (List.getElem?_eq_getElem hi)).1 with ⟨d, h1, h2⟩ | ⟨h1, h2⟩
  ·exact .inl ⟨d, by simp [W6, List.getElem?_eq_getElem hi, h1], h2⟩
  ·exact .inr ⟨by simp [W6, List.getElem?_eq_getElem hi, h1], h2⟩
 ·have := (hG i o ho).2.1
  rw [Nat.zero_add] at this
  exact this ha
theorem RP.step {all : List Oper} {Ts : List Ty} {dn un al : Nat → Bool} {Γn Γ' : Gam} (n : Nat) (hok : okAll all = true) (hst : okStep all (Nat.beq · n) dn un al = true) (ht : TP X H al n Γn 0 Γ all Ts Γ') (next : OneStep X Q all Γ H Ts dn un al Γn n) : RP X Q all Γ H Ts dn un := by
 obtain ⟨G, g0, g1, g2, g3⟩ := ht.cand
 refine RP.cands (Nat.beq · n) hok hst g0 g1 g2 fun m hm hb => ?_
 have := R0.1 hb
 subst this
 rw [g3 hm]; exact next
theorem RP.two {all : List Oper} {Ts : List Ty} {dn un al : Nat → Bool} {Γn Γ' : Gam} (n m : Nat) (hok : okAll all = true) (hst : okStep all (fun i => Nat.beq i n || Nat.beq i m) dn un al = true) (ht : TP X H al n Γn 0 Γ all Ts Γ')
  (next : OneStep X Q all Γ H Ts dn un al [] n) (next2 : OneStep X Q all Γ H Ts dn un al [] m) : RP X Q all Γ H Ts dn un := by
 obtain ⟨G, g0, g1, g2, g3⟩ := ht.cand
 have weak : ∀ {k : Nat} {Γn : Gam}, OneStep X Q all Γ H Ts dn un al [] k → OneStep X Q all Γ H Ts dn un al Γn k := fun ⟨ι, Hb, Tb, dn', un', os, h1, h2, h3, h4, h5, h6⟩ => ⟨ι, Hb, Tb, dn', un', os, h1, h2, h3, h4, fun Γx _ => h5 Γx (fun x U _ hU => (by cases hU)), h6⟩
 refine RP.cands _ hok hst g0 g1 g2 fun k hk hb => ?_
 simp only [Bool.or_eq_true] at hb
 rcases hb with hb | hb
 ·have := R0.1 hb
  subst this; exact weak next
 ·have := R0.1 hb
  subst this; exact weak next2
theorem mem_swap {e e1 e2 : HEnt} (h : e ∈ e1 :: e2 :: H) : e ∈ e2 :: e1 :: H := by
 simp only [List.mem_cons] at h ⊢
 rcases h with h | h | h
 ·exact .inr (.inl h)
 ·exact .inl h
 ·exact .inr (.inr h)
theorem Sat.swap {e1 e2 : HEnt} {a : Act} {w : World} (h : Sat X Γ (e1 :: e2 :: H) a w) : Sat X Γ (e2 :: e1 :: H) a w := by
 have hm : mask X.M0 (e1 :: e2 :: H) = mask X.M0 (e2 :: e1 :: H) := by
  funext k
  refine propext ⟨fun h => ?_, fun h => ?_⟩
  ·rcases h with h | ⟨e, he, h⟩
   ·exact .inl h
   ·exact .inr ⟨e, mem_swap he, h⟩
  ·rcases h with h | ⟨e, he, h⟩
   ·exact .inl h
   ·exact .inr ⟨e, mem_swap he, h⟩
 refine ⟨h.size, h.defers, h.m0, h.below, fun i T hi => hm ▸ h.slots i T hi, fun e he => ?_, ?_⟩
 ·obtain ⟨q1, cs, q2, q3⟩ := h.hp.1 e (mem_swap he)
  exact ⟨q1, cs, q2, hm ▸ q3⟩
 ·have := h.hp.2
  simp only [List.map_cons, List.pairwise_cons, List.mem_cons, forall_eq_or_imp] at this ⊢
  exact ⟨⟨fun e => this.1.1 e.symm, this.2.1⟩, this.1.2, this.2.2⟩
theorem JC.drawP {id : Nat} {l : List Oper} {Ts : List Ty} {un : Nat → Bool} (hm : X.P.follows .mixedOrders = true) (hns : Region.noSelect l.toArray = true) (h : RP X Q l Γ H Ts (fun _ => false) un) : JC X (.region id l.toArray true) Q Γ H := by
 intro a w hs
 refine wp_region_any hm ?_
 have hb : Below w.heap.size w { w with drawn := w.drawn + 1 } := (Below.refl _ w).drew
 have hl0 : ∀ i, (Array.replicate l.length false).getD i false = false := fun i => by simp only [Array.getD_eq_getD_getElem?, Array.getElem?_replicate]; split <;> rfl
 have := h l.length (Array.replicate l.length false) a { w with drawn := w.drawn + 1 }
  (by have := List.length_filter_le (fun i => !(Array.replicate l.length false).getD i true) (List.range l.length); simpa [unl] using this)
  (RInv.start (hs.ext hb)) (fun i _ q => by cases q) (fun i _ _ => hl0 i)
 simpa using this
theorem J.midP {ι : Type} {Hb : ι → Hp} {Tb : ι → List Ty} {d : Option Nat} {n : Nat} {l : List Oper} {Γ' : Gam} (k : ι) (hΓ : Γ' = putG d (tyAt (Tb k) n) Γ) : J X l.toArray (fun e a w => e = .normal ∧ ∃ k, Sat X (putG d (tyAt (Tb k) n) Γ) (Hb k) a w) [] Γ' (Hb k) := fun a w hs => by
 subst hΓ; unfold wpN; exact ⟨rfl, k, hs⟩
theorem tm_at {t : Tm} {i : Nat} {n : Int} (h : n.toNat = i) (hi : i < 4) : ∀ cs s, (cDrop (cEnc X5 t) 2).p cs s → ∃ v, cs[n.toNat]? = some v ∧ (tIs (.int .i64 (t.exp.at i))).p v s := by
 subst h
 rintro cs s ⟨ds, ⟨_, hc⟩, rfl⟩
 have h2 : (tmT t)[2 + n.toNat]? = some (tIs (.int .i64 (t.exp.at n.toNat))) := by
  generalize n.toNat = i at hi
  match i, hi with
  | 0, _ => rfl
  | 1, _ => rfl
  | 2, _ => rfl
  | 3, _ => rfl
 obtain ⟨v, h3, h4⟩ := Z8 h2 ds s hc
 exact ⟨v, by rw [List.getElem?_drop]; exact h3, h4⟩
end Go.Rt
namespace Go.Rt
open Go Go.RowKit Go.ChangeShapes Go.WideShapes
structure TermTy (P : Program) (tS tT tM tZ : TypeId) (tI : TypeId) : Prop where
 s : P.underlying tS = some (.slice tT)
 t : ∃ g0 g1 : Field, P.underlying tT = some (.struct #[g0, g1]) ∧ g0.type = tI ∧ g0.offset = 0 ∧ g1.type = tM ∧ g1.offset = 2
 m : P.underlying tM = some (.array 4 tZ)
 cS : P.cellsOf tS = 1
 cT : P.cellsOf tT = 6
 cM : P.cellsOf tM = 4
section bring
variable {H : Type} {enc : TypeId × Value → H} {P : Program} {w : World} {sp : Nat → Bool} {held : Bool} {fuel : Nat} {cs : List Value} {x : DataW H × List MemPlace}
variable {tP tI tL tN tZ tB tU tS tT tM : TypeId}
theorem bringM (T : PolTy P tP tI tL tN tZ tB tU) (S : TermTy P tS tT tM tZ tI) (h : DataW.trod enc P w 0 sp held fuel tM cs = some x) : ∃ m : Mo, cellsP (moT m) cs (stW w) := by
 obtain ⟨xs, m, _, _, hl, hlen, hx⟩ := DataW.trod_array S.m h
 rw [S.cM] at hl
 match cs, hl with
 | [a, b, c, d], _ =>
  have g : ∀ i, i < 4 → ∃ n, [[a], [b], [c], [d]][i]? = some [.int .i64 n] := fun i hi => by
   have h1 := hx i hi
   rw [T.cZ, List.getElem?_eq_getElem (by omega), Nat.mul_one] at h1
   obtain ⟨n, h2, _, h3⟩ := DataW.trod_int T.z h1
   refine ⟨n, ?_⟩
   match i, hi with
   | 0, _ => simpa using h2
   | 1, _ => simpa using h2
   | 2, _ => simpa using h2
   | 3, _ => simpa using h2
  obtain ⟨n0, e0⟩ := g 0 (by decide)
  obtain ⟨n1, e1⟩ := g 1 (by decide)
  obtain ⟨n2, e2⟩ := g 2 (by decide)
  obtain ⟨n3, e3⟩ := g 3 (by decide)
  simp at e0 e1 e2 e3
  subst e0; subst e1; subst e2; subst e3
  exact ⟨⟨n0, n1, n2, n3⟩, rfl, rfl, rfl, rfl, rfl, rfl, rfl, rfl, trivial⟩
theorem bringT (T : PolTy P tP tI tL tN tZ tB tU) (S : TermTy P tS tT tM tZ tI) (h : DataW.trod enc P w 0 sp held fuel tT cs = some x) : ∃ t : Tm, X5.C t cs (stW w) ∧ U7 t.coef.abs := by
 obtain ⟨g0, g1, hu, e0, o0, e1, o1⟩ := S.t
 obtain ⟨xs, n, rfl, rfl, hl, hlen, hf⟩ := DataW.trod_struct hu h
 rw [S.cT] at hl
 match cs, hl with
 | [a, b, c, d, e, f], _ =>
  have h0 := hf 0 g0 rfl
  have h1 := hf 1 g1 rfl
  rw [e0, o0, T.cI] at h0
  rw [e1, o1, S.cM] at h1
  have hs : xs.length = 2 := hlen
  rw [List.getElem?_eq_getElem (by omega)] at h0 h1
  obtain ⟨z, hz, hd⟩ := bringI T h0
  obtain ⟨m, hm⟩ := bringM T S h1
  have hz' : cellsP (zT z) [a, b] (stW w) := hz
  have hm' : cellsP (moT m) [c, d, e, f] (stW w) := hm
  exact ⟨⟨z, m⟩, ⟨rfl, hz'.1, hz'.2.1, hz'.2.2.1, hz'.2.2.2.1, hm'⟩, hd⟩
theorem bring_terms (T : PolTy P tP tI tL tN tZ tB tU) (S : TermTy P tS tT tM tZ tI) {r : Reach} {b0 : Nat} {v : Value} {d : DataW H} {ps : List MemPlace} (hval : Value.okWide P w r b0 tS v) (h : DataW.Trod enc P w 0 sp held tS v d ps) :
  ∃ ts : List Tm, (tSl X5 ts).p v (stW w) ∧ ∀ t ∈ ts, U7 t.coef.abs := by
 obtain ⟨fuel, hf⟩ := h
 rcases DataW.trod_slice S.s hf with ⟨hd, _⟩ | ⟨ad, len, cap, elems, rest, n', rfl, hd, _, _, hlc, _, hel, hx, _, _⟩
 ·have hv : v = .slice none 0 0 := by
   obtain ⟨a, n, c, rfl⟩ := okWide_slice S.s hval
   simpa [Value.cells] using hd
  subst hv
  exact ⟨[], Q9 _ _, fun t ht => by cases ht⟩
 ·have hv : v = .slice (some ad) len cap := by
   obtain ⟨a, n, c, rfl⟩ := okWide_slice S.s hval
   simpa [Value.cells] using hd
  subst hv
  have hx' : ∀ i, i < len → ∃ q : Tm, (∃ cs', w.cells? 0 (ad.add (i * 6)) 6 = some cs' ∧ X5.C q cs' (stW w)) ∧ U7 q.coef.abs := fun i hi => by
   have h3 := hx i hi
   rw [S.cT, List.getElem?_eq_getElem (by omega)] at h3
   obtain ⟨cs', h4, h5⟩ := Option.bind_eq_some_iff.1 h3
   obtain ⟨q, hq1, hq2⟩ := bringT T S h5
   exact ⟨q, ⟨cs', h4, hq1⟩, hq2⟩
  haveI : Inhabited Tm := ⟨t0⟩
  obtain ⟨F, hF⟩ := Deep.choose_lt (α := Tm) hx'
  refine ⟨(List.range len).map F, ⟨some ad, len, cap, rfl, by simp, hlc, fun hne => ?_⟩, fun p hp => ?_⟩
  ·have hl0 : 0 < len := by
    rcases Nat.eq_zero_or_pos len with q | q
    ·subst q; exact absurd rfl hne
    ·exact q
   obtain ⟨⟨cs0, hc0, _⟩, _⟩ := hF 0 hl0
   obtain ⟨_, hl4, hcell⟩ := World.cells?_some hc0
   have h00 := hcell 0 (by decide)
   rw [List.getElem?_eq_getElem (by omega)] at h00
   have ha : ad = ⟨ad.block, ad.off, none⟩ := spot_none (a := ad) (by simpa [Addr.add] using h00)
   refine ⟨ad.block, ad.off, by rw [← ha], fun i p hp => ?_⟩
   have hi : i < len := by
    have := (List.getElem?_eq_some_iff.1 hp).1
    simpa using this
   have hpF : p = F i := by
    rw [List.getElem?_map, List.getElem?_range hi] at hp
    simp only [Option.map_some, Option.some.injEq] at hp
    exact hp.symm
   subst hpF
   obtain ⟨⟨cs', hc', hC⟩, _⟩ := hF i hi
   obtain ⟨_, hl', hcell'⟩ := World.cells?_some hc'
   refine ⟨cs', hC, fun j u hu => ⟨?_, fun h => h⟩⟩
   have hj := (List.getElem?_eq_some_iff.1 hu).1
   have h6 := hcell' j (by omega)
   rw [ha, add_plain, add_plain, hu] at h6
   exact h6
  ·obtain ⟨i, hi, rfl⟩ := List.mem_map.1 hp
   exact (hF i (List.mem_range.1 hi)).2
end bring
section z2
variable {X : Cx} {Γ : Gam} {H : Hp}
variable {dst : Option Tmp} {ty : TypeId} {pos : String} {af : Array Edge} {gd : Option (Nat × Bool)}
end z2
section bring2
variable {H : Type} {enc : TypeId × Value → H} {P : Program} {w : World} {sp : Nat → Bool} {held : Bool}
variable {tP tI tL tN tZ tB tU : TypeId}
end bring2
section fieldV
variable {X : Cx} {Γ : Gam} {H : Hp}
variable {dst : Option Tmp} {ty : TypeId} {pos : String} {af : Array Edge} {gd : Option (Nat × Bool)}
theorem ot_fieldV {α : Type} {n : Nat} {F : α → List Ty} {z : α} {t f off ft : Nat} {x : Operand} {T : Ty} (hx : OpT Γ x (tV (encF n F) z)) (hf : fdB X.P t f = some (off, ft)) (hsc : scalB X.P ft = true) (hT : (F z)[off]? = some T) :
  R2 X Γ H ⟨dst, .field t x f, ty, pos, af, gd⟩ T :=
 ot_field_scal (R := cEnc (encF n F) z) (.sub hx fun v s h => by
  obtain ⟨h1, h2⟩ := h
  cases v with
  | agg a => exact ⟨a.toList, by simp, h2⟩
  | _ => exact absurd h1 (by simp [Value.isAgg, encF])) hf hsc fun cs s h => Z8 hT cs s h.2
end fieldV
end Go.Rt
namespace Go.Rt
open Go Go.RowKit
variable {X : Cx} {ops : Array Oper} {Q : Exit → Act → World → Prop} {rest all : List Oper} {Γ Γ' : Gam} {H : Hp} {u : Oper} {T : Ty} {d n : Nat}
variable {dst : Option Tmp} {ty : TypeId} {pos : String} {af : Array Edge} {gd : Option (Nat × Bool)}
theorem OpT.t (h : look Γ n = some T) : OpT Γ (.tmp n) T := .tmp h
theorem J.M (h : look Γ n = some T) (hc : opOk X.N ⟨dst, .move (.tmp n), ty, pos, af, gd⟩ = some d) (next : J X ops Q rest ((d, T) :: Γ) H) : J X ops Q (⟨dst, .move (.tmp n), ty, pos, af, gd⟩ :: rest) Γ H := J.m (.tmp h) hc next
theorem J.A (h : look Γ n = some T) (hc : opOk X.N ⟨dst, .assign (.tmp n), ty, pos, af, gd⟩ = some d) (next : J X ops Q rest ((d, T) :: Γ) H) : J X ops Q (⟨dst, .assign (.tmp n), ty, pos, af, gd⟩ :: rest) Γ H := J.a (.tmp h) hc next
theorem TW.M (h : look Γ n = some T) (hc : opOk X.N ⟨dst, .move (.tmp n), ty, pos, af, gd⟩ = some d) (next : TW X H all ((d, T) :: Γ) rest Γ') : TW X H all Γ (⟨dst, .move (.tmp n), ty, pos, af, gd⟩ :: rest) Γ' := TW.m (.tmp h) hc next
theorem J.e {c : Code} {Q' : Exit → Act → World → Prop} (h : JC X c Q Γ H) : J X ops (Exit.then (c.wp X.P Q) Q') [] Γ H := J.nil (JQ.then_normal h)
theorem JC.g {id : Nat} {l : List Oper} {y : Code} (h : J X l.toArray (Exit.then (y.wp X.P Q) Q) l Γ H) : JC X (.seq (.region id l.toArray false) y) Q Γ H := JC.seq (JC.region h)
abbrev zP : List Ty := [tIs (.int .i64 (0)), tIs (.bool (false)), tSl X8 ([]), tSl Q5 ([])]
def AllS (Γ : Gam) : Gam → Prop
 | [] => True
 | (i, T) :: r => OpT Γ (.tmp i) T ∧ AllS Γ r
theorem Z3 : ∀ {Γ' : Gam}, AllS Γ Γ' → ∀ a w, Sat X Γ H a w → Sat X Γ' H a w
 | [], _ => sub_nil
 | (i, T) :: r, h => sub_cons h.1 (Z3 h.2)
theorem HSub.k {e : HEnt} {H H' : Hp} (h : HSub H H') : HSub (e :: H) (e :: H') := .keep (fun _ _ h => h) h
abbrev pT (p : Pol) : List Ty := [tIs (.int .i64 p.lv), tIs (.bool p.c.neg), tSl X8 p.c.abs, tSl Q5 p.cs]
abbrev iT (z : Z) : List Ty := [tIs (.bool z.neg), tSl X8 z.abs]
end Go.Rt
