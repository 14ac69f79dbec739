/- The logic of the walks, part O: functions that hand back a slice that is the caller's own. Conditions: none; nothing of a program stands here. -/
import Derived.Test.YtkpmcldbcljkfaaRtM
set_option linter.unusedVariables false
set_option linter.unusedSimpArgs false
namespace Go.Rt
open Go Go.RowKit

variable {X : Cx} {ops : Array Oper} {Q : Exit → Act → World → Prop} {rest : List Oper} {Γ : Gam} {H : Hp}
variable {dst : Option Tmp} {ty : TypeId} {pos : String} {af : Array Edge} {gd : Option (Nat × Bool)} {o : Oper}

/-- The contract of a function that hands back a new row, of n elements and the capacity c. -/
def CtrO (P : Program) (f : FuncId) (Ts : List Ty) (bt : TypeId) (n c : Nat) (R : Nat → CTy) : Prop :=
  ∀ (w0 : World) (M0 : Nat → Prop), (∀ k, M0 k → k < w0.heap.size) → ∀ vs, vsP Ts vs ⟨w0, M0⟩ →
    Calls P f vs.toArray w0 fun e w' => ∃ b cap cs, e = .returned (.slice (some ⟨b, 0, none⟩) n c) ∧ Below w0.heap.size w0 w' ∧ w0.heap.size ≤ b ∧ w'.heap[b]? = some (.cells cs bt (0, 0)) ∧ (R cap).p cs.toList ⟨w', fun k => M0 k ∨ k = b⟩

def PostO (X : Cx) (bt : TypeId) (n c : Nat) (R : Nat → CTy) : Ending → World → Prop := fun e w' =>
  ∃ b cap cs, e = .returned (.slice (some ⟨b, 0, none⟩) n c) ∧ Kept X.L X.w0 w' ∧ (X.w0.heap.size ≤ b ∨ b ∈ X.L) ∧ w'.heap[b]? = some (.cells cs bt (0, 0)) ∧ (R cap).p cs.toList ⟨w', fun k => X.M0 k ∨ k = b⟩

theorem CtrO.of {P : Program} {f N : Nat} {fn : Func} {c : Code} {Ts : List Ty} {bt : TypeId} {n cp : Nat} {R : Nat → CTy} (hf : P.funcs[f]? = some fn) (hb : fn.body = some c) (hN : fn.ntmps = N) (hl : Ts.length ≤ N)
    (h : ∀ w0 M0, JC ⟨P, w0, M0, [], N, []⟩ c (bodyPost P fn (PostO ⟨P, w0, M0, [], N, []⟩ bt n cp R)) (gam0 0 Ts) []) : CtrO P f Ts bt n cp R := by
  intro w0 M0 hM vs hvs
  refine Calls.mono (calls_of_wp (R := PostO ⟨P, w0, M0, [], N, []⟩ bt n cp R) hf hb ?_) fun e w' ⟨b, cap, cs, h1, h2, h3, h4, h5⟩ => ⟨b, cap, cs, h1, h2.below, h3.elim id (fun h => by cases h), h4, h5⟩
  subst hN
  refine h w0 M0 _ _ ⟨?_, rfl, fun k hk => ⟨hM k hk, by simp⟩, Kept.refl _ _, fun i T hi => ?_, ⟨fun e he => by (cases he), List.Pairwise.nil⟩⟩
  · have := hvs.length
    simp; omega
  · obtain ⟨_, v, hv, hT⟩ := slots0 0 hvs i T hi
    have hM' : mask M0 [] = M0 := by funext k; simp [mask]
    show T.p _ ⟨w0, mask M0 []⟩
    rw [hM']
    have hlt : i < vs.length := (List.getElem?_eq_some_iff.1 hv).1
    have : (vs.toArray ++ Array.replicate (fn.ntmps - vs.toArray.size) undef).getD i undef = v := by
      rw [Array.getD_eq_getD_getElem?, Array.getElem?_append_left (by simpa using hlt)]
      simp at hv
      simp [hv]
    rw [this]; exact hT

theorem JQ.retO {fn : Func} {b t cap n cp : Nat} {bt : TypeId} {R : Nat → CTy} (hf : fn.results = #[.tmp t]) (hb : (⟨b, bt, R cap⟩ : HEnt) ∈ H) (hT : OpT Γ (.tmp t) (sIs b 0 n cp)) (hD : X.Df = [] := by rfl) : JQ X (bodyPost X.P fn (PostO X bt n cp R)) .ret Γ H := fun a w hs => by
  obtain ⟨hb0, cs, hc, hr⟩ := hs.hp.1 _ hb
  have hl : Le ⟨w, mask X.M0 H⟩ ⟨w, fun k => X.M0 k ∨ k = b⟩ := ⟨Nat.le_refl _, fun _ _ _ => rfl, fun k _ hk => by
    rcases hk with hk | rfl
    · exact .inl hk
    · exact .inr ⟨_, hb, rfl⟩⟩
  have hv : a.eval (.tmp t) = .slice (some ⟨b, 0, none⟩) n cp := hT.ev (hs.on (slotOf (.tmp t))) (fun _ h => h)
  refine ⟨hs.defers.trans hD, .slice (some ⟨b, 0, none⟩) n cp, ?_, b, cap, cs, rfl, hs.below, hb0, hc, (R cap).up hl hr⟩
  rw [results_eq, hf]
  have hv' : a.tmps.getD t undef = .slice (some ⟨b, 0, none⟩) n cp := hv
  simp [resOne, hv']

theorem J.callO {d f bt n cp : Nat} {R : Nat → CTy} {xs : List Operand} {Ts : List Ty} {ats : Array TypeId} (hf : fnB X.P f = true) (hc : CtrO X.P f Ts bt n cp R) (hx : OpTs Γ xs Ts) (hN : d < X.N)
    (next : ∀ b cap, J X ops Q rest ((d, sIs b 0 n cp) :: Γ) (⟨b, bt, R cap⟩ :: H)) :
    J X ops Q (⟨some d, .call { callee := .value (.func f), args := xs.toArray, argTypes := ats }, ty, pos, af, none⟩ :: rest) Γ H := by
  intro a w hs
  unfold wpN
  rw [if_pos (wanted_none rfl _)]
  have hv := hx.ev (X := X) (hs.on (xs.flatMap slotOf)) (fun x hx i hi => List.mem_flatMap.2 ⟨x, hx, hi⟩)
  have h := hc w _ (mask_lt (hs.on [])) _ hv
  unfold Oper.wp
  have hr : (execOp a.eval ⟨some d, .call { callee := .value (.func f), args := xs.toArray, argTypes := ats }, ty, pos, af, none⟩).run X.P w = .ok (.enter f (xs.map a.eval).toArray) w := by
    rw [execOp_call_go]
    have := run_callFunc hf (xs.map a.eval).toArray w
    simpa using this
  rw [hr]
  refine Calls.mono h ?_
  rintro e w' ⟨b, cap, cs, rfl, hb, hbs, hcs, hR⟩
  have hm : (fun k => mask X.M0 H k ∨ k = b) = mask X.M0 (⟨b, bt, R cap⟩ :: H) := by
    funext k
    refine propext ⟨fun h => ?_, fun h => ?_⟩
    · rcases h with (h | ⟨e, he, h⟩) | h
      · exact .inl h
      · exact .inr ⟨e, .tail _ he, h⟩
      · exact .inr ⟨_, .head _, h.symm⟩
    · rcases h with h | ⟨e, he, h⟩
      · exact .inl (.inl h)
      · cases he with
        | head => exact .inr h.symm
        | tail _ he => exact .inl (.inr ⟨e, he, h⟩)
  rw [hm] at hR
  have hl : Le ⟨w, mask X.M0 H⟩ ⟨w', mask X.M0 (⟨b, bt, R cap⟩ :: H)⟩ := ⟨hb.size, fun k hk _ => hb.block k hk, fun k hk h => by
    rcases h with h | ⟨e, he, rfl⟩
    · exact .inl h
    · cases he with
      | head => exact absurd hk (Nat.not_lt.2 hbs)
      | tail _ he => exact .inr ⟨e, he, rfl⟩⟩
  have hs2 : Sat X Γ (⟨b, bt, R cap⟩ :: H) a w' := by
    refine ⟨hs.size, hs.defers, hs.m0, hs.below.ext hb, fun i T hi => T.up hl (hs.slots i T hi), fun e he => ?_, ?_⟩
    · cases he with
      | head => exact ⟨.inl (Nat.le_trans hs.below.size hbs), cs, hcs, hR⟩
      | tail _ he =>
        obtain ⟨h1, cs', hc', hr'⟩ := hs.hp.1 e he
        exact ⟨h1, cs', (hb.block _ (hs.hp.lt he)).trans hc', e.R.up hl hr'⟩
    · refine List.Pairwise.cons (fun b' hb' => ?_) hs.hp.2
      obtain ⟨e, he, rfl⟩ := List.mem_map.1 hb'
      have := hs.hp.lt he
      show b ≠ e.b
      omega
  exact next b cap _ _ (hs2.put hN rfl)

/-! ### A part of an element of an own row -/
theorem splice {α : Type} {cs v : List α} {a n off m : Nat} (h : a + n ≤ cs.length) (ho : off + m ≤ n) :
    cs.take a ++ (((cs.drop a).take n).take off ++ v ++ ((cs.drop a).take n).drop (off + m)) ++ cs.drop (a + n) = cs.take (a + off) ++ v ++ cs.drop (a + off + m) := by
  have e1 : ((cs.drop a).take n).take off = (cs.drop a).take off := by rw [List.take_take, Nat.min_eq_left (by omega)]
  have e2 : cs.take a ++ (cs.drop a).take off = cs.take (a + off) := List.take_add.symm
  have e3 : ((cs.drop a).take n).drop (off + m) ++ cs.drop (a + n) = cs.drop (a + off + m) := by
    have : cs.drop (a + n) = (cs.drop a).drop n := by rw [List.drop_drop]
    have e4 : cs.drop (a + off + m) = (cs.drop a).drop (off + m) := by rw [List.drop_drop, Nat.add_assoc]
    rw [this, e4]
    conv => rhs; rw [← List.take_append_drop n (cs.drop a)]
    rw [List.drop_append_of_le_length (by simp; omega)]
  rw [e1, ← e2, ← e3]
  simp [List.append_assoc]

theorem row_aggF {α β : Type} {n m off i cap : Nat} {f : α → List Ty} {g : β → List Ty} {xs : List α} {x : α} {y : β} (hx : xs[i]? = some x) (hg : ((f x).drop off).take m = g y) (hm : Nat.ble (off + m) n = true) :
    ∀ cs s, (cRow (encF n f) xs cap).p cs s → 0 + i * n + off + m ≤ cs.length ∧ (tV (encF m g) y).p (.agg ((cs.drop (0 + i * n + off)).take m).toArray) s := by
  rintro cs s ⟨h1, h2, h3⟩
  have hlt := (List.getElem?_eq_some_iff.1 hx).1
  have hle := Nat.le_of_ble_eq_true hm
  have h2' : cs.length = cap * n := h2
  have hroom := row_room (show i < cap by omega) h2'
  have hc : cellsP (f x) ((cs.drop (i * n)).take n) s := (h3 i x hx).2
  have hl := cellsP.length hc
  have hn : (f x).length = n := (h3 i x hx).1
  have hc2 := cellsP.take m (cellsP.drop off hc)
  have e : ((((cs.drop (i * n)).take n).drop off).take m) = (cs.drop (0 + i * n + off)).take m := by
    rw [List.drop_take, List.take_take, Nat.min_eq_left (by omega), List.drop_drop, Nat.zero_add]
  rw [hg, e] at hc2
  refine ⟨by omega, cells_agg hc2 ?_⟩
  rw [← hg]; simp; omega
theorem row_setF {α β : Type} {n m off i cap : Nat} {f : α → List Ty} {g : β → List Ty} {xs : List α} {x x' : α} {y : β} (hx : xs[i]? = some x) (hg : f x' = (f x).take off ++ g y ++ (f x).drop (off + m)) (hm : Nat.ble (off + m) n = true) :
    ∀ cs v s, (cRow (encF n f) xs cap).p cs s → (tV (encF m g) y).p v s →
      v.cells.size = m ∧ 0 + i * n + off + m ≤ cs.length ∧ (∀ u ∈ v.cells.toList, u.oneCell' = true) ∧ (cRow (encF n f) (xs.set i x') cap).p (cs.take (0 + i * n + off) ++ v.cells.toList ++ cs.drop (0 + i * n + off + m)) s := by
  intro cs v s hc hv
  have hlt := (List.getElem?_eq_some_iff.1 hx).1
  have hle := Nat.le_of_ble_eq_true hm
  have h2' : cs.length = cap * n := hc.2.1
  have hcap := hc.1
  have hroom := row_room (show i < cap by omega) h2'
  have hcx : cellsP (f x) ((cs.drop (i * n)).take n) s := (hc.2.2 i x hx).2
  have hn : (f x).length = n := (hc.2.2 i x hx).1
  obtain ⟨hv1, hv2, hv3⟩ := hv
  have hvl := cellsP.length hv3
  have hgy : (g y).length = m := hv2
  have hnew : cellsP (f x') (((cs.drop (i * n)).take n).take off ++ v.cells.toList ++ ((cs.drop (i * n)).take n).drop (off + m)) s := by
    rw [hg]; exact cellsP.append (cellsP.append (cellsP.take off hcx) hv3) (cellsP.drop (off + m) hcx)
  have hw := row_set (E := encF n f) (i := i) (x := x') hlt cs (.agg (((cs.drop (i * n)).take n).take off ++ v.cells.toList ++ ((cs.drop (i * n)).take n).drop (off + m)).toArray) s hc
    ⟨rfl, by rw [hg]; simp; omega, by simpa [Value.cells] using hnew⟩
  have h4 := hw.2.2.2
  have hs := splice (v := v.cells.toList) hroom hle
  simp only [Value.cells, Nat.zero_add] at h4
  refine ⟨by rw [← Array.length_toList]; omega, by omega, cellsP.one hv3, ?_⟩
  rw [Nat.zero_add, ← hs]
  exact h4

/-- A row has room for its elements. -/
theorem JC.rowcap {α : Type} {E : Enc α} {xs : List α} {b bt cap : Nat} {c : Code} (hb : (⟨b, bt, cRow E xs cap⟩ : HEnt) ∈ H) (h : xs.length ≤ cap → JC X c Q Γ H) : JC X c Q Γ H := fun a w hs => by
  obtain ⟨_, cs, _, hr⟩ := hs.hp.1 _ hb
  exact h hr.1 a w hs
theorem ot_slice3_own {b o n c t e sz by_ h m : Nat} {x y z : Operand} {kh km : IntKind} (hx : OpT Γ x (sIs b o n c)) (ht : slB X.P t = some (e, sz, by_))
    (hh : OpT Γ y (tIs (.int kh h))) (hm : OpT Γ z (tIs (.int km m))) (h1 : h ≤ m) (h2 : m ≤ c) :
    OpTy X Γ H ⟨dst, .slice t x none (some y) (some z), ty, pos, af, gd⟩ (sIs b o h m) :=
  opTy_run fun a w hs => by
    have he : a.eval x = .slice (some ⟨b, o, none⟩) n c := hx.ev hs (mem_slots (by simp [Op.operands]))
    have e1 : a.eval y = .int kh h := hh.ev hs (mem_slots (by simp [Op.operands]))
    have e2 : a.eval z = .int km m := hm.ev hs (mem_slots (by simp [Op.operands]))
    obtain ⟨hu, i, hi', hsz, _⟩ := slB_spec ht
    refine ⟨.slice (some ⟨b, o, none⟩) h m, w, ?_, Below.refl _ _, rfl⟩
    simp [execOp, Instr.sliceAt, run_underlying hu, Instr.slice, he, e1, e2, Instr.sliceBounds, Instr.sliceBound, asIntOf, h1, h2, sizeOf, typeInfo, hi', hsz, add_at]
end Go.Rt
