/- The logic of the walks, part F: small laws that the walks name, and the encodings of digits. Conditions: none; nothing of a program stands here. -/
import Derived.Test.YtkpmcldbcljkfaaRtE
set_option linter.unusedVariables false
set_option linter.unusedSimpArgs false
namespace Go.Rt
open Go Go.RowKit

variable {X : Cx} {ops : Array Oper} {Q : Exit → Act → World → Prop} {rest : List Oper} {Γ : Gam} {H : Hp}
variable {dst : Option Tmp} {ty : TypeId} {pos : String} {af : Array Edge} {gd : Option (Nat × Bool)} {o : Oper} {T T' : Ty}

theorem ot_eqt (h : OpTy X Γ H o T) (e : T = T') : OpTy X Γ H o T' := e ▸ h
theorem ot_weak (h : OpTy X Γ H o T) (e : ∀ v s, T.p v s → T'.p v s) : OpTy X Γ H o T' := fun a w hs => by
  refine wp_mono_false (Q := fun _ _ _ => False) ?_ (h a w hs)
  rintro a' w' ⟨v, h1, h2, h3⟩
  exact ⟨v, h1, h2, e _ _ h3⟩
theorem own_off2 {b o o' : Nat} (h : o = o') : pOwn b o = pOwn b o' := by rw [h]
theorem own_off {b i sz : Nat} {n : Int} (h : n.toNat = i) : pOwn b (0 + n.toNat * sz) = pOwn b (0 + i * sz) := by rw [h]

theorem ot_max {x y : Operand} {k : IntKind} {a b : Int} {ats : Array TypeId} (hx : OpT Γ x (tIs (.int k a))) (hy : OpT Γ y (tIs (.int k b))) : OpTy X Γ H ⟨dst, .call { callee := .builtin .max, args := #[x, y], argTypes := ats }, ty, pos, af, gd⟩ (tIs (.int k (max a b))) :=
  opTy_run fun s w hs => by
    have h1 : s.eval x = .int k a := hx.ev hs (mem_slots (by simp [Op.operands, Call.operands]))
    have h2 : s.eval y = .int k b := hy.ev hs (mem_slots (by simp [Op.operands, Call.operands]))
    refine ⟨.int k (max a b), w, ?_, Below.refl _ _, rfl⟩
    have e : (if b > a then b else a) = max a b := by rw [Int.max_def]; split <;> split <;> omega
    simp [execOp, resolve, invoke, builtin, Builtin.max_, Builtin.max2, h1, h2]
    exact e
theorem ot_min {x y : Operand} {k : IntKind} {a b : Int} {ats : Array TypeId} (hx : OpT Γ x (tIs (.int k a))) (hy : OpT Γ y (tIs (.int k b))) : OpTy X Γ H ⟨dst, .call { callee := .builtin .min, args := #[x, y], argTypes := ats }, ty, pos, af, gd⟩ (tIs (.int k (min a b))) :=
  opTy_run fun s w hs => by
    have h1 : s.eval x = .int k a := hx.ev hs (mem_slots (by simp [Op.operands, Call.operands]))
    have h2 : s.eval y = .int k b := hy.ev hs (mem_slots (by simp [Op.operands, Call.operands]))
    refine ⟨.int k (min a b), w, ?_, Below.refl _ _, rfl⟩
    have e : (if b < a then b else a) = min a b := by rw [Int.min_def]; split <;> split <;> omega
    simp [execOp, resolve, invoke, builtin, Builtin.min_, Builtin.min2, h1, h2]
    exact e

/-! ### Reading and writing cells -/
theorem cellsP.get {s : St} : ∀ {Ts : List Ty} {cs : List Value} {i : Nat} {T : Ty}, cellsP Ts cs s → Ts[i]? = some T → ∃ v, cs[i]? = some v ∧ T.p v s
  | [], _, _, _, _, h => by simp at h
  | _ :: _, [], _, _, h, _ => h.elim
  | T0 :: Ts, v :: cs, 0, T, h, e => by simp at e; subst e; exact ⟨v, rfl, h.1⟩
  | T0 :: Ts, v :: cs, i + 1, T, h, e => by simpa using cellsP.get h.2.2 (by simpa using e)
theorem cTs_ld {Ts : List Ty} {i : Nat} {T : Ty} (h : Ts[i]? = some T) : ∀ cs s, (cTs Ts).p cs s → ∃ v, cs[i]? = some v ∧ T.p v s := fun _ _ hc => cellsP.get hc h
theorem ld_whole {α : Type} {E : Enc α} {x : α} (hE : E.ag = true := by rfl) : ∀ cs s, (cEnc E x).p cs s → 0 + E.sz ≤ cs.length ∧ (tV E x).p (.agg ((cs.drop 0).take E.sz).toArray) s := fun cs s h => by
  have hl := E.len h
  refine ⟨by omega, hE.symm, ?_⟩
  have h' : E.C x cs s := h
  simp only [Value.cells, List.drop_zero]
  rw [List.take_of_length_le (by omega)]
  exact h'
theorem ld_whole_eq {α : Type} {E : Enc α} {x y : α} (e : x = y) (hE : E.ag = true := by rfl) : ∀ cs s, (cEnc E x).p cs s → 0 + E.sz ≤ cs.length ∧ (tV E y).p (.agg ((cs.drop 0).take E.sz).toArray) s := e ▸ ld_whole hE
theorem ldp_whole {α : Type} {E : Enc α} {x : α} (hE : E.ag = true := by rfl) : ∀ cs s, (cEnc E x).p cs s → E.sz ≤ cs.length ∧ (tV E x).p (.agg (cs.take E.sz).toArray) s := fun cs s h => by
  have h1 := ld_whole hE cs s h
  simpa using h1
/-- The cells from place n on. -/
def cDrop (R : CTy) (n : Nat) : CTy := ⟨fun cs s => ∃ ds, R.p ds s ∧ cs = ds.drop n, fun hl ⟨ds, h, e⟩ => ⟨ds, R.up hl h, e⟩⟩
theorem cDrop_mk {R : CTy} {n : Nat} {cs : List Value} {s : St} (h : R.p cs s) : (cDrop R n).p (cs.drop n) s := ⟨cs, h, rfl⟩

theorem st_whole_cells {α : Type} {E : Enc α} {x : α} {Ts : List Ty} (hn : Ts.length = E.sz) (_ : E.ag = true) : ∀ cs v s, (cTs Ts).p cs s → (tV E x).p v s →
    v.cells.size = E.sz ∧ 0 + E.sz ≤ cs.length ∧ (∀ u ∈ v.cells.toList, u.oneCell' = true) ∧ (cEnc E x).p (cs.take 0 ++ v.cells.toList ++ cs.drop (0 + E.sz)) s := fun cs v s h ⟨_, h2⟩ => by
  have hl := E.len h2
  have hc := cellsP.length h
  refine ⟨by simpa using hl, by omega, E.one h2, ?_⟩
  rw [List.drop_eq_nil_of_le (by omega)]
  show E.C x _ s
  simpa using h2
theorem st_whole_enc {α β : Type} {E : Enc α} {E' : Enc β} {x : α} {y : β} (hn : E'.sz = E.sz) (_ : E.ag = true) : ∀ cs v s, (cEnc E' y).p cs s → (tV E x).p v s →
    v.cells.size = E.sz ∧ 0 + E.sz ≤ cs.length ∧ (∀ u ∈ v.cells.toList, u.oneCell' = true) ∧ (cEnc E x).p (cs.take 0 ++ v.cells.toList ++ cs.drop (0 + E.sz)) s := fun cs v s h ⟨_, h2⟩ => by
  have hl := E.len h2
  have hc := E'.len h
  refine ⟨by simpa using hl, by omega, E.one h2, ?_⟩
  rw [List.drop_eq_nil_of_le (by omega)]
  show E.C x _ s
  simpa using h2

theorem one_is {u : Value} (h1 : u.cells = #[u]) (h2 : u.oneCell' = true) : ∀ v s, (tIs u).p v s → Value.cells v = #[v] ∧ v.oneCell' = true := fun v s h => by
  have h' : v = u := h
  subst h'; exact ⟨h1, h2⟩
theorem one_sl {α : Type} {E : Enc α} {xs : List α} : ∀ v s, (tSl E xs).p v s → Value.cells v = #[v] ∧ v.oneCell' = true := fun v s h => by
  obtain ⟨A, n, c, rfl, _⟩ := h
  exact ⟨rfl, rfl⟩

theorem cellsP.set {s : St} {T : Ty} {v : Value} (hv : T.p v s) (h1 : v.oneCell' = true) : ∀ {Ts : List Ty} {cs : List Value} {i : Nat}, cellsP Ts cs s → i < Ts.length → cellsP (Ts.set i T) (cs.take i ++ [v] ++ cs.drop (i + 1)) s
  | [], _, _, _, h => by simp at h
  | _ :: _, [], _, h, _ => h.elim
  | T0 :: Ts, u :: cs, 0, h, _ => by simpa [cellsP] using ⟨hv, h1, h.2.2⟩
  | T0 :: Ts, u :: cs, i + 1, h, hi => by
    have := cellsP.set hv h1 h.2.2 (i := i) (by simpa using hi)
    rw [List.append_assoc] at this
    simpa [cellsP] using ⟨h.1, h.2.1, this⟩
theorem st_cell {Ts Ts' : List Ty} {o : Nat} {T : Ty} (h1 : ∀ v s, T.p v s → Value.cells v = #[v] ∧ v.oneCell' = true) (hT : Ts' = Ts.set o T) (ho : Nat.blt o Ts.length = true := by rfl) : ∀ cs v s, (cTs Ts).p cs s → T.p v s →
    v.cells.size = 1 ∧ o + 1 ≤ cs.length ∧ (∀ u ∈ v.cells.toList, u.oneCell' = true) ∧ (cTs Ts').p (cs.take o ++ v.cells.toList ++ cs.drop (o + 1)) s := fun cs v s h hv => by
  obtain ⟨e1, e2⟩ := h1 v s hv
  have hc := cellsP.length h
  have ho' := nat_blt.1 ho
  rw [e1]
  refine ⟨rfl, by omega, by simpa using e2, ?_⟩
  subst hT
  exact cellsP.set hv e2 h ho'

/-! ### Encodings of one cell -/
/-- A digit in base 2^32. -/
def encD : Enc Nat := { sz := 1, ag := false, C := fun n cs _ => cs = [.int .u32 n] ∧ n < 4294967296, up := fun _ h => h, len := fun h => by rw [h.1]; rfl, one := fun h => by rw [h.1]; simp [Value.oneCell'] }
theorem encD_is {n : Nat} (h : n < 4294967296) : ∀ v s, (tIs (.int .u32 n)).p v s → (tV encD n).p v s := fun v s e => by
  have e' : v = .int .u32 n := e
  subst e'; exact ⟨rfl, rfl, h⟩
theorem encD_out {n : Nat} : ∀ v s, (tV encD n).p v s → (tIs (.int .u32 n)).p v s := fun v s h => by
  obtain ⟨h1, h2, _⟩ := h
  cases v <;> first | (simp [Value.cells] at h2; done) | skip
  · simp [Value.cells] at h2; obtain ⟨rfl, rfl⟩ := h2; rfl
  · simp [Value.isAgg, encD] at h1
theorem encD_ld {n : Nat} : ∀ cs s, (cEnc encD n).p cs s → ∃ v, cs[0]? = some v ∧ (tIs (.int .u32 n)).p v s := fun cs s h => by
  obtain ⟨h1, _⟩ := h
  exact ⟨_, by rw [h1]; rfl, rfl⟩
theorem encD_row {xs : List Nat} {cap i n : Nat} (hx : xs[i]? = some n) : ∀ cs s, (cRow encD xs cap).p cs s → ∃ v, cs[0 + i * 1]? = some v ∧ (tIs (.int .u32 n)).p v s := fun cs s h => by
  obtain ⟨v, h1, h2⟩ := row_scal (E := encD) (x := n) rfl (fun v s h => ⟨by obtain ⟨h, _⟩ := h; simp at h; subst h; rfl, by obtain ⟨h, h'⟩ := h; simp at h; subst h; exact ⟨rfl, h'⟩⟩) hx cs s h
  exact ⟨v, h1, encD_out v s h2⟩
theorem encD_zero {s : St} : encD.C 0 (Value.int .u32 0).cells.toList s := ⟨rfl, by decide⟩
/-- The digits of a slice are digits. -/
theorem slP_encD {ds : List Nat} {v : Value} {s : St} (h : slP encD ds v s) : ∀ d ∈ ds, d < 4294967296 := fun d hd => by
  obtain ⟨A, n, c, _, _, _, hh⟩ := h
  obtain ⟨i, hi⟩ := List.mem_iff_getElem?.1 hd
  obtain ⟨b, o, _, hc⟩ := hh (by intro e; subst e; simp at hi)
  obtain ⟨cs, hC, _⟩ := hc i d hi
  exact hC.2

/-- What the arguments' types say. -/
theorem Ctr.know {P : Program} {f : FuncId} {Ts : List Ty} {T : Ty} {φ : Prop} (i : Nat) {Ti : Ty} (hi : Ts[i]? = some Ti) (h : ∀ v s, Ti.p v s → φ) (hc : φ → Ctr P f Ts T) : Ctr P f Ts T := by
  intro w0 M0 hM vs hvs
  have key : ∀ {Ts : List Ty} {vs : List Value} (i : Nat), vsP Ts vs ⟨w0, M0⟩ → Ts[i]? = some Ti → φ := by
    intro Ts
    induction Ts with
    | nil => intro vs i _ h; simp at h
    | cons T0 Ts ih =>
      intro vs i hv hi
      cases vs with
      | nil => exact hv.elim
      | cons v vs =>
        cases i with
        | zero => simp at hi; subst hi; exact h _ _ hv.1
        | succ i => exact ih i hv.2 (by simpa using hi)
  exact hc (key i hvs hi) w0 M0 hM vs hvs

theorem digAt {xs : List Nat} {i : Int} {j : Nat} (h1 : i.toNat = j) (h2 : j < xs.length) : xs[i.toNat]? = some (xs.getD j 0) := by
  subst h1
  simp [List.getD_eq_getElem?_getD, List.getElem?_eq_getElem h2]

end Go.Rt
