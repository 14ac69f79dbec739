/- The logic of the walks, part I: structs as rows of typed cells, their fields, and their building. Conditions: none; nothing of a program stands here. -/
import Derived.Test.YtkpmcldbcljkfaaRtH
import Derived.Laws.Tables
set_option linter.unusedVariables false
set_option linter.unusedSimpArgs false
namespace Go.Rt
open Go Go.RowKit

variable {X : Cx} {ops : Array Oper} {Q : Exit → Act → World → Prop} {rest : List Oper} {Γ : Gam} {H : Hp}
variable {dst : Option Tmp} {ty : TypeId} {pos : String} {af : Array Edge} {gd : Option (Nat × Bool)} {o : Oper} {T T' : Ty}

theorem cellsP.one {s : St} : ∀ {Ts : List Ty} {cs : List Value}, cellsP Ts cs s → ∀ u ∈ cs, u.oneCell' = true
  | [], [], _ => fun u h => by cases h
  | [], _ :: _, h => h.elim
  | _ :: _, [], h => h.elim
  | _ :: _, _ :: _, h => fun u hu => by
    cases hu with
    | head => exact h.2.1
    | tail _ hu => exact cellsP.one h.2.2 u hu
theorem cellsP.drop {s : St} : ∀ (n : Nat) {Ts : List Ty} {cs : List Value}, cellsP Ts cs s → cellsP (Ts.drop n) (cs.drop n) s
  | 0, _, _, h => by simpa using h
  | n + 1, [], [], _ => trivial
  | n + 1, [], _ :: _, h => h.elim
  | n + 1, _ :: _, [], h => h.elim
  | n + 1, _ :: _, _ :: _, h => by simpa using cellsP.drop n h.2.2
theorem cellsP.take {s : St} : ∀ (n : Nat) {Ts : List Ty} {cs : List Value}, cellsP Ts cs s → cellsP (Ts.take n) (cs.take n) s
  | 0, _, _, h => by simp [cellsP]
  | n + 1, [], [], _ => trivial
  | n + 1, [], _ :: _, h => h.elim
  | n + 1, _ :: _, [], h => h.elim
  | n + 1, _ :: _, _ :: _, h => ⟨h.1, h.2.1, cellsP.take n h.2.2⟩
theorem cellsP.append {s : St} : ∀ {Ts Us : List Ty} {cs ds : List Value}, cellsP Ts cs s → cellsP Us ds s → cellsP (Ts ++ Us) (cs ++ ds) s
  | [], _, [], _, _, h => h
  | [], _, _ :: _, _, h, _ => h.elim
  | _ :: _, _, [], _, h, _ => h.elim
  | _ :: _, _, _ :: _, _, h, h' => ⟨h.1, h.2.1, cellsP.append h.2.2 h'⟩

/-- Values of a type α as n typed cells. -/
def encF {α : Type} (n : Nat) (f : α → List Ty) : Enc α where
  sz := n
  ag := true
  C x cs s := (f x).length = n ∧ cellsP (f x) cs s
  up hl h := ⟨h.1, cellsP.up hl h.2⟩
  len h := by rw [cellsP.length h.2, h.1]
  one h := cellsP.one h.2
/-- n cells, typed one by one. -/
def encL (n : Nat) : Enc (List Ty) := encF n fun Ts => Ts

theorem Ty.eq {A B : Ty} (h : ∀ v s, A.p v s ↔ B.p v s) : A = B := by
  obtain ⟨p, _⟩ := A
  obtain ⟨q, _⟩ := B
  have e : p = q := by funext v s; exact propext (h v s)
  subst e; rfl

theorem tV_F {α : Type} {n : Nat} {f : α → List Ty} {x : α} {Ts : List Ty} (h : f x = Ts) : tV (encF n f) x = tV (encL n) Ts := by subst h; rfl
theorem tV_F' {α : Type} {n : Nat} {f : α → List Ty} {x : α} {Ts : List Ty} (h : f x = Ts) : tV (encL n) Ts = tV (encF n f) x := by subst h; rfl

theorem tSl_map {α : Type} {n : Nat} {f : α → List Ty} {xs : List α} : tSl (encL n) (xs.map f) = tSl (encF n f) xs := Ty.eq fun v s => by
  constructor
  · rintro ⟨A, m, c, h1, h2, h3, h4⟩
    refine ⟨A, m, c, h1, by simpa using h2, h3, fun hne => ?_⟩
    obtain ⟨b, o, h5, h6⟩ := h4 (by simpa using hne)
    exact ⟨b, o, h5, fun i x hx => h6 i (f x) (by simp [hx])⟩
  · rintro ⟨A, m, c, h1, h2, h3, h4⟩
    refine ⟨A, m, c, h1, by simpa using h2, h3, fun hne => ?_⟩
    obtain ⟨b, o, h5, h6⟩ := h4 (by simpa using hne)
    refine ⟨b, o, h5, fun i Ts hT => ?_⟩
    rw [List.getElem?_map] at hT
    cases hx : xs[i]? with
    | none => rw [hx] at hT; cases hT
    | some x => rw [hx] at hT; cases hT; exact h6 i x hx

/-- A box of a struct. -/
theorem J.boxF {α : Type} {n : Nat} {f : α → List Ty} {z : α} {Ts : List Ty} {d : Nat} {t : TypeId} {x : Operand} (hx : OpT Γ x (tV (encF n f) z)) (e : f z = Ts) (hN : d < X.N)
    (next : ∀ b, J X ops Q rest ((d, pOwn b 0) :: Γ) (⟨b, t, cTs Ts⟩ :: H)) : J X ops Q (⟨some d, .box t x, ty, pos, af, none⟩ :: rest) Γ H :=
  J.box hx (fun v s h => by subst e; exact h.2.2) hN next

theorem cells_agg {Ts : List Ty} {cs : List Value} {s : St} {n : Nat} (h : cellsP Ts cs s) (hn : Ts.length = n) : (tV (encL n) Ts).p (.agg cs.toArray) s :=
  ⟨rfl, hn, by simpa [Value.cells] using h⟩

/-- A struct within a row of cells. -/
theorem cTs_lda {Ts Vs : List Ty} {o m : Nat} (h : (Ts.drop o).take m = Vs) (hm : Nat.ble (o + m) Ts.length = true) : ∀ cs s, (cTs Ts).p cs s → o + m ≤ cs.length ∧ (tV (encL m) Vs).p (.agg ((cs.drop o).take m).toArray) s := fun cs s hc => by
  have hl := cellsP.length hc
  have hm' := Nat.le_of_ble_eq_true hm
  refine ⟨by omega, ?_⟩
  subst h
  exact cells_agg (cellsP.take m (cellsP.drop o hc)) (by simp; omega)

theorem ldF {α : Type} {n : Nat} {f : α → List Ty} {x : α} {o : Nat} {T : Ty} (h : (f x)[o]? = some T) : ∀ cs s, (cDrop (cEnc (encF n f) x) o).p cs s → ∃ v, cs[0]? = some v ∧ T.p v s := fun cs s ⟨ds, hd, e⟩ => by
  obtain ⟨v, h1, h2⟩ := cellsP.get hd.2 h
  exact ⟨v, by rw [e, List.getElem?_drop]; exact h1, h2⟩
theorem ldF0 {α : Type} {n : Nat} {f : α → List Ty} {x : α} {T : Ty} (h : (f x)[0]? = some T) : ∀ cs s, (cEnc (encF n f) x).p cs s → ∃ v, cs[0]? = some v ∧ T.p v s := fun cs s hd => cellsP.get hd.2 h
theorem ldFa {α : Type} {n : Nat} {f : α → List Ty} {x : α} {o m : Nat} {Vs : List Ty} (h : ((f x).drop o).take m = Vs) (hm : Nat.ble (o + m) n = true) : ∀ cs s, (cDrop (cEnc (encF n f) x) o).p cs s → m ≤ cs.length ∧ (tV (encL m) Vs).p (.agg (cs.take m).toArray) s := fun cs s ⟨ds, hd, e⟩ => by
  have hl := cellsP.length hd.2
  have hm' := Nat.le_of_ble_eq_true hm
  rw [hd.1] at hl
  refine ⟨by rw [e]; simp; omega, ?_⟩
  subst h
  rw [e]
  exact cells_agg (cellsP.take m (cellsP.drop o hd.2)) (by simp [hd.1]; omega)
theorem ldFa0 {α : Type} {n : Nat} {f : α → List Ty} {x : α} {m : Nat} {Vs : List Ty} (h : (f x).take m = Vs) (hm : Nat.ble m n = true) : ∀ cs s, (cEnc (encF n f) x).p cs s → m ≤ cs.length ∧ (tV (encL m) Vs).p (.agg (cs.take m).toArray) s := fun cs s hd => by
  have hl := cellsP.length hd.2
  have hm' := Nat.le_of_ble_eq_true hm
  rw [hd.1] at hl
  refine ⟨by omega, ?_⟩
  subst h
  exact cells_agg (cellsP.take m hd.2) (by simp [hd.1]; omega)
/-- The same, as a struct. -/
theorem cTs_ldV {α : Type} {g : α → List Ty} {y : α} {Ts : List Ty} {o m : Nat} (h : (Ts.drop o).take m = g y) (hm : Nat.ble (o + m) Ts.length = true) : ∀ cs s, (cTs Ts).p cs s → o + m ≤ cs.length ∧ (tV (encF m g) y).p (.agg ((cs.drop o).take m).toArray) s := cTs_lda h hm
theorem ldFV {α β : Type} {n : Nat} {f : α → List Ty} {x : α} {g : β → List Ty} {y : β} {o m : Nat} (h : ((f x).drop o).take m = g y) (hm : Nat.ble (o + m) n = true) : ∀ cs s, (cDrop (cEnc (encF n f) x) o).p cs s → m ≤ cs.length ∧ (tV (encF m g) y).p (.agg (cs.take m).toArray) s := ldFa h hm
theorem ldFV0 {α β : Type} {n : Nat} {f : α → List Ty} {x : α} {g : β → List Ty} {y : β} {m : Nat} (h : (f x).take m = g y) (hm : Nat.ble m n = true) : ∀ cs s, (cEnc (encF n f) x).p cs s → m ≤ cs.length ∧ (tV (encF m g) y).p (.agg (cs.take m).toArray) s := ldFa0 h hm
theorem agg_eq {R : CTy} {o n : Nat} {T T' : Ty} (e : T = T') (h : ∀ cs s, R.p cs s → o + n ≤ cs.length ∧ T.p (.agg ((cs.drop o).take n).toArray) s) : ∀ cs s, R.p cs s → o + n ≤ cs.length ∧ T'.p (.agg ((cs.drop o).take n).toArray) s := e ▸ h
theorem cDrop_drop {R : CTy} {n m : Nat} {cs : List Value} {s : St} (h : (cDrop R n).p cs s) : (cDrop R (n + m)).p (cs.drop m) s := by
  obtain ⟨ds, h1, e⟩ := h
  exact ⟨ds, h1, by rw [e, List.drop_drop]⟩

/-- A struct is stored into a row of cells. -/
theorem st_agg {Ts Ts' Vs : List Ty} {o m : Nat} (hT : Ts' = Ts.take o ++ Vs ++ Ts.drop (o + m)) (ho : Nat.ble (o + m) Ts.length = true := by rfl) : ∀ cs v s, (cTs Ts).p cs s → (tV (encL m) Vs).p v s →
    v.cells.size = m ∧ o + m ≤ cs.length ∧ (∀ u ∈ v.cells.toList, u.oneCell' = true) ∧ (cTs Ts').p (cs.take o ++ v.cells.toList ++ cs.drop (o + m)) s := fun cs v s h hv => by
  have hl := cellsP.length h
  have hm' := Nat.le_of_ble_eq_true ho
  obtain ⟨_, h2, h3⟩ := hv
  have h2' : Vs.length = m := h2
  have h4 : v.cells.toList.length = Vs.length := cellsP.length h3
  refine ⟨by rw [← Array.length_toList]; omega, by omega, cellsP.one h3, ?_⟩
  subst hT
  exact cellsP.append (cellsP.append (cellsP.take o h) h3) (cellsP.drop (o + m) h)

/-! ### Building a struct -/
def plB (P : Program) (t : TypeId) : Option (List (Nat × Nat) × List Value) :=
  match P.info? t, P.underlying t with
  | some it, some (.struct fields) =>
    match it.zero, fields.toList.mapM (fun f => (P.info? f.type).map fun i => (f.offset, i.size)) with
    | some z, some places => some (places, z.cells.toList)
    | _, _ => none
  | _, _ => none

theorem plB_built {P : Program} {t : TypeId} {pl : List (Nat × Nat)} {zs : List Value} (h : plB P t = some (pl, zs)) (parts : List (Nat × Value)) : P.built t parts = Instr.fill (pl.toArray[·]?) zs.toArray parts := by
  unfold plB at h
  unfold Program.built
  cases hi : P.info? t with
  | none => rw [hi] at h; cases h
  | some it =>
    rw [hi] at h
    cases hu : P.underlying t with
    | none => rw [hu] at h; cases h
    | some d =>
      rw [hu] at h
      cases d <;> first | (cases h; done) | skip
      rename_i fields
      dsimp only at h ⊢
      cases hz : it.zero with
      | none => rw [hz] at h; cases h
      | some z =>
        rw [hz] at h
        cases hp : fields.toList.mapM (fun f => (P.info? f.type).map fun i => (f.offset, i.size)) with
        | none => rw [hp] at h; cases h
        | some places => rw [hp] at h; cases h; simp

/-- The parts of a struct, put in one after the other. -/
inductive Bld (Γ : Gam) (pl : List (Nat × Nat)) : List (Nat × Operand) → List Ty → List Ty → Prop
  | nil {Ts : List Ty} : Bld Γ pl [] Ts Ts
  | one {i off : Nat} {x : Operand} {T : Ty} {ps : List (Nat × Operand)} {Ts Ts' Us : List Ty} (hp : pl[i]? = some (off, 1)) (hx : OpT Γ x T) (h1 : ∀ v s, T.p v s → Value.cells v = #[v] ∧ v.oneCell' = true) (hT : Ts' = Ts.set off T) (ho : Nat.blt off Ts.length = true) (hs : Bld Γ pl ps Ts' Us) : Bld Γ pl ((i, x) :: ps) Ts Us
  | agg {i off m : Nat} {x : Operand} {Vs : List Ty} {ps : List (Nat × Operand)} {Ts Ts' Us : List Ty} (hp : pl[i]? = some (off, m)) (hx : OpT Γ x (tV (encL m) Vs)) (hT : Ts' = Ts.take off ++ Vs ++ Ts.drop (off + m)) (ho : Nat.ble (off + m) Ts.length = true) (hs : Bld Γ pl ps Ts' Us) : Bld Γ pl ((i, x) :: ps) Ts Us

theorem fill_bld {pl : List (Nat × Nat)} {a : Act} {s : St} : ∀ {ps : List (Nat × Operand)} {Ts Us : List Ty}, Bld Γ pl ps Ts Us → (∀ x (T : Ty), OpT Γ x T → (∃ j, (j, x) ∈ ps) → T.p (a.eval x) s) → ∀ (cs : List Value), cellsP Ts cs s →
    ∃ out : List Value, Instr.fill (pl.toArray[·]?) cs.toArray (ps.map fun p => (p.1, a.eval p.2)) = some out.toArray ∧ cellsP Us out s := by
  intro ps Ts Us h
  induction h with
  | nil => intro _ cs hc; exact ⟨cs, rfl, hc⟩
  | one hp hx h1 hT ho hs ih =>
    rename_i i off x T ps Ts Ts' Us
    intro hev cs hc
    have hv := hev x T hx ⟨i, .head _⟩
    have hl := cellsP.length hc
    have hlt := nat_blt.1 ho
    obtain ⟨e1, e2⟩ := h1 _ _ hv
    have hset := fold_set [a.eval x] 0 cs off (by simp; omega)
    simp only [Nat.add_zero, List.length_singleton] at hset
    subst hT
    obtain ⟨out, h3, h4⟩ := ih (fun y U hy hm => hev y U hy (by obtain ⟨j, hj⟩ := hm; exact ⟨j, .tail _ hj⟩)) _ (cellsP.set hv e2 hc hlt)
    refine ⟨out, ?_, h4⟩
    rw [← h3]
    simp only [List.map_cons, Instr.fill, List.getElem?_toArray, hp, e1]
    rw [if_neg (by simp; omega)]
    congr 1
  | agg hp hx hT ho hs ih =>
    rename_i i off m x Vs ps Ts Ts' Us
    intro hev cs hc
    have hv := hev x _ hx ⟨i, .head _⟩
    have hl := cellsP.length hc
    have hle := Nat.le_of_ble_eq_true ho
    obtain ⟨_, h2, h3⟩ := hv
    have h4 := cellsP.length h3
    have h2' : Vs.length = m := h2
    have hsz : (a.eval x).cells.size = m := by simp at h4; omega
    have hset := fold_set (a.eval x).cells.toList 0 cs off (by simp; omega)
    simp only [Nat.add_zero, Array.length_toList, hsz] at hset
    subst hT
    obtain ⟨out, h5, h6⟩ := ih (fun y U hy hm => hev y U hy (by obtain ⟨j, hj⟩ := hm; exact ⟨j, .tail _ hj⟩)) _ (cellsP.append (cellsP.append (cellsP.take off hc) h3) (cellsP.drop (off + m) hc))
    refine ⟨out, ?_, h6⟩
    rw [← h5]
    simp only [List.map_cons, Instr.fill, List.getElem?_toArray, hp]
    rw [if_neg (by simp [hsz]; omega)]
    congr 1
    rw [← hset]
    rw [← Array.foldl_toList, Array.toList_zipIdx]

theorem Bld.length {pl : List (Nat × Nat)} {ps : List (Nat × Operand)} {Ts Us : List Ty} (h : Bld Γ pl ps Ts Us) (hV : ∀ q ∈ pl, q.2 ≤ Ts.length) : True := trivial

theorem ot_build {t n : Nat} {pl : List (Nat × Nat)} {zs : List Value} {Ts Us : List Ty} {ps : List (Nat × Operand)} (ht : plB X.P t = some (pl, zs)) (hz : ∀ s, cellsP Ts zs s) (hp : Bld Γ pl ps Ts Us) (hn : Us.length = n) :
    OpTy X Γ H ⟨dst, .build t ps.toArray, ty, pos, af, gd⟩ (tV (encL n) Us) :=
  opTy_run fun a w hs => by
    have hev : ∀ x (T : Ty), OpT Γ x T → (∃ j, (j, x) ∈ ps) → T.p (a.eval x) ⟨w, mask X.M0 H⟩ := fun x T hx hm => by
      obtain ⟨j, hj⟩ := hm
      exact hx.ev hs (mem_slots (by simp [Op.operands]; exact ⟨j, hj⟩))
    obtain ⟨out, h1, h2⟩ := fill_bld hp hev zs (hz _)
    refine ⟨.agg out.toArray, w, ?_, Below.refl _ _, cells_agg h2 hn⟩
    have hb := plB_built ht (ps.map fun p => (p.1, a.eval p.2))
    rw [h1] at hb
    have hr := run_build w t (ps.map fun p => (p.1, a.eval p.2)).toArray out.toArray (by simpa using hb)
    simp only [execOp, List.map_toArray, Sem.run_bind, Sem.run_map, hr]
    rfl

end Go.Rt
