/- The logic of the walks, part G: append, parts of own rows, and calls that write a block which the caller lends. Conditions: none; nothing of a program stands here. -/
import Derived.Test.YtkpmcldbcljkfaaRtF
set_option linter.unusedVariables false
set_option linter.unusedSimpArgs false
namespace Go.Rt
open Go Go.RowKit

variable {X : Cx} {ops : Array Oper} {Q : Exit → Act → World → Prop} {rest : List Oper} {Γ : Gam} {H : Hp}
variable {dst : Option Tmp} {ty : TypeId} {pos : String} {af : Array Edge} {gd : Option (Nat × Bool)} {o : Oper} {T T' : Ty}

/-! ### Parts of slices -/
/-- xs[lo:hi] of an own row. -/
theorem ot_slice_own {b o n c t e sz by_ : Nat} {x : Operand} {lo hi : Option Operand} {l h : Nat} {kl kh : IntKind} (hx : OpT Γ x (sIs b o n c)) (ht : slB X.P t = some (e, sz, by_))
    (hlo : match lo with | some y => OpT Γ y (tIs (.int kl l)) | none => l = 0) (hhi : match hi with | some y => OpT Γ y (tIs (.int kh h)) | none => h = n) (h1 : l ≤ h) (h2 : h ≤ c) (h3 : l < c ∨ l = 0) :
    OpTy X Γ H ⟨dst, .slice t x lo hi none, ty, pos, af, gd⟩ (sIs b (o + l * sz) (h - l) (c - l)) :=
  opTy_run fun a w hs => by
    have he : a.eval x = .slice (some ⟨b, o, none⟩) n c := hx.ev hs (mem_slots (by simp [Op.operands]))
    obtain ⟨hu, i, hi', hsz, _⟩ := slB_spec ht
    have hel : lo.map a.eval = if lo.isSome then some (.int kl l) else none := by
      cases lo with
      | none => rfl
      | some y => exact congrArg some (hlo.ev hs (mem_slots (by simp [Op.operands])))
    have heh : hi.map a.eval = if hi.isSome then some (.int kh h) else none := by
      cases hi with
      | none => rfl
      | some y => exact congrArg some (hhi.ev hs (mem_slots (by simp [Op.operands])))
    have hadr : (if c = l then (⟨b, o, none⟩ : Addr) else (⟨b, o, none⟩ : Addr).add (l * sz)) = ⟨b, o + l * sz, none⟩ := by
      split
      · rcases h3 with q | q
        · omega
        · subst q; simp
      · rw [add_at]
    refine ⟨.slice (some ⟨b, o + l * sz, none⟩) (h - l) (c - l), w, ?_, Below.refl _ _, rfl⟩
    rw [← hadr]
    simp only [execOp, Instr.sliceAt, Sem.run_bind, run_underlying hu, Result.andThen_ok, Instr.slice, he, hel, heh]
    have h4 : (if c = l then (some (⟨b, o, none⟩ : Addr)) else (some (⟨b, o, none⟩ : Addr)).map (·.add (l * sz))) = some (if c = l then (⟨b, o, none⟩ : Addr) else (⟨b, o, none⟩ : Addr).add (l * sz)) := by split <;> rfl
    cases lo with
    | none =>
      cases hi with
      | none => dsimp only at hlo hhi; subst hlo hhi; simp [Instr.sliceBounds, sizeOf, typeInfo, hi', hsz] at h4 ⊢; exact h4
      | some y => dsimp only at hlo; subst hlo; simp [Instr.sliceBounds, Instr.sliceBound, asIntOf, h2, sizeOf, typeInfo, hi', hsz] at h4 ⊢; exact h4
    | some z =>
      cases hi with
      | none => dsimp only at hhi; subst hhi; simp [Instr.sliceBounds, Instr.sliceBound, asIntOf, h1, sizeOf, typeInfo, hi', hsz] at h4 ⊢; exact h4
      | some y => simp [Instr.sliceBounds, Instr.sliceBound, asIntOf, h1, h2, sizeOf, typeInfo, hi', hsz] at h4 ⊢; exact h4

/-- xs[:h:m] of a slice that is not written. -/
theorem ot_slice3 {α : Type} {E : Enc α} {xs : List α} {t e by_ : Nat} {x y z : Operand} {h m : Nat} {kh km : IntKind} (hx : OpT Γ x (tSl E xs)) (ht : slB X.P t = some (e, E.sz, by_))
    (hh : OpT Γ y (tIs (.int kh h))) (hm : OpT Γ z (tIs (.int km m))) (h1 : h ≤ m) (h2 : m ≤ xs.length) :
    OpTy X Γ H ⟨dst, .slice t x none (some y) (some z), ty, pos, af, gd⟩ (tSl E (xs.take h)) :=
  opTy_run fun a w hs => by
    obtain ⟨A, n, c, he, rfl, hc, hcell⟩ := hx.ev hs (mem_slots (by simp [Op.operands]))
    obtain ⟨hu, i, hi', hsz, _⟩ := slB_spec ht
    have e1 : a.eval y = .int kh h := hh.ev hs (mem_slots (by simp [Op.operands]))
    have e2 : a.eval z = .int km m := hm.ev hs (mem_slots (by simp [Op.operands]))
    have h3 : m ≤ c := by omega
    refine ⟨.slice A h m, w, ?_, Below.refl _ _, A, h, m, rfl, by simp; omega, h1, fun hne => ?_⟩
    · have hA : A.map (·.add 0) = A := by cases A <;> simp [Addr.add]
      simp [execOp, Instr.sliceAt, run_underlying hu, Instr.slice, he, e1, e2, Instr.sliceBounds, Instr.sliceBound, asIntOf, h1, h3, sizeOf, typeInfo, hi', hsz]
      intro _; exact hA
    · obtain ⟨b, o, h5, h6⟩ := hcell (by intro q; subst q; simp at hne)
      refine ⟨b, o, h5, fun j x hx => ?_⟩
      rw [List.getElem?_take] at hx
      split at hx
      · exact h6 j x hx
      · cases hx

/-- A slice without elements and without room. -/
def tZ : Ty := ⟨fun v _ => ∃ A, v = .slice A 0 0, fun _ h => h⟩
theorem OpT.z : OpT Γ (.const (.slice none 0 0)) tZ := .const fun _ => ⟨none, rfl⟩
theorem ot_slice00 {α : Type} {E : Enc α} {xs : List α} {t e by_ : Nat} {x y z : Operand} {kh km : IntKind} (hx : OpT Γ x (tSl E xs)) (ht : slB X.P t = some (e, E.sz, by_))
    (hh : OpT Γ y (tIs (.int kh 0))) (hm : OpT Γ z (tIs (.int km 0))) :
    OpTy X Γ H ⟨dst, .slice t x none (some y) (some z), ty, pos, af, gd⟩ tZ :=
  opTy_run fun a w hs => by
    obtain ⟨A, n, c, he, rfl, hc, hcell⟩ := hx.ev hs (mem_slots (by simp [Op.operands]))
    obtain ⟨hu, i, hi', hsz, _⟩ := slB_spec ht
    have e1 : a.eval y = .int kh 0 := hh.ev hs (mem_slots (by simp [Op.operands]))
    have e2 : a.eval z = .int km 0 := hm.ev hs (mem_slots (by simp [Op.operands]))
    refine ⟨.slice A 0 0, w, ?_, Below.refl _ _, A, rfl⟩
    simp [execOp, Instr.sliceAt, run_underlying hu, Instr.slice, he, e1, e2, Instr.sliceBounds, Instr.sliceBound, asIntOf, sizeOf, typeInfo, hi', hsz]

/-! ### The cells of a slice in a row -/
theorem slP_cells {α : Type} {E : Enc α} {s : St} {b : Nat} : ∀ (xs : List α) (o : Nat), (∀ i x, xs[i]? = some x → ∃ cs, E.C x cs s ∧ ∀ j u, cs[j]? = some u → s.cell b (o + i * E.sz + j) u) →
    ∃ news : List Value, news.length = xs.length * E.sz ∧ (∀ j u, news[j]? = some u → s.cell b (o + j) u) ∧ (∀ i x, xs[i]? = some x → E.C x ((news.drop (i * E.sz)).take E.sz) s) ∧ ∀ u ∈ news, u.oneCell' = true
  | [], _, _ => ⟨[], by simp, by simp, by simp, by simp⟩
  | x :: xs, o, h => by
    obtain ⟨cs, h1, h2⟩ := h 0 x rfl
    have hl := E.len h1
    obtain ⟨news, h3, h4, h5, h6⟩ := slP_cells (b := b) xs (o + E.sz) (fun i y hy => by
      obtain ⟨ds, h7, h8⟩ := h (i + 1) y (by simpa using hy)
      refine ⟨ds, h7, fun j u hu => ?_⟩
      have := h8 j u hu
      rw [Nat.add_mul, Nat.one_mul] at this
      rw [show o + E.sz + i * E.sz + j = o + (i * E.sz + E.sz) + j by omega]
      exact this)
    refine ⟨cs ++ news, by simp [hl, h3, Nat.add_mul]; omega, fun j u hu => ?_, fun i y hy => ?_, fun u hu => ?_⟩
    · rcases Nat.lt_or_ge j cs.length with q | q
      · rw [List.getElem?_append_left q] at hu
        have := h2 j u hu
        simpa using this
      · rw [List.getElem?_append_right q] at hu
        have := h4 _ u hu
        rwa [show o + E.sz + (j - cs.length) = o + j by omega] at this
    · cases i with
      | zero =>
        simp at hy; subst hy
        rw [Nat.zero_mul, List.drop_zero, List.take_append_of_le_length (by omega), List.take_of_length_le (by omega)]
        exact h1
      | succ i =>
        have := h5 i y (by simpa using hy)
        rw [Nat.add_mul, Nat.one_mul, show i * E.sz + E.sz = cs.length + i * E.sz by omega, List.drop_length_add_append]
        exact this
    · rcases List.mem_append.1 hu with hu | hu
      · exact E.one h1 u hu
      · exact h6 u hu

theorem zeroCells_size (z : Array Value) (n : Nat) : (Builtin.zeroCells z n).size = n * z.size := by simp [Builtin.zeroCells]

/-- A row of cells that begins with the cells of xs. -/
theorem rowP_mk {α : Type} {E : Enc α} {xs : List α} {cap : Nat} {news more : List Value} {s : St} (h1 : news.length = xs.length * E.sz) (h2 : news.length + more.length = cap * E.sz) (h3 : xs.length ≤ cap)
    (h4 : ∀ i x, xs[i]? = some x → E.C x ((news.drop (i * E.sz)).take E.sz) s) : (cRow E xs cap).p (news ++ more) s := by
  refine ⟨h3, by simpa using h2, fun i x hx => ?_⟩
  have hi := (List.getElem?_eq_some_iff.1 hx).1
  have hr := row_room hi h1
  rw [List.drop_append_of_le_length (by omega), List.take_append_of_le_length (by simp; omega)]
  exact h4 i x hx

/-! ### append onto nothing -/
theorem run_append_z {P : Program} {w : World} {t ty e : TypeId} {i : TypeInfo} {zv : Value} {sz by_ : Nat} (hu : P.underlying t = some (.slice e)) (hi : P.info? e = some i) (hz : i.zero = some zv) (hsz : i.size = sz) (hby : i.bytes = by_) (hzs : zv.cells.size = sz)
    (A : Option Addr) (a : Addr) (n c : Nat) (news : List Value) (hl : news.length = n * sz) (hnews : ∀ j v, news[j]? = some v → w.cell? (a.add j) = some v) (h0 : 0 < n) (hb : n * by_ ≤ 140737488355328) (h63 : n ≤ 9223372036854775807) :
    ∃ cap more, (Builtin.append_ #[t, t] ty #[.slice A 0 0, .slice (some a) n c]).run P w = .ok (.slice (some ⟨w.heap.size, 0, none⟩) n cap) (w.drew.alloc (.cells (news ++ more).toArray e)) ∧ n ≤ cap ∧ news.length + more.length = cap * sz := by
  have hge := grownCap_ge w n 0 e
  refine ⟨grownCap w n 0 e, (Builtin.zeroCells zv.cells (grownCap w n 0 e - n)).toList, ?_, hge, ?_⟩
  · cases A with
    | none =>
      have hr := run_append_nil (P := P) w t ty e i zv hu hi hz a n c news (by rw [hl, hsz]) hnews h0 (by omega) (by rw [hby]; omega)
      rw [hr]
      congr 3
      apply Array.ext'
      simp
    | some b =>
      have hr := run_append_grow (P := P) w t ty e i zv hu hi hz b 0 0 [] (by simp) (by simp) a n c news (by rw [hl, hsz]) hnews (by omega) (by omega) (growslice_fits (by omega) (by rw [hby, Nat.zero_add]; omega))
      simp only [Nat.zero_add] at hr
      rw [hr]
      congr 3
      apply Array.ext'
      simp
  · simp [zeroCells_size, hl, hzs, ← Nat.add_mul]
    congr 1; omega

theorem run_append_none {P : Program} {w : World} {t ty e : TypeId} {i : TypeInfo} (hu : P.underlying t = some (.slice e)) (hi : P.info? e = some i) (A B : Option Addr) (n m c : Nat) (hn : n ≤ m) :
    (Builtin.append_ #[t, t] ty #[.slice A n m, .slice B 0 c]).run P w = .ok (.slice A n m) w := by
  have hfc : (Builtin.firstCells i.size 0 (.slice B 0 c)).run P w = .ok #[] w := by
    cases B <;> simp [Builtin.firstCells, loadCells, loadCellsFrom]
  cases A with
  | none => simp [Builtin.append_, run_underlying hu, sizeOf, typeInfo, hi, Builtin.lenOf, hn, hfc]
  | some a => simp [Builtin.append_, run_underlying hu, sizeOf, typeInfo, hi, Builtin.lenOf, hn, hfc, storeCells]

/-- 'append(nothing, xs...)': the elements in new memory, which from then on is read alone. -/
theorem ot_append0 {α : Type} {E : Enc α} {xs : List α} {t e by_ : Nat} {x y : Operand} {zv : Value} {ats : Array TypeId} (hx : OpT Γ x tZ) (hy : OpT Γ y (tSl E xs)) (ht : slB X.P t = some (e, E.sz, by_)) (ha : ats = #[t, t]) (hz : zeroB X.P e = some zv) (hzs : zv.cells.size = E.sz)
    (hb : xs.length * by_ ≤ 140737488355328) (h63 : xs.length ≤ 9223372036854775807) : OpTy X Γ H ⟨dst, .call { callee := .builtin .append, args := #[x, y], argTypes := ats }, ty, pos, af, gd⟩ (tSl E xs) :=
  opTy_run fun a w hs => by
    subst ha
    obtain ⟨A, h1⟩ := hx.ev hs (mem_slots (by simp [Op.operands, Call.operands]))
    obtain ⟨B, n, c, h2, rfl, hc, hcell⟩ := hy.ev hs (mem_slots (by simp [Op.operands, Call.operands]))
    obtain ⟨hu, i, hi, hsz, hby⟩ := slB_spec ht
    unfold zeroB at hz
    rw [hi] at hz
    have hz' : i.zero = some zv := hz
    by_cases h0 : xs = []
    · subst h0
      refine ⟨.slice A 0 0, w, ?_, Below.refl _ _, A, 0, 0, rfl, rfl, Nat.le_refl _, fun h => absurd rfl h⟩
      simp only [List.length_nil] at h2
      simp only [execOp, resolve, invoke, builtin, Sem.run_bind, Sem.run_pure, Result.andThen_ok, List.map_toArray, List.map_cons, List.map_nil, h1, h2, run_append_none hu hi A B 0 0 c (Nat.le_refl _)]
    · obtain ⟨b, o, rfl, hcs⟩ := hcell h0
      obtain ⟨news, h3, h4, h5, h6⟩ := slP_cells xs o hcs
      have hpos : 0 < xs.length := by cases xs with | nil => exact absurd rfl h0 | cons _ _ => simp
      obtain ⟨cap, more, hr, h7, h8⟩ := run_append_z (w := w) (ty := ty) hu hi hz' hsz hby hzs A ⟨b, o, none⟩ xs.length c news h3 (fun j v hv => by rw [add_at]; exact (h4 j v hv).1) hpos hb h63
      have hbl : Below w.heap.size w (w.drew.alloc (.cells (news ++ more).toArray e)) := (Below.refl _ w).drew.alloc (Nat.le_refl _) _
      refine ⟨_, _, ?_, hbl, some ⟨w.heap.size, 0, none⟩, xs.length, cap, rfl, rfl, h7, fun _ => ⟨w.heap.size, 0, rfl, fun j x hx => ?_⟩⟩
      · simp only [execOp, resolve, invoke, builtin, Sem.run_bind, Sem.run_pure, Result.andThen_ok, List.map_toArray, List.map_cons, List.map_nil, h1, h2, hr]
      · refine ⟨_, E.up (Le.below _ hbl) (h5 j x hx), fun k u hu => ⟨?_, fun hm => absurd (mask_lt hs _ hm) (Nat.lt_irrefl _)⟩⟩
        have hj := (List.getElem?_eq_some_iff.1 hx).1
        have hrm := row_room hj h3
        rw [List.getElem?_take] at hu
        split at hu
        · rename_i hk
          rw [List.getElem?_drop] at hu
          have : (w.drew.alloc (.cells (news ++ more).toArray e)).heap[w.heap.size]? = some (.cells (news ++ more).toArray e) := heap_alloc_new w.drew _
          simp only [World.cell?, this]
          simp only [Option.isSome_none, Bool.false_eq_true, if_false, List.getElem?_toArray, Nat.zero_add]
          rw [List.getElem?_append_left (by omega)]
          exact hu
        · cases hu

/-! ### append onto an own row -/
theorem Sat.front {e : HEnt} {H' : Hp} {a : Act} {w : World} (hr : HRem e H H') (h : Sat X Γ H a w) : Sat X Γ (e :: H') a w := by
  have hmem : ∀ e' ∈ e :: H', e' ∈ H := fun e' he' => by
    cases he' with
    | head => exact hr.mem
    | tail _ he' =>
      have key : ∀ {H H' : Hp}, HRem e H H' → ∀ e' ∈ H', e' ∈ H := by
        intro H H' hr
        induction hr with
        | here => intro e' h; exact .tail _ h
        | there _ ih => intro e' h; cases h with
          | head => exact .head _
          | tail _ h => exact .tail _ (ih e' h)
      exact key hr e' he'
  have hm : Le ⟨w, mask X.M0 H⟩ ⟨w, mask X.M0 (e :: H')⟩ := mask_le fun e' he' => ⟨e', hmem e' he', rfl⟩
  refine ⟨h.size, h.defers, h.m0, h.below, fun i T hi => T.up hm (h.slots i T hi), fun e' he' => ?_, ?_⟩
  · obtain ⟨h1, cs, h2, h3⟩ := h.hp.1 e' (hmem e' he')
    exact ⟨h1, cs, h2, e'.R.up hm h3⟩
  · refine List.Pairwise.cons (fun b hb => ?_) (h.hp.2.sublist hr.sub.sublist)
    obtain ⟨e', he', rfl⟩ := List.mem_map.1 hb
    exact Ne.symm (hr.ne h.hp.2 e' he')

theorem row_append {α : Type} {E : Enc α} {xs ys : List α} {cap : Nat} {cur news : List Value} {s : St} (hc : (cRow E xs cap).p cur s) (hl : news.length = ys.length * E.sz) (hn : ∀ i x, ys[i]? = some x → E.C x ((news.drop (i * E.sz)).take E.sz) s) :
    ∀ i x, (xs ++ ys)[i]? = some x → E.C x (((cur.take (xs.length * E.sz) ++ news).drop (i * E.sz)).take E.sz) s := by
  intro i x hx
  obtain ⟨h1, h2, h3⟩ := hc
  have hle : xs.length * E.sz ≤ cur.length := by rw [h2]; exact Nat.mul_le_mul_right _ h1
  rcases Nat.lt_or_ge i xs.length with q | q
  · rw [List.getElem?_append_left q] at hx
    have hr := row_room q (l := xs.length * E.sz) rfl
    rw [List.drop_append_of_le_length (by simp; omega), List.take_append_of_le_length (by simp; omega)]
    have := h3 i x hx
    rw [List.drop_take, List.take_take, Nat.min_eq_left (by omega)]
    exact this
  · rw [List.getElem?_append_right q] at hx
    have := hn _ x hx
    have e : i * E.sz = (cur.take (xs.length * E.sz)).length + (i - xs.length) * E.sz := by
      rw [List.length_take, Nat.min_eq_left hle, ← Nat.add_mul]; congr 1; omega
    rw [e, List.drop_length_add_append]
    exact this

theorem J.append {α : Type} {E : Enc α} {xs ys : List α} {d t e by_ b n c : Nat} {x y : Operand} {zv : Value} {ats : Array TypeId} {H' : Hp} (hx : OpT Γ x (sIs b 0 n c)) (hn : n = xs.length) (hy : OpT Γ y (tSl E ys)) (ht : slB X.P t = some (e, E.sz, by_)) (ha : ats = #[t, t])
    (hz : zeroB X.P e = some zv) (hzs : zv.cells.size = E.sz) (hr : HRem ⟨b, e, cRow E xs c⟩ H H') (hb : (xs.length + ys.length) * by_ ≤ 140737488355328) (h63 : xs.length + ys.length ≤ 9223372036854775807) (hN : d < X.N)
    (next : ∀ b' c', J X ops Q rest ((d, sIs b' 0 (xs ++ ys).length c') :: Γ) (⟨b', e, cRow E (xs ++ ys) c'⟩ :: H')) :
    J X ops Q (⟨some d, .call { callee := .builtin .append, args := #[x, y], argTypes := ats }, ty, pos, af, none⟩ :: rest) Γ H := by
  intro a w hs0
  have hs := hs0.front hr
  unfold wpN
  rw [if_pos (wanted_none rfl _)]
  subst ha hn
  have h1 : a.eval x = .slice (some ⟨b, 0, none⟩) xs.length c := hx.ev (hs.on (slotOf x)) (fun _ h => h)
  obtain ⟨B, n, cB, h2, rfl, hcB, hcell⟩ := hy.ev (hs.on (slotOf y)) (fun _ h => h)
  obtain ⟨hu, i, hi, hsz, hby⟩ := slB_spec ht
  unfold zeroB at hz
  rw [hi] at hz
  have hz' : i.zero = some zv := hz
  obtain ⟨hb0, cur, hcur, hrow⟩ := hs.hp.1 _ (.head _)
  have hcur' : w.heap[b]? = some (.cells cur e (0, 0)) := hcur
  obtain ⟨g1, g2, g3⟩ := hrow
  have hlb : b < w.heap.size := (Array.getElem?_eq_some_iff.1 hcur').1
  have hxle : xs.length * E.sz ≤ cur.toList.length := by rw [g2]; exact Nat.mul_le_mul_right _ g1
  unfold Oper.wp
  by_cases h0 : ys = []
  · subst h0
    have hr0 : (execOp a.eval ⟨some d, .call { callee := .builtin .append, args := #[x, y], argTypes := #[t, t] }, ty, pos, af, none⟩).run X.P w = .ok (.value (.slice (some ⟨b, 0, none⟩) xs.length c)) w := by
      simp only [List.length_nil] at h2
      simp only [execOp, resolve, invoke, builtin, Sem.run_bind, Sem.run_pure, Result.andThen_ok, List.map_toArray, List.map_cons, List.map_nil, h1, h2, run_append_none hu hi _ B _ _ cB g1]
    rw [hr0]
    have hx0 : xs ++ ([] : List α) = xs := List.append_nil xs
    have := next b c
    rw [hx0] at this
    exact this _ _ (hs.put hN rfl)
  · obtain ⟨bb, o, rfl, hcs⟩ := hcell h0
    obtain ⟨news, h3, h4, h5, h6⟩ := slP_cells ys o hcs
    have hpos : 0 < ys.length := by cases ys with | nil => exact absurd rfl h0 | cons _ _ => simp
    have hnews : ∀ j v, news[j]? = some v → w.cell? ((⟨bb, o, none⟩ : Addr).add j) = some v := fun j v hv => by rw [add_at]; exact (h4 j v hv).1
    -- the row as it will read, in the world at hand
    have hnew := row_append (s := ⟨w, mask X.M0 (⟨b, e, cRow E xs c⟩ :: H')⟩) ⟨g1, g2, g3⟩ h3 h5
    by_cases hroom : xs.length + ys.length ≤ c
    · have hfit : xs.length * i.size + news.length ≤ cur.size := by
        rw [hsz, h3, ← Nat.add_mul]
        have : cur.size = c * E.sz := by simpa using g2
        rw [this]; exact Nat.mul_le_mul_right _ hroom
      have hrun := run_append_room (P := X.P) w t ty e i hu hi b xs.length c cur hcur' ⟨bb, o, none⟩ ys.length cB news (by rw [h3, hsz]) hnews h6 hroom hfit
      have hr0 : (execOp a.eval ⟨some d, .call { callee := .builtin .append, args := #[x, y], argTypes := #[t, t] }, ty, pos, af, none⟩).run X.P w = .ok (.value (.slice (some ⟨b, 0, none⟩) (xs.length + ys.length) c)) (w.setRow b (cur.toList.take (xs.length * i.size) ++ news ++ cur.toList.drop (xs.length * i.size + news.length)).toArray) := by
        simp only [execOp, resolve, invoke, builtin, Sem.run_bind, Sem.run_pure, Result.andThen_ok, List.map_toArray, List.map_cons, List.map_nil, h1, h2, hrun]
      rw [hr0]
      have hw := wrote_setRow hcur' rfl (cur.toList.take (xs.length * i.size) ++ news ++ cur.toList.drop (xs.length * i.size + news.length))
      have hcr : (cRow E (xs ++ ys) c).p (cur.toList.take (xs.length * i.size) ++ news ++ cur.toList.drop (xs.length * i.size + news.length)) ⟨w, mask X.M0 (⟨b, e, cRow E xs c⟩ :: H')⟩ := by
        rw [hsz]
        have hcs : cur.size = c * E.sz := by simpa using g2
        have q : (xs.length + ys.length) * E.sz ≤ c * E.sz := Nat.mul_le_mul_right _ hroom
        rw [Nat.add_mul] at q
        have l1 : (cur.toList.take (xs.length * E.sz) ++ news).length = (xs ++ ys).length * E.sz := by
          simp only [List.length_append, List.length_take, Array.length_toList, h3, Nat.add_mul]; omega
        have l2 : (cur.toList.take (xs.length * E.sz) ++ news).length + (cur.toList.drop (xs.length * E.sz + news.length)).length = c * E.sz := by
          rw [l1]; simp only [List.length_append, List.length_drop, Array.length_toList, h3, Nat.add_mul]; omega
        exact rowP_mk l1 l2 (by simpa using hroom) hnew
      have hle : Le ⟨w, mask X.M0 (⟨b, e, cRow E xs c⟩ :: H')⟩ ⟨w.setRow b (cur.toList.take (xs.length * i.size) ++ news ++ cur.toList.drop (xs.length * i.size + news.length)).toArray, mask X.M0 (⟨b, e, cRow E xs c⟩ :: H')⟩ :=
        ⟨hw.size, fun k hks hk => hw.other k hks (fun q => hk (q ▸ .inr ⟨_, .head _, rfl⟩)), fun k _ hk => hk⟩
      have hs2 := hs.write (.here (R' := cRow E (xs ++ ys) c)) hw ((cRow E (xs ++ ys) c).up hle hcr)
      have := next b c
      exact this _ _ (hs2.put hN (by simp [tIs]))
    · have hrun := run_append_grow (P := X.P) w t ty e i zv hu hi hz' ⟨b, 0, none⟩ xs.length c (cur.toList.take (xs.length * E.sz)) (by rw [hsz]; simp at hxle ⊢; omega) (fun j v hv => by
          rw [add_at]
          rw [List.getElem?_take] at hv
          split at hv
          · simp only [World.cell?, hcur', Nat.zero_add]
            simpa using hv
          · cases hv) ⟨bb, o, none⟩ ys.length cB news (by rw [h3, hsz]) hnews (by omega) (by omega) (growslice_fits (by omega) (by rw [hby]; exact hb))
      have hge := grownCap_ge w (xs.length + ys.length) c e
      generalize hgc : grownCap w (xs.length + ys.length) c e = cap at hrun hge
      have hr0 : (execOp a.eval ⟨some d, .call { callee := .builtin .append, args := #[x, y], argTypes := #[t, t] }, ty, pos, af, none⟩).run X.P w = .ok (.value (.slice (some ⟨w.heap.size, 0, none⟩) (xs.length + ys.length) cap)) (w.drew.alloc (.cells ((cur.toList.take (xs.length * E.sz) ++ news) ++ (Builtin.zeroCells zv.cells (cap - (xs.length + ys.length))).toList).toArray e)) := by
        simp only [execOp, resolve, invoke, builtin, Sem.run_bind, Sem.run_pure, Result.andThen_ok, List.map_toArray, List.map_cons, List.map_nil, h1, h2, hrun]
        congr 3
        apply Array.ext'
        simp
      rw [hr0]
      have hs1 := hs.ext (w' := w.drew) (Below.refl _ w).drew
      have hcr : (cRow E (xs ++ ys) cap).p ((cur.toList.take (xs.length * E.sz) ++ news) ++ (Builtin.zeroCells zv.cells (cap - (xs.length + ys.length))).toList) ⟨w.drew, mask X.M0 (⟨b, e, cRow E xs c⟩ :: H')⟩ := by
        refine (cRow E (xs ++ ys) cap).up (Le.below _ (Below.refl _ w).drew) ?_
        have l1 : (cur.toList.take (xs.length * E.sz) ++ news).length = (xs ++ ys).length * E.sz := by
          simp only [List.length_append, List.length_take, h3, Nat.add_mul]; omega
        refine rowP_mk l1 ?_ (by simpa using hge) hnew
        rw [l1]
        have q : cap * E.sz = (xs.length + ys.length) * E.sz + (cap - (xs.length + ys.length)) * E.sz := by rw [← Nat.add_mul]; congr 1; omega
        rw [Nat.add_mul] at q
        simp only [List.length_append, Array.length_toList, zeroCells_size, hzs, Nat.add_mul]
        omega
      have hs2 := hs1.alloc (t := e) hcr
      have hs3 := sub_heap (.keep (fun _ _ h => h) (.drop (HSub.refl H'))) _ _ hs2
      have := next w.heap.size cap
      exact this _ _ (hs3.put hN (by simp [tIs]))

/-- 'append(nothing, xs...)' into a row of the call's own. -/
theorem J.append0 {α : Type} {E : Enc α} {ys : List α} {d t e by_ : Nat} {x y : Operand} {zv : Value} {ats : Array TypeId} (hx : OpT Γ x tZ) (hy : OpT Γ y (tSl E ys)) (h0 : ys ≠ []) (ht : slB X.P t = some (e, E.sz, by_)) (ha : ats = #[t, t])
    (hz : zeroB X.P e = some zv) (hzs : zv.cells.size = E.sz) (hb : ys.length * by_ ≤ 140737488355328) (h63 : ys.length ≤ 9223372036854775807) (hN : d < X.N)
    (next : ∀ b' c', J X ops Q rest ((d, sIs b' 0 ys.length c') :: Γ) (⟨b', e, cRow E ys c'⟩ :: H)) :
    J X ops Q (⟨some d, .call { callee := .builtin .append, args := #[x, y], argTypes := ats }, ty, pos, af, none⟩ :: rest) Γ H := by
  intro a w hs
  unfold wpN
  rw [if_pos (wanted_none rfl _)]
  subst ha
  obtain ⟨A, h1⟩ := hx.ev (hs.on (slotOf x)) (fun _ h => h)
  obtain ⟨B, n, c, h2, rfl, hc, hcell⟩ := hy.ev (hs.on (slotOf y)) (fun _ h => h)
  obtain ⟨hu, i, hi, hsz, hby⟩ := slB_spec ht
  unfold zeroB at hz
  rw [hi] at hz
  have hz' : i.zero = some zv := hz
  obtain ⟨b, o, rfl, hcs⟩ := hcell h0
  obtain ⟨news, h3, h4, h5, h6⟩ := slP_cells ys o hcs
  have hpos : 0 < ys.length := by cases ys with | nil => exact absurd rfl h0 | cons _ _ => simp
  obtain ⟨cap, more, hr, h7, h8⟩ := run_append_z (w := w) (ty := ty) hu hi hz' hsz hby hzs A ⟨b, o, none⟩ ys.length c news h3 (fun j v hv => by rw [add_at]; exact (h4 j v hv).1) hpos hb h63
  have hr0 : (execOp a.eval ⟨some d, .call { callee := .builtin .append, args := #[x, y], argTypes := #[t, t] }, ty, pos, af, none⟩).run X.P w = .ok (.value (.slice (some ⟨w.heap.size, 0, none⟩) ys.length cap)) (w.drew.alloc (.cells (news ++ more).toArray e)) := by
    simp only [execOp, resolve, invoke, builtin, Sem.run_bind, Sem.run_pure, Result.andThen_ok, List.map_toArray, List.map_cons, List.map_nil, h1, h2, hr]
  unfold Oper.wp
  rw [hr0]
  have hs1 := hs.ext (w' := w.drew) (Below.refl _ w).drew
  have hcr : (cRow E ys cap).p (news ++ more) ⟨w.drew, mask X.M0 H⟩ := (cRow E ys cap).up (Le.below _ (Below.refl _ w).drew) (rowP_mk h3 h8 h7 h5)
  have hs2 := hs1.alloc (t := e) hcr
  exact next w.heap.size cap _ _ (hs2.put hN rfl)

/-- copy into an own row, from its element k on. -/
theorem row_splice {α : Type} {E : Enc α} {xs ys : List α} {cap k : Nat} {cur news : List Value} {s : St} (hc : (cRow E xs cap).p cur s) (hl : news.length = ys.length * E.sz) (hn : ∀ i x, ys[i]? = some x → E.C x ((news.drop (i * E.sz)).take E.sz) s) (hk : k + ys.length ≤ xs.length) :
    (cRow E (xs.take k ++ ys ++ xs.drop (k + ys.length)) cap).p (cur.take (k * E.sz) ++ news ++ cur.drop (k * E.sz + ys.length * E.sz)) s := by
  obtain ⟨h1, h2, h3⟩ := hc
  have q : (k + ys.length) * E.sz ≤ cap * E.sz := Nat.mul_le_mul_right _ (by omega)
  rw [Nat.add_mul] at q
  refine ⟨by simp; omega, by simp [hl]; omega, fun i x hx => ?_⟩
  rcases Nat.lt_or_ge i k with r | r
  · rw [List.append_assoc, List.getElem?_append_left (by simp; omega), List.getElem?_take, if_pos r] at hx
    have := drop_take_splice (l := cur) (m := news) (o := k * E.sz) (i := i) (sz := E.sz) hl (by omega) (.inl (by have := row_room r (l := k * E.sz) rfl; omega))
    rw [this]; exact h3 i x hx
  · rcases Nat.lt_or_ge i (k + ys.length) with r2 | r2
    · rw [List.append_assoc, List.getElem?_append_right (by simp; omega), List.getElem?_append_left (by simp; omega)] at hx
      have hx' : ys[i - k]? = some x := by rw [List.length_take, Nat.min_eq_left (by omega)] at hx; exact hx
      have e1 : i * E.sz = (cur.take (k * E.sz)).length + (i - k) * E.sz := by
        rw [List.length_take, Nat.min_eq_left (by omega), ← Nat.add_mul]; congr 1; omega
      rw [List.append_assoc, e1, List.drop_length_add_append]
      have hr := row_room (show i - k < ys.length by omega) hl
      rw [List.drop_append_of_le_length (by omega), List.take_append_of_le_length (by simp; omega)]
      exact hn _ x hx'
    · rw [List.append_assoc, List.getElem?_append_right (by simp; omega), List.getElem?_append_right (by simp; omega), List.getElem?_drop] at hx
      have hx' : xs[i]? = some x := by
        simp only [List.length_take] at hx
        rwa [show k + ys.length + (i - min k xs.length - ys.length) = i by omega] at hx
      have := drop_take_splice (l := cur) (m := news) (o := k * E.sz) (i := i) (sz := E.sz) hl (by omega) (.inr (by rw [← Nat.add_mul]; exact Nat.mul_le_mul_right _ r2))
      rw [this]; exact h3 i x hx'

theorem J.copy {α : Type} {E : Enc α} {xs ys : List α} {d t e by_ b k n c cap : Nat} {x y : Operand} {ats : Array TypeId} {H' : Hp} (hx : OpT Γ x (sIs b (k * E.sz) n c)) (hy : OpT Γ y (tSl E ys)) (ht : slB X.P t = some (e, E.sz, by_)) (ha : ats = #[t, t])
    (hU : HUpd b e (cRow E xs cap) (cRow E (xs.take k ++ ys ++ xs.drop (k + ys.length)) cap) H H') (hn : ys.length ≤ n) (hk : k + ys.length ≤ xs.length) (hN : d < X.N)
    (next : J X ops Q rest ((d, tIs (.int .i64 ys.length)) :: Γ) H') :
    J X ops Q (⟨some d, .call { callee := .builtin .copy, args := #[x, y], argTypes := ats }, ty, pos, af, none⟩ :: rest) Γ H := by
  intro a w hs
  unfold wpN
  rw [if_pos (wanted_none rfl _)]
  subst ha
  have h1 : a.eval x = .slice (some ⟨b, k * E.sz, none⟩) n c := hx.ev (hs.on (slotOf x)) (fun _ h => h)
  obtain ⟨B, m, cB, h2, rfl, hcB, hcell⟩ := hy.ev (hs.on (slotOf y)) (fun _ h => h)
  obtain ⟨hu, i, hi, hsz, hby⟩ := slB_spec ht
  obtain ⟨hb0, cur, hcur, hrow⟩ := hs.hp.1 _ hU.mem
  have hcur' : w.heap[b]? = some (.cells cur e (0, 0)) := hcur
  have hrow' := hrow
  obtain ⟨g1, g2, g3⟩ := hrow'
  have hnews : ∃ news : List Value, news.length = ys.length * E.sz ∧ (Builtin.firstCells i.size ys.length (a.eval y)).run X.P w = .ok news.toArray w ∧ (∀ i x, ys[i]? = some x → E.C x ((news.drop (i * E.sz)).take E.sz) ⟨w, mask X.M0 H⟩) ∧ ∀ u ∈ news, u.oneCell' = true := by
    by_cases h0 : ys = []
    · subst h0
      refine ⟨[], by simp, ?_, by simp, by simp⟩
      rw [h2]
      cases B <;> simp [Builtin.firstCells, loadCells, loadCellsFrom]
    · obtain ⟨bb, o, rfl, hcs⟩ := hcell h0
      obtain ⟨news, h3, h4, h5, h6⟩ := slP_cells ys o hcs
      refine ⟨news, h3, ?_, h5, h6⟩
      rw [h2]
      exact run_firstCells_some (P := X.P) w i.size ys.length ⟨bb, o, none⟩ ys.length cB news (by rw [h3, hsz]) (fun j v hv => by rw [add_at]; exact (h4 j v hv).1)
  obtain ⟨news, h3, h4, h5, h6⟩ := hnews
  have q : (k + ys.length) * E.sz ≤ cap * E.sz := Nat.mul_le_mul_right _ (by omega)
  rw [Nat.add_mul] at q
  have hst := run_storeCells_at X.P b (k * E.sz) e news 0 cur w hcur' (by simp at g2; omega) h6
  simp only [Nat.add_zero] at hst
  rw [h3] at hst
  have hr0 : (execOp a.eval ⟨some d, .call { callee := .builtin .copy, args := #[x, y], argTypes := #[t, t] }, ty, pos, af, none⟩).run X.P w = .ok (.value (.int .i64 ys.length)) (w.setRow b (cur.toList.take (k * E.sz) ++ news ++ cur.toList.drop (k * E.sz + ys.length * E.sz)).toArray) := by
    have hm : Nat.min ys.length n = ys.length := Nat.min_eq_left hn
    have hlen : (Builtin.lenOf (a.eval y)).run X.P w = .ok ys.length w := by rw [h2]; rfl
    simp only [execOp, resolve, invoke, builtin, Sem.run_bind, Sem.run_pure, Result.andThen_ok, List.map_toArray, List.map_cons, List.map_nil, h1]
    simp only [Builtin.copy_, List.getElem?_toArray, List.getElem?_cons_zero, List.getElem?_cons_succ, Sem.run_bind, run_underlying hu, Result.andThen_ok, hlen, hm, sizeOf, typeInfo, run_program, hi, Sem.run_pure, h4, hst, goInt]
  unfold Oper.wp
  rw [hr0]
  have hw := wrote_setRow hcur' rfl (cur.toList.take (k * E.sz) ++ news ++ cur.toList.drop (k * E.sz + ys.length * E.sz))
  have hle : Le ⟨w, mask X.M0 H⟩ ⟨w.setRow b (cur.toList.take (k * E.sz) ++ news ++ cur.toList.drop (k * E.sz + ys.length * E.sz)).toArray, mask X.M0 H⟩ :=
    ⟨hw.size, fun k hks hk => hw.other k hks (fun q => hk (q ▸ .inr ⟨_, hU.mem, rfl⟩)), fun k _ hk => hk⟩
  have hs2 := hs.write hU hw ((cRow E _ cap).up hle (row_splice hrow h3 h5 hk))
  exact next _ _ (hs2.put hN rfl)

/-! ### Blocks that the caller lends -/
/-- The contract of a function that writes the block b, which its caller lends, and leaves all else as it was. -/
def CtrL (P : Program) (f : FuncId) (Ts : List Ty) (b : Nat) (bt : TypeId) (R R' : CTy) (T : Ty) : Prop :=
  ∀ (w0 : World) (M0 : Nat → Prop), (∀ k, M0 k → k < w0.heap.size) → M0 b → ∀ cs, w0.heap[b]? = some (.cells cs bt (0, 0)) → R.p cs.toList ⟨w0, M0⟩ → ∀ vs, vsP Ts vs ⟨w0, M0⟩ →
    Calls P f vs.toArray w0 fun e w' => ∃ v cs', e = .returned v ∧ Kept [b] w0 w' ∧ w'.heap[b]? = some (.cells cs' bt (0, 0)) ∧ R'.p cs'.toList ⟨w', M0⟩ ∧ T.p v ⟨w', M0⟩

/-- What is owed at the end by a function that was lent the block b. -/
def PostL (X : Cx) (b : Nat) (bt : TypeId) (R' : CTy) (T : Ty) : Ending → World → Prop := fun e w' => ∃ v cs', e = .returned v ∧ Kept X.L X.w0 w' ∧ w'.heap[b]? = some (.cells cs' bt (0, 0)) ∧ R'.p cs'.toList ⟨w', fun k => X.M0 k ∨ k = b⟩ ∧ T.p v ⟨w', fun k => X.M0 k ∨ k = b⟩

theorem CtrL.of {P : Program} {f N : Nat} {fn : Func} {c : Code} {Ts : List Ty} {b : Nat} {bt : TypeId} {R R' : CTy} {T : Ty} (hf : P.funcs[f]? = some fn) (hb : fn.body = some c) (hN : fn.ntmps = N) (hl : Ts.length ≤ N)
    (h : ∀ w0 M0, JC ⟨P, w0, M0, [b], N, []⟩ c (bodyPost P fn (PostL ⟨P, w0, M0, [b], N, []⟩ b bt R' T)) (gam0 0 Ts) [⟨b, bt, R⟩]) : CtrL P f Ts b bt R R' T := by
  intro w0 M0 hM hMb cs hcs hR vs hvs
  have hMe : (fun k => (M0 k ∧ k ≠ b) ∨ k = b) = M0 := by
    funext k
    by_cases hk : k = b
    · subst hk; simp [hMb]
    · simp [hk]
  refine Calls.mono (calls_of_wp (R := PostL ⟨P, w0, fun k => M0 k ∧ k ≠ b, [b], N, []⟩ b bt R' T) hf hb ?_) fun e w' ⟨v, cs', h1, h2, h3, h4, h5⟩ => ⟨v, cs', h1, h2, h3, by rw [← hMe]; exact h4, by rw [← hMe]; exact h5⟩
  subst hN
  have hM' : mask (fun k => M0 k ∧ k ≠ b) [⟨b, bt, R⟩] = M0 := by
    funext k
    refine propext ⟨fun h => ?_, fun h => ?_⟩
    · rcases h with h | ⟨e, he, rfl⟩
      · exact h.1
      · cases he with
        | head => exact hMb
        | tail _ he => cases he
    · by_cases hk : k = b
      · exact .inr ⟨_, .head _, hk.symm⟩
      · exact .inl ⟨h, hk⟩
  refine h w0 (fun k => M0 k ∧ k ≠ b) _ _ ⟨?_, rfl, fun k hk => ⟨hM k hk.1, by simpa using hk.2⟩, Kept.refl _ _, fun i T hi => ?_, ⟨fun e he => ?_, List.pairwise_singleton ..⟩⟩
  · have := hvs.length
    simp; omega
  · obtain ⟨_, v, hv, hT⟩ := slots0 0 hvs i T hi
    show T.p _ ⟨w0, mask (fun k => M0 k ∧ k ≠ b) [⟨b, bt, R⟩]⟩
    rw [hM']
    have hlt : i < vs.length := (List.getElem?_eq_some_iff.1 hv).1
    have : (vs.toArray ++ Array.replicate (fn.ntmps - vs.toArray.size) undef).getD i undef = v := by
      rw [Array.getD_eq_getD_getElem?, Array.getElem?_append_left (by simpa using hlt)]
      simp at hv
      simp [hv]
    rw [this]; exact hT
  · cases he with
    | head =>
      refine ⟨.inr (.head _), cs, hcs, ?_⟩
      show R.p cs.toList ⟨w0, mask (fun k => M0 k ∧ k ≠ b) [⟨b, bt, R⟩]⟩
      rw [hM']; exact hR
    | tail _ he => cases he

theorem JQ.retL {fn : Func} {b : Nat} {bt : TypeId} {R R' : CTy} {r : List ResultVar} {T : Ty} {v : Act → World → Value} (hb : (⟨b, bt, R⟩ : HEnt) ∈ H) (hR : ∀ cs s, R.p cs s → R'.p cs s)
    (hv : ∀ a w, Sat X Γ H a w → (results fn a.tmps).run X.P w = .ok (v a w) w ∧ T.p (v a w) ⟨w, mask X.M0 H⟩) (hD : X.Df = [] := by rfl) : JQ X (bodyPost X.P fn (PostL X b bt R' T)) .ret Γ H ∧ JQ X (bodyPost X.P fn (PostL X b bt R' T)) .normal Γ H := by
  have key : ∀ a w, Sat X Γ H a w → PostL X b bt R' T (.returned (v a w)) w := fun a w hs => by
    obtain ⟨_, cs, hc, hr⟩ := hs.hp.1 _ hb
    have hl : Le ⟨w, mask X.M0 H⟩ ⟨w, fun k => X.M0 k ∨ k = b⟩ := ⟨Nat.le_refl _, fun _ _ _ => rfl, fun k _ hk => by
      rcases hk with hk | rfl
      · exact .inl hk
      · exact .inr ⟨_, hb, rfl⟩⟩
    exact ⟨v a w, cs, rfl, hs.below, hc, R'.up hl (hR _ _ hr), T.up hl (hv a w hs).2⟩
  exact ⟨fun a w hs => ⟨hs.defers.trans hD, v a w, (hv a w hs).1, key a w hs⟩, fun a w hs => ⟨hs.defers.trans hD, v a w, (hv a w hs).1, key a w hs⟩⟩

theorem JQ.retL0 {fn : Func} {b : Nat} {bt : TypeId} {R R' : CTy} (hf : fn.results = #[]) (hb : (⟨b, bt, R⟩ : HEnt) ∈ H) (hR : ∀ cs s, R.p cs s → R'.p cs s) (hD : X.Df = [] := by rfl) : JQ X (bodyPost X.P fn (PostL X b bt R' tAny)) .ret Γ H ∧ JQ X (bodyPost X.P fn (PostL X b bt R' tAny)) .normal Γ H :=
  JQ.retL (r := []) (v := fun _ _ => .tuple #[]) hb hR (fun a w _ => ⟨results_none hf _ _ _, trivial⟩) hD
theorem JQ.retL1 {fn : Func} {b : Nat} {bt : TypeId} {R R' : CTy} {t : Nat} {T : Ty} (hf : fn.results = #[.tmp t]) (hb : (⟨b, bt, R⟩ : HEnt) ∈ H) (hR : ∀ cs s, R.p cs s → R'.p cs s) (hT : OpT Γ (.tmp t) T) (hD : X.Df = [] := by rfl) : JQ X (bodyPost X.P fn (PostL X b bt R' T)) .ret Γ H ∧ JQ X (bodyPost X.P fn (PostL X b bt R' T)) .normal Γ H :=
  JQ.retL (r := []) (v := fun a _ => a.tmps.getD t undef) hb hR (fun a w hs => ⟨results_tmp hf _ _ _, hT.ev (hs.on (slotOf (.tmp t))) (fun _ h => h)⟩) hD

/-- What a call enters: a function by name, or a function value with what it captured. -/
def tFn (f : FuncId) (cap : List Value) : Ty := tIs (.func (.func f) #[] cap.toArray)

theorem run_callL {f : FuncId} {cap : List Value} {fo : Operand} {xs : List Operand} {ats : Array TypeId} (hf : fnB X.P f = true) {a : Act} {w : World} (hv : a.eval fo = .func (.func f) #[] cap.toArray) {d : Option Nat} :
    (execOp a.eval ⟨d, .call { callee := .value fo, args := xs.toArray, argTypes := ats }, ty, pos, af, gd⟩).run X.P w = .ok (.enter f (xs.map a.eval ++ cap).toArray) w := by
  have h1 := run_callFunc hf ((xs.map a.eval).toArray ++ cap.toArray) w
  simp only [execOp, resolve, Deferred.ofValue, hv, invoke, Sem.run_bind, Sem.run_pure, Result.andThen_ok]
  simpa using h1

theorem J.callL {d f b : Nat} {bt : TypeId} {R R' : CTy} {fo : Operand} {cap : List Value} {xs : List Operand} {Ts Us : List Ty} {T : Ty} {ats : Array TypeId} {H' : Hp} (hf : fnB X.P f = true) (hfo : OpT Γ fo (tFn f cap)) (hc : CtrL X.P f (Ts ++ Us) b bt R R' T) (hx : OpTs Γ xs Ts) (hcap : ∀ s, vsP Us cap s)
    (hU : HUpd b bt R R' H H') (hN : d < X.N) (next : J X ops Q rest ((d, T) :: Γ) H') :
    J X ops Q (⟨some d, .call { callee := .value fo, args := xs.toArray, argTypes := ats }, ty, pos, af, none⟩ :: rest) Γ H := by
  intro a w hs
  unfold wpN
  rw [if_pos (wanted_none rfl _)]
  have h1 : a.eval fo = .func (.func f) #[] cap.toArray := hfo.ev (hs.on (slotOf fo)) (fun _ h => h)
  have hv := hx.ev (X := X) (hs.on (xs.flatMap slotOf)) (fun x hx i hi => List.mem_flatMap.2 ⟨x, hx, hi⟩)
  have happ : ∀ {Ts : List Ty} {vs : List Value} {s : St}, vsP Ts vs s → vsP Us cap s → vsP (Ts ++ Us) (vs ++ cap) s := by
    intro Ts
    induction Ts with
    | nil => intro vs s h1 h2; cases vs with | nil => exact h2 | cons _ _ => exact h1.elim
    | cons T Ts ih => intro vs s h1 h2; cases vs with | nil => exact h1.elim | cons v vs => exact ⟨h1.1, ih h1.2 h2⟩
  obtain ⟨hb0, cs, hcs, hr⟩ := hs.hp.1 _ hU.mem
  have h := hc w _ (mask_lt (hs.on [])) (.inr ⟨_, hU.mem, rfl⟩) cs hcs hr _ (happ hv (hcap _))
  unfold Oper.wp
  rw [run_callL hf h1]
  refine Calls.mono h ?_
  rintro e w' ⟨v, cs', rfl, hk, hcs', hR', hT⟩
  have hw : Wrote b bt cs'.toList w w' := ⟨hk.os, hk.tape, hk.output, hk.size, by simpa using hcs', fun k hkl hne => hk.block k hkl (by simpa using hne)⟩
  have hm := hU.mask X.M0
  have hs2 := hs.write hU hw hR'
  exact next _ _ (hs2.put hN (by rw [hm]; exact hT))

end Go.Rt
