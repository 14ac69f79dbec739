/- The logic of the walks, part E: rows of elements that the call itself has made, literals of slices, boxes. Conditions: none; nothing of a program stands here. -/
import Derived.Test.YtkpmcldbcljkfaaRtD
set_option linter.unusedVariables false
set_option linter.unusedSimpArgs false
namespace Go.Rt
open Go Go.RowKit

variable {X : Cx} {ops : Array Oper} {Q : Exit → Act → World → Prop} {rest : List Oper} {Γ : Gam} {H : Hp}
variable {dst : Option Tmp} {ty : TypeId} {pos : String} {af : Array Edge} {gd : Option (Nat × Bool)}

theorem ltN {d N : Nat} (h : Nat.blt d N = true) : d < N := nat_blt.1 h
theorem w64 {z : Int} (h0 : -9223372036854775808 ≤ z) (h1 : z ≤ 9223372036854775807) : IntKind.i64.wrap z = z := by rw [IntKind.wrap_i64]; omega

theorem OpT.iff {x : Operand} {T : Ty} {c : Prop} (hc : c) (h : OpT Γ x (tIf c T)) : OpT Γ x T := .sub h fun _ _ h => h.1 hc
/-- Of two conditions the first one holds. -/
theorem OpT.iffr {x : Operand} {T : Ty} {c c' : Prop} (hc : c) (h : OpT Γ x (tIf (c ∧ c') T)) : OpT Γ x (tIf c' T) := .sub h fun _ _ h => ⟨fun h' => h.1 ⟨hc, h'⟩, fun h' => h.2 fun q => h' q.2⟩
theorem OpT.any {x : Operand} {T : Ty} (h : OpT Γ x T) : OpT Γ x tAny := .sub h fun _ _ _ => trivial

/-- 'a && b': b is looked at only where a holds. -/
theorem ot_and2 {c x y : Operand} {g h : Bool} (hc : OpT Γ c (tIs (.bool g))) (hx : OpT Γ x (tIf (g = true) (tIs (.bool h)))) (hy : OpT Γ y (tIs (.bool false))) : OpTy X Γ H ⟨dst, .pick c x y, ty, pos, af, gd⟩ (tIs (.bool (g && h))) := by
  refine ot_pick hc (fun hg => ?_) (fun hg => ?_)
  · subst hg; exact .sub hx fun v s q => by have := q.1 rfl; simpa using this
  · subst hg; exact hy
theorem ot_or2 {c x y : Operand} {g h : Bool} (hc : OpT Γ c (tIs (.bool g))) (hx : OpT Γ x (tIs (.bool true))) (hy : OpT Γ y (tIf (g = false) (tIs (.bool h)))) : OpTy X Γ H ⟨dst, .pick c x y, ty, pos, af, gd⟩ (tIs (.bool (g || h))) := by
  refine ot_pick hc (fun hg => ?_) (fun hg => ?_)
  · subst hg; exact hx
  · subst hg; exact .sub hy fun v s q => by have := q.1 rfl; simpa using this

/-! ### Boxes -/
theorem J.boxV {α : Type} {E : Enc α} {z : α} {d : Nat} {t : TypeId} {x : Operand} (hx : OpT Γ x (tV E z)) (hN : d < X.N)
    (next : ∀ b, J X ops Q rest ((d, pOwn b 0) :: Γ) (⟨b, t, cEnc E z⟩ :: H)) : J X ops Q (⟨some d, .box t x, ty, pos, af, none⟩ :: rest) Γ H :=
  J.box hx (fun _ _ h => h.2) hN next
/-- A box of one cell. -/
theorem J.boxS {T : Ty} {d : Nat} {t : TypeId} {x : Operand} (hx : OpT Γ x T) (h1 : ∀ v s, T.p v s → Value.cells v = #[v] ∧ v.oneCell' = true) (hN : d < X.N)
    (next : ∀ b, J X ops Q rest ((d, pOwn b 0) :: Γ) (⟨b, t, cTs [T]⟩ :: H)) : J X ops Q (⟨some d, .box t x, ty, pos, af, none⟩ :: rest) Γ H :=
  J.box hx (fun v s h => by obtain ⟨h2, h3⟩ := h1 v s h; show cellsP [T] v.cells.toList s; rw [h2]; exact ⟨h, h3, trivial⟩) hN next

/-! ### Rows -/
def rowP {α : Type} (E : Enc α) (xs : List α) (cap : Nat) (cs : List Value) (s : St) : Prop :=
  xs.length ≤ cap ∧ cs.length = cap * E.sz ∧ ∀ i x, xs[i]? = some x → E.C x ((cs.drop (i * E.sz)).take E.sz) s
def cRow {α : Type} (E : Enc α) (xs : List α) (cap : Nat) : CTy := ⟨rowP E xs cap, fun hl ⟨h1, h2, h3⟩ => ⟨h1, h2, fun i x hx => E.up hl (h3 i x hx)⟩⟩

theorem row_room {i m sz l : Nat} (h : i < m) (hl : l = m * sz) : i * sz + sz ≤ l := by
  subst hl
  have : (i + 1) * sz ≤ m * sz := Nat.mul_le_mul_right _ h
  rw [Nat.add_mul] at this; omega

/-- Reading an element of several cells. -/
theorem row_agg {α : Type} {E : Enc α} {xs : List α} {cap i : Nat} {x : α} (hE : E.ag = true) (hx : xs[i]? = some x) : ∀ cs s, (cRow E xs cap).p cs s → 0 + i * E.sz + E.sz ≤ cs.length ∧ (tV E x).p (.agg ((cs.drop (0 + i * E.sz)).take E.sz).toArray) s := by
  rintro cs s ⟨h1, h2, h3⟩
  have hlt := (List.getElem?_eq_some_iff.1 hx).1
  rw [Nat.zero_add]
  exact ⟨row_room (show i < cap by omega) h2, hE.symm, by simpa [Value.cells] using h3 i x hx⟩
/-- Reading an element of one cell. -/
theorem row_scal {α : Type} {E : Enc α} {xs : List α} {cap i : Nat} {x : α} (hE : E.sz = 1) (hV : ∀ v s, E.C x [v] s → (tV E x).p v s) (hx : xs[i]? = some x) : ∀ cs s, (cRow E xs cap).p cs s → ∃ v, cs[0 + i * 1]? = some v ∧ (tV E x).p v s := by
  rintro cs s ⟨h1, h2, h3⟩
  have hlt := (List.getElem?_eq_some_iff.1 hx).1
  have h := h3 i x hx
  rw [hE] at h h2
  simp only [Nat.mul_one, Nat.zero_add] at *
  have hl : i < cs.length := by omega
  rw [List.drop_eq_getElem_cons hl] at h
  simp only [List.take_succ_cons, List.take_zero] at h
  exact ⟨cs[i], List.getElem?_eq_getElem hl, hV _ _ h⟩

theorem drop_take_splice {l m : List Value} {o n i sz : Nat} (hm : m.length = n) (ho : o + n ≤ l.length) (h : i * sz + sz ≤ o ∨ o + n ≤ i * sz) :
    ((l.take o ++ m ++ l.drop (o + n)).drop (i * sz)).take sz = (l.drop (i * sz)).take sz := by
  apply List.ext_getElem?
  intro k
  simp only [List.getElem?_take, List.getElem?_drop]
  split
  · rename_i hk
    rcases h with h | h
    · rw [List.append_assoc, List.getElem?_append_left (by simp; omega), List.getElem?_take, if_pos (by omega)]
    · rw [List.getElem?_append_right (by simp; omega), List.getElem?_drop]
      congr 1
      simp
      omega
  · rfl

/-- Writing an element. -/
theorem row_set {α : Type} {E : Enc α} {xs : List α} {cap i : Nat} {x : α} (hi : i < xs.length) : ∀ cs v s, (cRow E xs cap).p cs s → (tV E x).p v s →
    v.cells.size = E.sz ∧ 0 + i * E.sz + E.sz ≤ cs.length ∧ (∀ u ∈ v.cells.toList, u.oneCell' = true) ∧ (cRow E (xs.set i x) cap).p (cs.take (0 + i * E.sz) ++ v.cells.toList ++ cs.drop (0 + i * E.sz + E.sz)) s := by
  rintro cs v s ⟨h1, h2, h3⟩ ⟨h4, h5⟩
  have hl := E.len h5
  have hr := row_room (show i < cap by omega) h2
  rw [Nat.zero_add]
  refine ⟨by simpa using hl, hr, E.one h5, by simpa using h1, ?_, fun j y hy => ?_⟩
  · simp at hl ⊢; omega
  · by_cases hij : i = j
    · subst hij
      rw [List.getElem?_set_self hi] at hy
      cases hy
      have : ((cs.take (i * E.sz) ++ v.cells.toList ++ cs.drop (i * E.sz + E.sz)).drop (i * E.sz)).take E.sz = v.cells.toList := by
        rw [List.append_assoc, List.drop_append_of_le_length (by simp; omega)]
        rw [List.drop_eq_nil_of_le (by simp; omega), List.nil_append, List.take_append_of_le_length (by omega), List.take_of_length_le (by omega)]
      rw [this]; exact h5
    · rw [List.getElem?_set_ne hij] at hy
      rw [drop_take_splice hl hr]
      · exact h3 j y hy
      · have hj := (List.getElem?_eq_some_iff.1 hy).1
        rcases Nat.lt_or_ge j i with q | q
        · left
          have : (j + 1) * E.sz ≤ i * E.sz := Nat.mul_le_mul_right _ q
          rw [Nat.add_mul] at this; omega
        · right
          have : (i + 1) * E.sz ≤ j * E.sz := Nat.mul_le_mul_right _ (by omega)
          rw [Nat.add_mul] at this; omega

theorem made_row {zero : Array Value} {n : Nat} (i : Nat) (hi : i < n) :
    ((((Array.range (n * zero.size)).map (zero[· % zero.size]!)).toList.drop (i * zero.size)).take zero.size) = zero.toList := by
  apply List.ext_getElem?
  intro k
  simp only [List.getElem?_take, List.getElem?_drop]
  by_cases hk : k < zero.size
  · rw [if_pos hk]
    have hlt : i * zero.size + k < n * zero.size := by
      have : (i + 1) * zero.size ≤ n * zero.size := Nat.mul_le_mul_right _ hi
      rw [Nat.add_mul] at this; omega
    have hmod : (i * zero.size + k) % zero.size = k := by rw [Nat.add_comm, Nat.add_mul_mod_self_right, Nat.mod_eq_of_lt hk]
    simp [hlt, hmod, hk]
  · rw [if_neg hk, List.getElem?_eq_none (by simpa using hk)]

theorem J.make {α : Type} {E : Enc α} {z : α} {d t e by_ : Nat} {lx cx : Operand} {kl kc : IntKind} {n : Nat} {zv : Value} (ht : slB X.P t = some (e, E.sz, by_)) (hl : OpT Γ lx (tIs (.int kl n))) (hc : OpT Γ cx (tIs (.int kc n)))
    (hz : zeroB X.P e = some zv) (hE : ∀ s, E.C z zv.cells.toList s) (hsz : 0 < E.sz) (hb : by_ * n ≤ 281474976710656) (h63 : n ≤ 9223372036854775807) (hN : d < X.N)
    (next : ∀ b, J X ops Q rest ((d, sIs b 0 n n) :: Γ) (⟨b, e, cRow E (List.replicate n z) n⟩ :: H)) : J X ops Q (⟨some d, .makeSlice t lx cx, ty, pos, af, none⟩ :: rest) Γ H := by
  intro a w hs
  unfold wpN
  rw [if_pos (wanted_none rfl _)]
  have h1 : a.eval lx = .int kl n := hl.ev (hs.on (slotOf lx)) (fun _ h => h)
  have h2 : a.eval cx = .int kc n := hc.ev (hs.on (slotOf cx)) (fun _ h => h)
  obtain ⟨hu, i, hi, hisz, hby⟩ := slB_spec ht
  have hzs : zv.cells.size = E.sz := by have := E.len (hE ⟨w, mask X.M0 H⟩); simpa using this
  unfold zeroB at hz
  rw [hi] at hz
  have hz' : i.zero = some zv := hz
  have hb' : (i.bytes : Int) * (n : Int) ≤ 281474976710656 := by
    have h : ((by_ * n : Nat) : Int) ≤ 281474976710656 := by omega
    rw [hby]; rwa [Int.natCast_mul] at h
  have hrun := run_make (P := X.P) w t e i zv hu hi hz' kl kc (n : Int) (n : Int) (by omega) (Int.le_refl _) hb' (by omega)
  have hrow : (cRow E (List.replicate n z) n).p ((madeCells zv.cells (n * i.size)).toList) ⟨w, mask X.M0 H⟩ := by
    refine ⟨by simp, by simp [madeCells, hisz], fun j x hx => ?_⟩
    have hj : j < n := by have := (List.getElem?_eq_some_iff.1 hx).1; simpa using this
    have hxz : x = z := by
      rw [List.getElem?_replicate, if_pos hj] at hx
      exact (Option.some.inj hx).symm
    subst hxz
    have := made_row (zero := zv.cells) (n := n) j hj
    rw [hzs] at this
    simp only [madeCells, hisz, hzs]
    rw [this]
    exact hE _
  have ha := hs.alloc (t := e) hrow
  unfold Oper.wp
  have hr2 : (execOp a.eval ⟨some d, .makeSlice t lx cx, ty, pos, af, none⟩).run X.P w = .ok (.value (.slice (some ⟨w.heap.size, 0, none⟩) n n)) (w.alloc (.cells (madeCells zv.cells (n * i.size)).toList.toArray e)) := by
    simp only [Int.toNat_natCast] at hrun
    simp [execOp, h1, h2, hrun]
  rw [hr2]
  exact next _ _ _ (ha.put hN rfl)

/-! ### An own row is handed on: it is not written any more -/
inductive HRem (e : HEnt) : Hp → Hp → Prop
  | here {H : Hp} : HRem e (e :: H) H
  | there {e' : HEnt} {H H' : Hp} (h : HRem e H H') : HRem e (e' :: H) (e' :: H')
theorem HRem.mem {e : HEnt} {H H' : Hp} (h : HRem e H H') : e ∈ H := by
  induction h with
  | here => exact .head _
  | there _ ih => exact .tail _ ih
theorem HRem.sub {e : HEnt} {H H' : Hp} (h : HRem e H H') : HSub H H' := by
  induction h with
  | here => exact .drop (HSub.refl _)
  | there _ ih => exact .keep (fun _ _ h => h) ih
theorem HRem.ne {e : HEnt} {H H' : Hp} (h : HRem e H H') (hp : (H.map (·.b)).Pairwise (· ≠ ·)) : ∀ e' ∈ H', e'.b ≠ e.b := by
  induction h with
  | here => intro e' he' q; exact List.rel_of_pairwise_cons hp (List.mem_map.2 ⟨e', he', rfl⟩) q.symm
  | there h0 ih =>
    rename_i e0 H0 H1
    intro e' he'
    cases he' with
    | head => exact List.rel_of_pairwise_cons hp (List.mem_map.2 ⟨_, h0.mem, rfl⟩)
    | tail _ he' => exact ih hp.of_cons e' he'

def setTs (Γ : Gam) (T : Ty) : List Nat → Gam
  | [] => Γ
  | t :: ts => (t, T) :: setTs Γ T ts

theorem setTs_look {Γ : Gam} {T U : Ty} : ∀ {ts : List Nat} {i : Nat}, look (setTs Γ T ts) i = some U → (i ∈ ts ∧ U = T) ∨ look Γ i = some U
  | [], _, h => .inr h
  | t :: ts, i, h => by
    rw [setTs, look_cons] at h
    cases hb : Nat.beq t i with
    | true => rw [hb] at h; cases h; exact .inl ⟨by rw [nat_beq.1 hb]; exact .head _, rfl⟩
    | false =>
      rw [hb] at h
      rcases setTs_look h with ⟨h1, h2⟩ | h1
      · exact .inl ⟨.tail _ h1, h2⟩
      · exact .inr h1

/-- The slots ts hold the slice (from element k on, n elements) of the own row b: from here on it is read alone. -/
theorem sub_freeze {α : Type} {E : Enc α} {xs : List α} {b e cap c k n : Nat} {H' : Hp} (ts : List Nat) (hts : ∀ t ∈ ts, look Γ t = some (sIs b (k * E.sz) n c)) (hr : HRem ⟨b, e, cRow E xs cap⟩ H H') (hn : k + n ≤ xs.length) (hc : n ≤ c ∨ cap ≤ c) :
    ∀ a w, Sat X Γ H a w → Sat X (setTs Γ (tSl E ((xs.drop k).take n)) ts) H' a w := fun a w hs => by
  have hs' := sub_heap hr.sub a w hs
  refine ⟨hs'.size, hs'.defers, hs'.m0, hs'.below, fun i U hU => ?_, hs'.hp⟩
  rcases setTs_look hU with ⟨hi, rfl⟩ | hU
  · have hv : a.tmps.getD i undef = .slice (some ⟨b, k * E.sz, none⟩) n c := hs.slots i _ (hts i hi)
    obtain ⟨hb0, cs, hcs, h1, h2, h3⟩ := hs.hp.1 _ hr.mem
    have hnm : ¬ mask X.M0 H' b := by
      rintro (hm | ⟨e', he', hb⟩)
      · have h4 := hs.m0 b hm
        have hb0' : X.w0.heap.size ≤ b ∨ b ∈ X.L := hb0
        rcases hb0' with q | q
        · omega
        · exact h4.2 q
      · exact hr.ne hs.hp.2 e' he' hb
    refine ⟨some ⟨b, k * E.sz, none⟩, n, c, hv, by simp; omega, by omega, fun _ => ⟨b, k * E.sz, rfl, fun j x hx => ?_⟩⟩
    rw [List.getElem?_take] at hx
    split at hx
    · rw [List.getElem?_drop] at hx
      refine ⟨_, E.up (mask_le fun e' he' => let ⟨e2, h4, h5, _⟩ := hr.sub.mem e' he'; ⟨e2, h4, h5⟩) (h3 _ x hx), fun m u hu => ⟨?_, hnm⟩⟩
      rw [List.getElem?_take] at hu
      split at hu
      · rw [List.getElem?_drop] at hu
        have : k * E.sz + j * E.sz + m = (k + j) * E.sz + m := by rw [Nat.add_mul]
        have hcs' : w.heap[b]? = some (.cells cs e (0, 0)) := hcs
        simp only [World.cell?, hcs', this]
        simpa using hu
      · cases hu
    · cases hx
  · exact hs'.slots i U hU

/-! ### A literal of a slice -/
inductive PartsT (Γ : Gam) {α : Type} (E : Enc α) : Nat → List (Nat × Operand) → List α → Prop
  | nil {i : Nat} : PartsT Γ E i [] []
  | cons {i : Nat} {x : Operand} {z : α} {ps : List (Nat × Operand)} {zs : List α} (h : OpT Γ x (tV E z)) (hs : PartsT Γ E (i + 1) ps zs) : PartsT Γ E i ((i, x) :: ps) (z :: zs)

theorem PartsT.length {α : Type} {E : Enc α} {i : Nat} {ps : List (Nat × Operand)} {zs : List α} (h : PartsT Γ E i ps zs) : ps.length = zs.length := by
  induction h with
  | nil => rfl
  | cons _ _ ih => simp [ih]

theorem fold_set (v : List Value) : ∀ (k : Nat) (cs : List Value) (off : Nat), off + k + v.length ≤ cs.length →
    ((v.zipIdx k).foldl (fun (cs : Array Value) (p : Value × Nat) => cs.setIfInBounds (off + p.2) p.1) cs.toArray) = (cs.take (off + k) ++ v ++ cs.drop (off + k + v.length)).toArray := by
  induction v with
  | nil => intro k cs off _; simp
  | cons u v ih =>
    intro k cs off h
    simp only [List.length_cons] at h
    simp only [List.zipIdx_cons, List.foldl_cons, List.setIfInBounds_toArray]
    rw [ih (k + 1) (cs.set (off + k) u) off (by simp; omega)]
    congr 1
    have e1 : (cs.set (off + k) u).take (off + (k + 1)) = cs.take (off + k) ++ [u] := by
      rw [← Nat.add_assoc, List.take_succ_eq_append_getElem (by simp; omega)]
      rw [List.getElem_set_self]
      congr 1
      apply List.ext_getElem?
      intro j
      rw [List.getElem?_take, List.getElem?_take]
      split
      · rw [List.getElem?_set_ne (by omega)]
      · rfl
    have e2 : (cs.set (off + k) u).drop (off + (k + 1) + v.length) = cs.drop (off + k + (v.length + 1)) := by
      apply List.ext_getElem?
      intro j
      rw [List.getElem?_drop, List.getElem?_drop, List.getElem?_set_ne (by omega)]
      congr 1
      omega
    rw [e1, e2]
    simp

theorem fill_row {α : Type} {E : Enc α} {a : Act} {s : St} : ∀ {ps : List (Nat × Operand)} {zs : List α} {i : Nat}, PartsT Γ E i ps zs → (∀ x z, OpT Γ x (tV E z) → (∃ j, (j, x) ∈ ps) → (tV E z).p (a.eval x) s) → ∀ (cells : List Value) (n : Nat), cells.length = n * E.sz → i + ps.length ≤ n →
    ∃ out : List Value, Instr.fill (fun i => some (i * E.sz, E.sz)) cells.toArray (ps.map fun p => (p.1, a.eval p.2)) = some out.toArray ∧ out.length = n * E.sz ∧ (∀ j, j < i → (out.drop (j * E.sz)).take E.sz = (cells.drop (j * E.sz)).take E.sz) ∧ (∀ j z, zs[j]? = some z → E.C z ((out.drop ((i + j) * E.sz)).take E.sz) s) := by
  intro ps zs i h
  induction h with
  | nil => intro _ cells n hn _; exact ⟨cells, rfl, hn, fun _ _ => rfl, fun j z hz => by simp at hz⟩
  | cons h _ ih =>
    rename_i i x z ps zs _
    intro hev cells n hn hle
    simp only [List.length_cons] at hle
    have hv := hev x z h ⟨i, .head _⟩
    have hlen := E.len hv.2
    have hroom := row_room (show i < n by omega) hn
    have hsz : (a.eval x).cells.size = E.sz := by simpa using hlen
    have hset := fold_set (a.eval x).cells.toList 0 cells (i * E.sz) (by omega)
    rw [Nat.add_zero, hlen] at hset
    obtain ⟨out, h1, h2, h3, h4⟩ := ih (fun y q hq hm => hev y q hq (by obtain ⟨j, hj⟩ := hm; exact ⟨j, .tail _ hj⟩)) (cells.take (i * E.sz) ++ (a.eval x).cells.toList ++ cells.drop (i * E.sz + E.sz)) n (by simp [hlen] at *; omega) (by omega)
    refine ⟨out, ?_, h2, fun j hj => ?_, fun j q hq => ?_⟩
    · simp only [List.map_cons, Instr.fill]
      rw [if_neg (by simp [hsz]; omega)]
      rw [← h1]
      congr 1
      have e := hset
      rw [← Array.foldl_toList]
      simp only [Array.toList_zipIdx]
      exact e
    · rw [h3 j (by omega)]
      refine drop_take_splice hlen hroom (.inl ?_)
      have : (j + 1) * E.sz ≤ i * E.sz := Nat.mul_le_mul_right _ hj
      rw [Nat.add_mul] at this; omega
    · cases j with
      | zero =>
        simp at hq; subst hq
        rw [Nat.add_zero, h3 i (by omega)]
        have : ((cells.take (i * E.sz) ++ (a.eval x).cells.toList ++ cells.drop (i * E.sz + E.sz)).drop (i * E.sz)).take E.sz = (a.eval x).cells.toList := by
          rw [List.append_assoc, List.drop_append_of_le_length (by simp; omega)]
          rw [List.drop_eq_nil_of_le (by simp; omega), List.nil_append, List.take_append_of_le_length (by omega), List.take_of_length_le (by omega)]
        rw [this]; exact hv.2
      | succ j =>
        have := h4 j q (by simpa using hq)
        rwa [show i + 1 + j = i + (j + 1) by omega] at this

theorem ot_buildSlice {α : Type} {E : Enc α} {zs : List α} {t e by_ n : Nat} {ps : List (Nat × Operand)} {zv : Value} (ht : slB X.P t = some (e, E.sz, by_)) (hp : PartsT Γ E 0 ps zs) (hn : n = zs.length) (hz : zeroB X.P e = some zv) (hzs : zv.cells.size = E.sz) (hsz : 0 < E.sz) (hsm : n * E.sz ≤ 16777216) :
    OpTy X Γ H ⟨dst, .buildSlice t n ps.toArray, ty, pos, af, gd⟩ (tSl E zs) :=
  opTy_run fun a w hs => by
    obtain ⟨hu, i, hi, hisz, hby⟩ := slB_spec ht
    unfold zeroB at hz
    rw [hi] at hz
    have hz' : i.zero = some zv := hz
    have hev : ∀ x z, OpT Γ x (tV E z) → (∃ j, (j, x) ∈ ps) → (tV E z).p (a.eval x) ⟨w, mask X.M0 H⟩ := fun x z hx hm => by
      obtain ⟨j, hj⟩ := hm
      exact hx.ev hs (mem_slots (by simp [Op.operands]; exact ⟨j, hj⟩))
    have hlen := hp.length
    obtain ⟨out, h1, h2, _, h4⟩ := fill_row hp hev ((Array.range (n * E.sz)).map (zv.cells[· % zv.cells.size]!)).toList n (by simp) (by omega)
    have hnb : ∀ k, k < w.heap.size → (w.alloc (.cells out.toArray e)).heap[k]? = w.heap[k]? := fun k hk => Below.heap_alloc w _ k hk
    have hb : Below w.heap.size w (w.alloc (.cells out.toArray e)) := (Below.refl _ w).alloc (Nat.le_refl _) _
    refine ⟨.slice (some ⟨w.heap.size, 0, none⟩) n n, w.alloc (.cells out.toArray e), ?_, hb, _, n, n, rfl, hn, Nat.le_refl _, fun _ => ⟨w.heap.size, 0, rfl, fun j z hzj => ⟨_, E.up (Le.below _ hb) (h4 j z hzj), fun m u hu => ⟨?_, ?_⟩⟩⟩⟩
    · have hg : ¬ 16777216 < n * E.sz := by omega
      simp only [execOp, Instr.buildSlice, Sem.run_bind, run_underlying hu, Result.andThen_ok, sizeOf, typeInfo, run_program, hi, Sem.run_pure, hisz, Sem.run_ite, if_neg hg, zeroValue, hz', newRow]
      have hfill : ∀ z : Array Value, (n * E.sz ≠ 0 → z = zv.cells) → Instr.fill (fun i => some (i * E.sz, E.sz)) ((Array.range (n * E.sz)).map (z[· % z.size]!)) (ps.map fun p => (p.1, a.eval p.2)) = some out.toArray := by
        intro z hz0
        rw [← h1]
        by_cases h0 : n * E.sz = 0
        · rw [h0]; simp only [Array.range_zero', Array.map_empty]
        · rw [hz0 h0]
      by_cases h0 : n * E.sz = 0
      · rw [if_pos h0]
        have := hfill #[] (fun h => absurd h0 h)
        simp only [Sem.run_pure, Result.andThen_ok, List.map_toArray, this, Sem.run_bind]
        rfl
      · rw [if_neg h0]
        have := hfill zv.cells (fun _ => rfl)
        simp only [Sem.run_bind, Sem.run_pure, run_program, Result.andThen_ok, hi, hz', List.map_toArray, this]
        rfl
    · rw [Nat.zero_add] at *
      rw [List.getElem?_take] at hu
      split at hu
      · rw [List.getElem?_drop] at hu
        simp only [World.cell?, heap_alloc_new]
        simpa using hu
      · cases hu
    · exact fun hm => absurd (mask_lt hs _ hm) (Nat.lt_irrefl _)

end Go.Rt
