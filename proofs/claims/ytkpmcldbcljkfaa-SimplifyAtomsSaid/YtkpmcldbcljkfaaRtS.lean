/- The logic of the walks, part S: a statement whose order is open and that stores once, where some operations may run on either side of the store. Conditions: none; nothing of a program stands here. -/
import Derived.Test.YtkpmcldbcljkfaaRtM
set_option linter.unusedVariables false
set_option linter.unusedSimpArgs false
namespace Go.Rt
open Go Go.RowKit

variable {X : Cx} {Q : Exit → Act → World → Prop} {Γ : Gam} {H : Hp}

theorem look_append {A B : Gam} {x : Nat} : look (A ++ B) x = (look A x).or (look B x) := by
  induction A with
  | nil => rfl
  | cons p A ih =>
    obtain ⟨j, T⟩ := p
    rw [List.cons_append, look_cons, look_cons]
    cases Nat.beq j x with
    | true => rfl
    | false => exact ih
theorem look_mem {A : Gam} {x : Nat} {T : Ty} (h : look A x = some T) : (x, T) ∈ A := by
  induction A with
  | nil => cases h
  | cons p A ih =>
    obtain ⟨j, U⟩ := p
    rw [look_cons] at h
    cases hb : Nat.beq j x with
    | true => rw [hb] at h; cases h; rw [nat_beq.1 hb]; exact .head _
    | false => rw [hb] at h; exact .tail _ (ih h)
theorem look_filter {A : Gam} {p : Nat → Bool} {x : Nat} : look (A.filter fun q => p q.1) x = if p x then look A x else none := by
  induction A with
  | nil => simp [look]
  | cons q A ih =>
    obtain ⟨j, T⟩ := q
    rw [look_cons]
    cases hb : Nat.beq j x with
    | true =>
      have hj := nat_beq.1 hb
      subst hj
      by_cases hp : p j = true
      · rw [List.filter_cons_of_pos (by simpa using hp), look_cons, Nat.beq_refl, if_pos hp]; rfl
      · rw [List.filter_cons_of_neg (by simpa using hp), ih, if_neg hp, if_neg hp]
    | false =>
      by_cases hp : p j = true
      · rw [List.filter_cons_of_pos (by simpa using hp), look_cons, hb]; exact ih
      · rw [List.filter_cons_of_neg (by simpa using hp)]; exact ih

/-- What is known of the slots when the operations in listed have run. -/
def known (all : List Oper) (n : Nat) (T : Nat → Ty) (listed : Array Bool) (Γ : Gam) : Gam :=
  ((List.range n).filterMap fun j => if listed.getD j false then (dstAt all j).map fun d => (d, T j) else none) ++
    Γ.filter fun p => !((List.range n).any fun j => listed.getD j false && dstAt all j == some p.1)

theorem known_old {all : List Oper} {n : Nat} {T : Nat → Ty} {listed : Array Bool} {x : Nat} {U : Ty} (h : look Γ x = some U) (hno : ∀ i, i < n → listed.getD i false = true → dstAt all i ≠ some x) : look (known all n T listed Γ) x = some U := by
  unfold known
  rw [look_append, look_filter (p := fun y => !((List.range n).any fun j => listed.getD j false && dstAt all j == some y))]
  have h1 : look ((List.range n).filterMap fun j => if listed.getD j false then (dstAt all j).map fun d => (d, T j) else none) x = none := by
    cases hl : look ((List.range n).filterMap fun j => if listed.getD j false then (dstAt all j).map fun d => (d, T j) else none) x with
    | none => rfl
    | some V =>
      obtain ⟨j, hj, hv⟩ := List.mem_filterMap.1 (look_mem hl)
      split at hv
      · rename_i hjl
        obtain ⟨d, hd, he⟩ := Option.map_eq_some_iff.1 hv
        cases he
        exact absurd hd (hno j (List.mem_range.1 hj) hjl)
      · cases hv
  have h2 : ((List.range n).any fun j => listed.getD j false && dstAt all j == some x) = false := by
    rw [List.any_eq_false]
    intro j hj
    simp only [Bool.and_eq_true, beq_iff_eq, not_and]
    exact hno j (List.mem_range.1 hj)
  rw [h1, h2]
  simpa using h

theorem look_of_mem {A : Gam} {x : Nat} {T : Ty} (h : (x, T) ∈ A) : ∃ U, look A x = some U := by
  induction A with
  | nil => cases h
  | cons p A ih =>
    obtain ⟨j, U⟩ := p
    rw [look_cons]
    cases hb : Nat.beq j x with
    | true => exact ⟨U, rfl⟩
    | false =>
      cases h with
      | head => rw [Nat.beq_refl] at hb; cases hb
      | tail _ h => exact ih h
theorem known_new {all : List Oper} {n : Nat} {T : Nat → Ty} {listed : Array Bool} {x j : Nat} (hj : j < n) (hl : listed.getD j false = true) (hd : dstAt all j = some x) (hdis : ∀ i, i < n → i ≠ j → dstAt all i ≠ some x) : look (known all n T listed Γ) x = some (T j) := by
  unfold known
  rw [look_append]
  have hm : (x, T j) ∈ ((List.range n).filterMap fun j => if listed.getD j false then (dstAt all j).map fun d => (d, T j) else none) :=
    List.mem_filterMap.2 ⟨j, List.mem_range.2 hj, by rw [hl, hd]; rfl⟩
  obtain ⟨U, hU⟩ := look_of_mem hm
  obtain ⟨i, hi, hv⟩ := List.mem_filterMap.1 (look_mem hU)
  split at hv
  · obtain ⟨d, hd', he⟩ := Option.map_eq_some_iff.1 hv
    cases he
    by_cases hij : i = j
    · subst hij; rw [hU]; rfl
    · exact absurd hd' (hdis i (List.mem_range.1 hi) hij)
  · cases hv
theorem RInv.known {all : List Oper} {n : Nat} {T : Nat → Ty} {listed : Array Bool} {a : Act} {w : World} (hi : RInv X H Γ all n T listed a w) : Sat X (known all n T listed Γ) H a w := by
  refine ⟨hi.size, hi.defers, hi.m0, hi.below, fun x U hU => ?_, hi.hp⟩
  unfold Go.Rt.known at hU
  rw [look_append, look_filter (p := fun y => !((List.range n).any fun j => listed.getD j false && dstAt all j == some y))] at hU
  cases h1 : look ((List.range n).filterMap fun j => if listed.getD j false then (dstAt all j).map fun d => (d, T j) else none) x with
  | some V =>
    rw [h1] at hU; cases hU
    obtain ⟨j, hj, hv⟩ := List.mem_filterMap.1 (look_mem h1)
    split at hv
    · rename_i hjl
      obtain ⟨d, hd, he⟩ := Option.map_eq_some_iff.1 hv
      cases he
      exact hi.done j x (List.mem_range.1 hj) hjl hd
    · cases hv
  | none =>
    rw [h1] at hU
    simp only [Option.none_or] at hU
    split at hU
    · rename_i hp
      refine hi.old x U hU fun j hj hl hd => ?_
      simp only [Bool.not_eq_true', List.any_eq_false, Bool.and_eq_true, beq_iff_eq, not_and] at hp
      exact hp j (List.mem_range.2 hj) hl hd
    · cases hU

/-! ### One store within -/

theorem upon_mono1 {P : Program} {o : Oper} {a : Act} {K K' : Act → World → Prop} {Q Q' : Exit → Act → World → Prop} (hQ : ∀ e a w, Q e a w → e = .normal) (h : ∀ a w, K a w → K' a w) :
    ∀ r, o.upon P a K Q r → o.upon P a K' Q' r := by
  have n1 : ∀ c, ∀ a w, ¬ Q (.panic c) a w := fun c a w q => by have := hQ _ _ _ q; cases this
  have n2 : ¬ LetsOut Q := fun ⟨a, w, q⟩ => by have := hQ _ _ _ q; cases this
  intro r hr
  cases r with
  | ok n w' =>
    cases n <;> simp only [Oper.upon] at hr ⊢ <;>
      first
        | exact h _ _ hr
        | exact Calls.mono hr (fun e w'' he => by cases e <;> first | exact h _ _ he | exact (n1 _ _ _ he).elim | exact (n2 he).elim)
        | exact Rows.mono hr (fun _ _ he => h _ _ he)
        | exact hr.elim
  | halt x w' => cases x <;> simp only [Oper.upon] at hr ⊢ <;> first | exact (n1 _ _ _ hr).elim | exact hr.elim

/-- The operation turns the heap H into H'; the frame stays. -/
def StTy (X : Cx) (Γ : Gam) (H H' : Hp) (ops : Array Oper) (o : Oper) : Prop := o.guard = none ∧ J X ops (fun e a w => e = .normal ∧ Sat X Γ H' a w) [o] Γ H
theorem StTy.wp {ops : Array Oper} {H' : Hp} {o : Oper} (h : StTy X Γ H H' ops o) {a : Act} {w : World} (hs : Sat X Γ H a w) {K : Act → World → Prop} (hK : ∀ a' w', Sat X Γ H' a' w' → K a' w') : o.wp X.P a w K Q := by
  have h1 := h.2 a w hs
  unfold wpN at h1
  rw [if_pos (wanted_none h.1 _)] at h1
  exact upon_mono1 (fun e a w q => q.1) (fun a' w' q => by unfold wpN at q; exact hK a' w' q.2) _ h1
theorem J.done {ops : Array Oper} {H' : Hp} {l : List Oper} (h : ∀ Q, JQ X Q .normal Γ H' → J X ops Q l Γ H) : J X ops (fun e a w => e = .normal ∧ Sat X Γ H' a w) l Γ H := h _ fun a w hs => ⟨rfl, hs⟩

section two
variable {all : List Oper} {n : Nat} {T : Nat → Ty} {G : Nat → Gam}

theorem ready_some {listed : Array Bool} (hokE : okEdges all = true) (hls : listed.size = all.length) {i : Nat} (hi : i < all.length) (hl : listed.getD i false = false) : Region.ready .any all.toArray listed ≠ [] := by
  have key : ∀ m i, i ≤ m → i < all.length → listed.getD i false = false → ∃ i, i ∈ Region.ready .any all.toArray listed := by
    intro m
    induction m with
    | zero =>
      intro i him hin hl
      refine ⟨i, mem_ready.2 ⟨by rw [getD_both (by rw [hls]; omega) true false]; exact hl, all[i], by simp [hin], fun e he hbd => ?_⟩⟩
      have := okEdges_spec hokE (List.getElem?_eq_getElem hin) e he hbd
      omega
    | succ m ihm =>
      intro i him hin hl
      by_cases hex : ∃ k, k < i ∧ listed.getD k false = false
      · obtain ⟨k, hk, hkl⟩ := hex
        exact ihm k (by omega) (by omega) hkl
      · refine ⟨i, mem_ready.2 ⟨by rw [getD_both (by rw [hls]; omega) true false]; exact hl, all[i], by simp [hin], fun e he hbd => ?_⟩⟩
        have hlt := okEdges_spec hokE (List.getElem?_eq_getElem hin) e he hbd
        cases hb : listed.getD e.on false with
        | true => rfl
        | false => exact absurd ⟨e.on, hlt, hb⟩ hex
  obtain ⟨j, hj⟩ := key i i (Nat.le_refl _) hi hl
  intro h; rw [h] at hj; cases hj

theorem RInv.step {listed : Array Bool} {a : Act} {w : World} (hi : RInv X H Γ all n T listed a w) (hG0 : G 0 = Γ) (hG : ∀ i, i < n → ∃ d, dstAt all i = some d ∧ G (i + 1) = (d, T i) :: G i)
    (hok : ∀ i j, i < n → j < n → okPair all i j = true) {i d : Nat} (hin : i < n) {o : Oper} (ho : all[i]? = some o) (hun : listed.getD i false = false) (hready : ∀ e ∈ o.after, Region.binds .any e = true → listed.getD e.on false = true)
    (hd : o.dst = some d) (hdN : d < X.N) (hopok : OpOk X (G i) H all o (T i)) {K : Act → World → Prop} (hK : ∀ a' w', RInv X H Γ all n T (listed.setIfInBounds i true) a' w' → K a' w') : wpOp X.P all.toArray Q i K a w := by
  have hso : ∀ Γx, (∀ x U, x ∈ slotsOf o → look Γx x = some U → U.p (a.tmps.getD x undef) ⟨w, mask X.M0 H⟩) → SatOn X (slotsOf o) Γx H a w := fun Γx h =>
    ⟨hi.size, hi.defers, hi.m0, hi.below, fun x U hx hU => h x U hx hU, hi.hp⟩
  have hson := hso (G i) fun x U hx hU => hi.reads hG0 hG hok hin ho hun hready (List.mem_append.2 (.inl hx)) hU
  have ho2 : all.toArray[i]? = some o := by simpa using ho
  unfold wpOp
  simp only [ho2]
  rcases hopok with ⟨hgn, hop⟩ | ⟨g, b, t, c, T0, hgs, hst, htN, hlt, hT, hop⟩
  · rw [if_pos (wanted_none hgn _)]
    refine .inl (wp_mono_false ?_ (hop a w hson))
    rintro a' w' ⟨v, rfl, hb, hv⟩
    rw [hd]
    exact hK _ _ (hi.next hok hin ho hd hdN hready hb hv)
  · have hv : a.tmps.getD t undef = .bool c := hi.reads hG0 hG hok hin ho hun hready (List.mem_append.2 (.inr (by simp [guardSlot, hgs, hst]))) hlt
    have hy : yielded all.toArray a.tmps g = some c := by
      have hlt' : t < a.tmps.size := by rw [hi.size]; exact htN
      simp only [Array.getD_eq_getD_getElem?, Array.getElem?_eq_getElem hlt', Option.getD_some] at hv
      simp [yielded, hst, Array.getElem?_eq_getElem hlt', hv]
    rw [wanted_of hgs hy]
    by_cases hcb : c = b
    · rw [if_pos (by simp [hcb])]
      refine .inl (wp_mono_false ?_ (hop hcb a w hson))
      rintro a' w' ⟨v, rfl, hb, hv'⟩
      rw [hd]
      exact hK _ _ (hi.next hok hin ho hd hdN hready hb (by rw [hT]; exact ⟨fun _ => hv', fun h => absurd hcb h⟩))
    · rw [if_neg (by simp [hcb]), hd]
      exact hK _ _ (hi.next hok hin ho hd hdN hready (Below.refl _ _) (by rw [hT]; exact ⟨fun h => absurd h hcb, fun _ => rfl⟩))

/-- What the store (operation n) reads. -/
theorem RInv.reads_last {listed : Array Bool} {a : Act} {w : World} (hi : RInv X H Γ all n T listed a w) (hG0 : G 0 = Γ) (hG : ∀ i, i < n → ∃ d, dstAt all i = some d ∧ G (i + 1) = (d, T i) :: G i)
    (hok : ∀ i j, i < n → j < n → okPair all i j = true) (hokn : ∀ j, j < n → okPair all n j = true) {o : Oper} (ho : all[n]? = some o) (hready : ∀ e ∈ o.after, Region.binds .any e = true → listed.getD e.on false = true)
    {x : Nat} (hx : x ∈ readsOf all o) {U : Ty} (hU : look (G n) x = some U) : look (Go.Rt.known all n T listed Γ) x = some U := by
  rcases G_look hG n (Nat.le_refl _) x U hU with ⟨j, hj, hd, rfl⟩ | ⟨hno, hU0⟩
  · have hd' := hd
    unfold dstAt at hd'
    obtain ⟨oj, h1, h2⟩ := Option.bind_eq_some_iff.1 hd'
    obtain ⟨e, he, hb, hon⟩ := backTo_spec ((okPair_read (hokn j hj) ho h1 h2 hx).1 hj)
    exact known_new hj (by rw [← hon]; exact hready e he hb) hd fun i hin hij => okPair_dst (hok j i hj hin) (Ne.symm hij) hd
  · rw [hG0] at hU0
    exact known_old hU0 fun i hin _ => hno i hin

theorem region_run2 {H' : Hp} {fl : Nat → Bool} {os : Oper} (hokE : okEdges all = true) (hok : ∀ i j, i < n → j < n → okPair all i j = true) (hokn : ∀ j, j < n → okPair all n j = true) (hlen : all.length = n + 1)
    (hsucc : ∀ i, i < n → fl i = true ∨ ∃ j o, i < j ∧ j ≤ n ∧ all[j]? = some o ∧ backTo o i = true ∧ (j = n ∨ fl j = false))
    (hG0 : G 0 = Γ) (hG : ∀ i o, i < n → all[i]? = some o → ∃ d, o.dst = some d ∧ d < X.N ∧ G (i + 1) = (d, T i) :: G i ∧ OpOk X (G i) H all o (T i) ∧ (fl i = true → OpOk X (G i) H' all o (T i)))
    (hos : all[n]? = some os) (hst : ∀ Γx, (∀ x U, x ∈ readsOf all os → look (G n) x = some U → look Γx x = some U) → StTy X Γx H H' all.toArray os)
    (hk : ∀ a w, Sat X (G n) H' a w → Q .normal a w) :
    ∀ fuel listed a w, unl listed all.length ≤ fuel →
      ((RInv X H Γ all n T listed a w ∧ listed.getD n false = false) ∨ (RInv X H' Γ all n T listed a w ∧ listed.getD n false = true ∧ ∀ i, i < n → fl i = false → listed.getD i false = true)) → wpAny X.P .any all.toArray Q fuel listed a w := by
  have hG' : ∀ i, i < n → ∃ d, dstAt all i = some d ∧ G (i + 1) = (d, T i) :: G i := fun i hi => by
    have hlt : i < all.length := by omega
    obtain ⟨d, h1, _, h2, _⟩ := hG i all[i] hi (List.getElem?_eq_getElem hlt)
    exact ⟨d, by simp [dstAt, List.getElem?_eq_getElem hlt, h1], h2⟩
  have hsz : ∀ {listed : Array Bool} {a : Act} {w : World}, ((RInv X H Γ all n T listed a w ∧ listed.getD n false = false) ∨ (RInv X H' Γ all n T listed a w ∧ listed.getD n false = true ∧ ∀ i, i < n → fl i = false → listed.getD i false = true)) → listed.size = all.length := by
    rintro listed a w (⟨h, _⟩ | ⟨h, _⟩) <;> exact h.lsize
  -- the end: nothing waits
  have fin : ∀ listed a w, ((RInv X H Γ all n T listed a w ∧ listed.getD n false = false) ∨ (RInv X H' Γ all n T listed a w ∧ listed.getD n false = true ∧ ∀ i, i < n → fl i = false → listed.getD i false = true)) →
      Region.ready .any all.toArray listed = [] → Q .normal a w := by
    intro listed a w hi hr
    have hall : ∀ i, i < all.length → listed.getD i false = true := fun i hil => by
      cases hb : listed.getD i false with
      | true => rfl
      | false => exact absurd hr (ready_some hokE (hsz hi) hil hb)
    rcases hi with ⟨_, hn⟩ | ⟨hi, _, _⟩
    · rw [hall n (by omega)] at hn; cases hn
    · exact hk a w (hi.fin hG0 hG' fun i hin => hall i (by omega))
  intro fuel
  induction fuel with
  | zero =>
    intro listed a w hu hi
    have hr : Region.ready .any all.toArray listed = [] := by
      cases hr : Region.ready .any all.toArray listed with
      | nil => rfl
      | cons j l =>
        have hj : j ∈ Region.ready .any all.toArray listed := by rw [hr]; exact .head _
        obtain ⟨hun, o, ho, _⟩ := mem_ready.1 hj
        have hjl : j < all.length := by have := (Array.getElem?_eq_some_iff.1 ho).1; simpa using this
        have hm : j ∈ (List.range all.length).filter fun i => !listed.getD i true := List.mem_filter.2 ⟨List.mem_range.2 hjl, by simp [hun]⟩
        have : 0 < unl listed all.length := List.length_pos_of_mem hm
        omega
    exact ⟨hr, fin listed a w hi hr⟩
  | succ fuel ih =>
    intro listed a w hu hi
    refine ⟨fun hr => fin listed a w hi hr, fun i hir => ?_⟩
    obtain ⟨hun, o, ho, hready⟩ := mem_ready.1 hir
    have ho' : all[i]? = some o := by simpa using ho
    have hil : i < all.length := (List.getElem?_eq_some_iff.1 ho').1
    have hls := hsz hi
    have hun' : listed.getD i false = false := by rw [getD_both (by rw [hls]; omega) false true]; exact hun
    have hu' : unl (listed.setIfInBounds i true) all.length ≤ fuel := by
      have := unl_set hil hls hun
      omega
    rcases hi with ⟨hi, hn⟩ | ⟨hi, hn, hrest⟩
    · rcases Nat.lt_or_ge i n with hin | hge
      · obtain ⟨d, hd, hdN, hg, hopok, _⟩ := hG i o hin ho'
        exact hi.step hG0 hG' hok hin ho' hun' hready hd hdN hopok fun a' w' h => ih _ a' w' hu' (.inl ⟨h, by rw [getD_set (by rw [hls]; exact hil), if_neg (by omega)]; exact hn⟩)
      · have hieq : i = n := by omega
        subst hieq
        rw [hos] at ho'; cases ho'
        -- the store: all that comes ahead of it has run
        have hbef : ∀ m j, i - j ≤ m → j < i → fl j = false → listed.getD j false = true := by
          intro m
          induction m with
          | zero => intro j h1 h2; omega
          | succ m ihm =>
            intro j h1 h2 hf
            rcases hsucc j h2 with q | ⟨k, ok, hjk, hki, hok', hbk, hkf⟩
            · rw [hf] at q; cases q
            obtain ⟨e, he, hbd, hon⟩ := backTo_spec hbk
            rcases Nat.lt_or_ge k i with q | q
            · have hkf' : fl k = false := by rcases hkf with h | h; omega; exact h
              have := hi.closed k ok hok' (ihm k (by omega) q hkf') e he hbd
              rw [hon] at this; exact this
            · have hki : k = i := by omega
              subst hki
              rw [hos] at hok'; cases hok'
              have := hready e he hbd
              rw [hon] at this; exact this
        have hsat := hi.known
        have hty := hst _ fun x U hx hU => hi.reads_last hG0 hG' hok hokn hos hready hx hU
        unfold wpOp
        simp only [ho]
        rw [if_pos (wanted_none hty.1 _)]
        refine .inl (hty.wp hsat fun a' w' hs' => ?_)
        have hset : ∀ j, j < i → (listed.setIfInBounds i true).getD j false = listed.getD j false := fun j hj => by rw [getD_set (by rw [hls]; exact hil), if_neg (by omega)]
        refine ih _ a' w' hu' (.inr ⟨⟨hs'.size, hs'.defers, hs'.m0, hs'.below, hs'.hp, by simp [hls], fun j oj hj hl e he hbd => ?_, fun j x hj hl hx => ?_, fun x U hU hno => ?_⟩, by rw [getD_set (by rw [hls]; exact hil), if_pos rfl], fun j hj hf => by rw [hset j hj]; exact hbef (i - j) j (Nat.le_refl _) hj hf⟩)
        · rw [getD_set (by rw [hls]; exact hil)] at hl
          have hjl := (List.getElem?_eq_some_iff.1 hj).1
          by_cases hij : i = j
          · subst hij
            rw [hos] at hj; cases hj
            have := hready e he hbd
            rw [getD_set (by rw [hls]; exact hil)]
            split
            · rfl
            · exact this
          · rw [if_neg hij] at hl
            have := hi.closed j oj hj hl e he hbd
            rw [getD_set (by rw [hls]; exact hil)]
            split
            · rfl
            · exact this
        · rw [hset j hj] at hl
          exact hs'.slots x _ (known_new hj hl hx fun k hk hkj => okPair_dst (hok j k hj hk) (Ne.symm hkj) hx)
        · refine hs'.slots x U (known_old hU fun k hk hl => hno k hk ?_)
          rw [hset k hk]; exact hl
    · rcases Nat.lt_or_ge i n with hin | hge
      · obtain ⟨d, hd, hdN, hg, _, hopf⟩ := hG i o hin ho'
        have hf : fl i = true := by
          cases hb : fl i with
          | true => rfl
          | false => rw [hrest i hin hb] at hun'; cases hun'
        refine hi.step hG0 hG' hok hin ho' hun' hready hd hdN (hopf hf) fun a' w' h => ih _ a' w' hu' (.inr ⟨h, by rw [getD_set (by rw [hls]; exact hil), if_neg (by omega)]; exact hn, fun j hj hfj => ?_⟩)
        rw [getD_set (by rw [hls]; exact hil)]
        split
        · rfl
        · exact hrest j hj hfj
      · have hieq : i = n := by omega
        subst hieq
        rw [hn] at hun'; cases hun'
end two

/-- The operations of a region with one store at its end; those in fl may run behind it. -/
inductive TS (X : Cx) (H H' : Hp) (all : List Oper) (fl : Nat → Bool) : Nat → Gam → List Oper → Gam → Prop
  | nil {i : Nat} {Γ : Gam} : TS X H H' all fl i Γ [] Γ
  | cons {i : Nat} {Γ Γ' : Gam} {o : Oper} {rest : List Oper} {d : Nat} {T : Ty} (hd : o.dst = some d) (hN : d < X.N) (h : OpOk X Γ H all o T) (hf : fl i = true → OpOk X Γ H' all o T) (next : TS X H H' all fl (i + 1) ((d, T) :: Γ) rest Γ') : TS X H H' all fl i Γ (o :: rest) Γ'
theorem TS.op {H' : Hp} {all : List Oper} {fl : Nat → Bool} {i : Nat} {Γ Γ' : Gam} {o : Oper} {rest : List Oper} {d : Nat} {T : Ty} (h : OpTy X Γ H o T) (hd : o.dst = some d) (hN : d < X.N) (hg : o.guard = none) (hf : fl i = false) (next : TS X H H' all fl (i + 1) ((d, T) :: Γ) rest Γ') : TS X H H' all fl i Γ (o :: rest) Γ' :=
  .cons hd hN (.inl ⟨hg, h⟩) (fun q => by rw [hf] at q; cases q) next
theorem TS.opf {H' : Hp} {all : List Oper} {fl : Nat → Bool} {i : Nat} {Γ Γ' : Gam} {o : Oper} {rest : List Oper} {d : Nat} {T : Ty} (h : ∀ H, OpTy X Γ H o T) (hd : o.dst = some d) (hN : d < X.N) (hg : o.guard = none) (next : TS X H H' all fl (i + 1) ((d, T) :: Γ) rest Γ') : TS X H H' all fl i Γ (o :: rest) Γ' :=
  .cons hd hN (.inl ⟨hg, h H⟩) (fun _ => .inl ⟨hg, h H'⟩) next
theorem TS.seq {H' : Hp} {all : List Oper} {fl : Nat → Bool} {k : Nat} {Γ Γ' : Gam} {l : List Oper} (h : TS X H H' all fl k Γ l Γ') : ∃ (G : Nat → Gam) (T : Nat → Ty), G 0 = Γ ∧ G l.length = Γ' ∧
    ∀ i o, l[i]? = some o → ∃ d, o.dst = some d ∧ d < X.N ∧ G (i + 1) = (d, T i) :: G i ∧ OpOk X (G i) H all o (T i) ∧ (fl (k + i) = true → OpOk X (G i) H' all o (T i)) := by
  induction h with
  | nil => rename_i Γ; exact ⟨fun _ => Γ, fun _ => tAny, rfl, rfl, fun i o h => by simp at h⟩
  | cons hd hN h hf _ ih =>
    rename_i k Γ Γ' o rest d T _
    obtain ⟨G, T', h0, h1, h2⟩ := ih
    refine ⟨fun i => match i with | 0 => Γ | i + 1 => G i, fun i => match i with | 0 => T | i + 1 => T' i, rfl, h1, fun i o' ho => ?_⟩
    cases i with
    | zero => simp at ho; subst ho; exact ⟨d, hd, hN, h0, h, hf⟩
    | succ i =>
      obtain ⟨d', q1, q2, q3, q4, q5⟩ := h2 i o' (by simpa using ho)
      exact ⟨d', q1, q2, q3, q4, fun q => q5 (by rw [show k + 1 + i = k + (i + 1) by omega]; exact q)⟩

def okR2 (all : List Oper) (n : Nat) (fl : Nat → Bool) : Bool :=
  okEdges all && ((List.range (n + 1)).all fun i => (List.range n).all fun j => okPair all i j) && Nat.beq all.length (n + 1) &&
  (List.range n).all fun i => fl i || (List.range (n + 1)).any fun j => Nat.blt i j && opAtB all j (backTo · i) && (Nat.beq j n || !fl j)

theorem JC.drawS {id : Nat} {l : List Oper} {Γ' : Gam} {H' : Hp} {os : Oper} (n : Nat) (fl : Nat → Bool) (hm : X.P.follows .mixedOrders = true) (hok : okR2 l n fl = true) (hos : l[n]? = some os) (ht : TS X H H' l fl 0 Γ (l.take n) Γ')
    (hst : ∀ Γx, (∀ x U, x ∈ readsOf l os → look Γ' x = some U → look Γx x = some U) → StTy X Γx H H' l.toArray os) (next : JQ X Q .normal Γ' H') : JC X (.region id l.toArray true) Q Γ H := by
  intro a w hs
  simp only [okR2, Bool.and_eq_true] at hok
  obtain ⟨⟨⟨h1, h2⟩, h3⟩, h4⟩ := hok
  have hlen := nat_beq.1 h3
  obtain ⟨G, T, hG0, hGn, hG⟩ := ht.seq
  have hl2 : (l.take n).length = n := by simp; omega
  rw [hl2] at hGn
  refine wp_region_any hm ?_
  have hb : Below w.heap.size w { w with drawn := w.drawn + 1 } := (Below.refl _ w).drew
  have := region_run2 (Q := Q) (H' := H') (fl := fl) (os := os) h1 (fun i j hi hj => range_all (range_all h2 (by omega)) hj) (fun j hj => range_all (range_all h2 (by omega)) hj) hlen (fun i hi => ?_) hG0
    (fun i o hi ho => by have q := hG i o (by rw [List.getElem?_take, if_pos hi]; exact ho); rw [Nat.zero_add] at q; exact q) hos (fun Γx hx => hst Γx fun x U q1 q2 => hx x U q1 (hGn ▸ q2)) (fun a w hs => next a w (hGn ▸ hs)) l.length (Array.replicate l.length false) a _
    (by have := List.length_filter_le (fun i => !(Array.replicate l.length false).getD i true) (List.range l.length); simpa [unl] using this)
    (.inl ⟨RInv.start (hs.ext hb), by simp only [Array.getD_eq_getD_getElem?, Array.getElem?_replicate]; split <;> rfl⟩)
  · simpa using this
  · have h6 := range_all h4 hi
    simp only [Bool.or_eq_true] at h6
    rcases h6 with h6 | h6
    · exact .inl h6
    · obtain ⟨j, hj, hjj⟩ := List.any_eq_true.1 h6
      simp only [Bool.and_eq_true, Bool.or_eq_true, Bool.not_eq_true', nat_beq] at hjj
      have hjl : j < l.length := by have := List.mem_range.1 hj; omega
      refine .inr ⟨j, l[j], nat_blt.1 hjj.1.1, by have := List.mem_range.1 hj; omega, List.getElem?_eq_getElem hjl, ?_, hjj.2⟩
      have := hjj.1.2
      simpa [opAtB, List.getElem?_eq_getElem hjl] using this

theorem OpT.moveS {Γ Γx : Gam} {R : List Nat} {x : Operand} {T : Ty} (hx : ∀ y U, y ∈ R → look Γ y = some U → look Γx y = some U) (h : OpT Γ x T) (hm : ∀ y ∈ slotOf x, y ∈ R) : OpT Γx x T := by
  induction h with
  | tmp h => exact .tmp (hx _ _ (hm _ (by simp [slotOf])) h)
  | const h => exact .const h
  | func h => exact .func h
  | glob h => exact .glob h
  | sub _ hs ih => exact .sub (ih hm) hs
theorem OpT.move {Γ Γx : Gam} {all : List Oper} {o : Oper} {x : Operand} {T : Ty} (hx : ∀ y U, y ∈ readsOf all o → look Γ y = some U → look Γx y = some U) (h : OpT Γ x T) (hm : ((slotOf x).all fun y => (readsOf all o).any (Nat.beq y)) = true) : OpT Γx x T :=
  .moveS hx h fun y hy => by
    have := List.all_eq_true.1 hm y hy
    obtain ⟨z, hz, hyz⟩ := List.any_eq_true.1 this
    rw [nat_beq.1 hyz]; exact hz
end Go.Rt
