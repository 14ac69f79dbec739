/- The logic of the walks, part T: ranges over functions: drawn regions within rounds, what an iterator owes, the statement itself, leaving with a mark. Conditions: none; nothing of a program stands here. -/
import Derived.Test.YtkpmcldbcljkfaaRtS
import Derived.Test.YtkpmcldbcljkfaaRtO
import Derived.Test.YtkpmcldbcljkfaaRtR
import Derived.OrdersIn
set_option linter.unusedVariables false
set_option linter.unusedSimpArgs false
namespace Go.Rt
open Go Go.RowKit

variable {X : Cx} {Q : Exit → Act → World → Prop} {Γ : Gam} {H : Hp} {r : Option Nat} {rest : List Oper} {ops : Array Oper}

/-! ### Regions that draw, within rounds -/

/-- A list of operations that run in their order, in a round's frame. -/
def JL (X : Cx) (r : Option Nat) (ops : Array Oper) (Q : Exit → Act → World → Prop) (l : List Oper) (Γ : Gam) (H : Hp) : Prop := ∀ a w, Sat X Γ H a w → wpListIn (fenR r) 0 X.P ops Q l a w
theorem JL.nil (h : JQ X Q .normal Γ H) : JL X r ops Q [] Γ H := fun a w hs => h a w hs
theorem J.inRound {l : List Oper} (h : J X ops Q l Γ H) (hn : noDefB l = true := by rfl) : JL X r ops Q l Γ H := fun a w hs => wpN.inRound hn (h a w hs)
theorem JL.op {o : Oper} {d : Nat} {T : Ty} (h : OpTy X Γ H o T) (hd : o.dst = some d) (hN : d < X.N) (hg : o.guard = none) (hn : noDefB [o] = true) (next : JL X r ops Q rest ((d, T) :: Γ) H) : JL X r ops Q (o :: rest) Γ H := by
  intro a w hs
  unfold wpListIn
  rw [if_pos (wanted_none hg _)]
  refine op_in (fun c e => ?_) (wp_mono_false ?_ (h a w (hs.on _)))
  · simp only [noDefB, List.all_cons, Bool.and_eq_true, e] at hn; cases hn.1
  · rintro a' w' ⟨v, rfl, hb, hv⟩
    rw [hd]
    exact next _ _ ((hs.ext hb).put hN hv)
theorem JL.weak {l : List Oper} {Γ' : Gam} {H' : Hp} (h : ∀ a w, Sat X Γ H a w → Sat X Γ' H' a w) (next : JL X r ops Q l Γ' H') : JL X r ops Q l Γ H := fun a w hs => next a w (h a w hs)

theorem JC.ofR {c : Code} (h : JCR X none c Q Γ H) : JC X c Q Γ H := fun a w hs => wpIn_wide.1 (h a w hs)
theorem JCR.ofC {c : Code} (h : JC X c Q Γ H) : JCR X none c Q Γ H := fun a w hs => wpIn_wide.2 (h a w hs)

section any
variable {all : List Oper} {n : Nat} {T : Nat → Ty} {G : Nat → Gam}

theorem noDef_at {l : List Oper} (h : noDefB l = true) {i : Nat} {o : Oper} (ho : l[i]? = some o) : ∀ c, o.op ≠ .defer c := fun c e => by
  have := List.all_eq_true.1 h o (List.mem_of_getElem? ho)
  rw [e] at this; cases this

theorem wpAnyIn_end {listed : Array Bool} {a : Act} {w : World} (h : ∀ i, i < ops.size → listed.getD i true = true) (hQ : Q .normal a w) : ∀ fuel, wpAnyIn (fenR r) 0 X.P .any ops Q fuel listed a w := by
  have hr : Region.ready .any ops listed = [] := by
    cases hr : Region.ready .any ops listed with
    | nil => rfl
    | cons j l =>
      have hj : j ∈ Region.ready .any ops listed := by rw [hr]; exact .head _
      obtain ⟨h1, o, ho, _⟩ := mem_ready.1 hj
      have := h j (Array.getElem?_eq_some_iff.1 ho).1
      rw [this] at h1; cases h1
  intro fuel
  cases fuel with
  | zero => exact ⟨hr, hQ⟩
  | succ f => exact ⟨fun _ => hQ, by rw [hr]; intro i hi; cases hi⟩

theorem RInv.stepIn {listed : Array Bool} {a : Act} {w : World} (hi : RInv X H Γ all n T listed a w) (hG0 : G 0 = Γ) (hG : ∀ i, i < n → ∃ d, dstAt all i = some d ∧ G (i + 1) = (d, T i) :: G i)
    (hok : ∀ i j, i < n → j < n → okPair all i j = true) {i d : Nat} (hin : i < n) {o : Oper} (ho : all[i]? = some o) (hnd : ∀ c, o.op ≠ .defer c) (hun : listed.getD i false = false) (hready : ∀ e ∈ o.after, Region.binds .any e = true → listed.getD e.on false = true)
    (hd : o.dst = some d) (hdN : d < X.N) (hopok : OpOk X (G i) H all o (T i)) {K : Act → World → Prop} (hK : ∀ a' w', RInv X H Γ all n T (listed.setIfInBounds i true) a' w' → K a' w') : wpOpIn (fenR r) 0 X.P all.toArray Q i K a w := by
  have hso : ∀ Γx, (∀ x U, x ∈ slotsOf o → look Γx x = some U → U.p (a.tmps.getD x undef) ⟨w, mask X.M0 H⟩) → SatOn X (slotsOf o) Γx H a w := fun Γx h =>
    ⟨hi.size, hi.defers, hi.m0, hi.below, fun x U hx hU => h x U hx hU, hi.hp⟩
  have hson := hso (G i) fun x U hx hU => hi.reads hG0 hG hok hin ho hun hready (List.mem_append.2 (.inl hx)) hU
  have ho2 : all.toArray[i]? = some o := by simpa using ho
  unfold wpOpIn
  simp only [ho2]
  rcases hopok with ⟨hgn, hop⟩ | ⟨g, b, t, c, T0, hgs, hst, htN, hlt, hT, hop⟩
  · rw [if_pos (wanted_none hgn _)]
    refine op_in hnd (wp_mono_false ?_ (hop a w hson))
    rintro a' w' ⟨v, rfl, hb, hv⟩
    rw [hd]
    exact hK _ _ (hi.next hok hin ho hd hdN hready hb hv)
  · have hv : a.tmps.getD t undef = .bool c := hi.reads hG0 hG hok hin ho hun hready (List.mem_append.2 (.inr (by simp [guardSlot, hgs, hst]))) hlt
    have hy : yielded all.toArray a.tmps g = some c := by
      have hlt' : t < a.tmps.size := by rw [hi.size]; exact htN
      simp only [Array.getD_eq_getD_getElem?, Array.getElem?_eq_getElem hlt', Option.getD_some] at hv
      simp [yielded, hst, Array.getElem?_eq_getElem hlt', hv]
    rw [wanted_of hgs hy]
    by_cases hcb : c = b
    · rw [if_pos (by simp [hcb])]
      refine op_in hnd (wp_mono_false ?_ (hop hcb a w hson))
      rintro a' w' ⟨v, rfl, hb, hv'⟩
      rw [hd]
      exact hK _ _ (hi.next hok hin ho hd hdN hready hb (by rw [hT]; exact ⟨fun _ => hv', fun h => absurd hcb h⟩))
    · rw [if_neg (by simp [hcb]), hd]
      exact ⟨fun _ _ => trivial, hK _ _ (hi.next hok hin ho hd hdN hready (Below.refl _ _) (by rw [hT]; exact ⟨fun h => absurd h hcb, fun _ => rfl⟩))⟩

theorem tail_runIn (hokE : okEdges all = true) (hch : ∀ q o, n < q → all[q]? = some o → backTo o (q - 1) = true) :
    ∀ m p fuel listed a w, all.length - p = m → n ≤ p → p ≤ all.length → m ≤ fuel → listed.size = all.length → (∀ i, i < p → listed.getD i false = true) → (∀ i, p ≤ i → i < all.length → listed.getD i false = false) →
      wpListIn (fenR r) 0 X.P all.toArray Q (all.drop p) a w → wpAnyIn (fenR r) 0 X.P .any all.toArray Q fuel listed a w := by
  intro m
  induction m with
  | zero =>
    intro p fuel listed a w hm hnp hpl hf hls h1 _ hw
    have hp : p = all.length := by omega
    subst hp
    rw [List.drop_length] at hw
    exact wpAnyIn_end (fun i hi => by rw [getD_both (by rw [hls]; simpa using hi) true false]; exact h1 i (by simpa using hi)) hw fuel
  | succ m ih =>
    intro p fuel listed a w hm hnp hpl hf hls h1 h2 hw
    have hlt : p < all.length := by omega
    have hpr : p ∈ Region.ready .any all.toArray listed := mem_ready.2 ⟨by rw [getD_both (by omega) true false]; exact h2 p (Nat.le_refl _) hlt, all[p], by simp [hlt], fun e he hb => h1 e.on (okEdges_spec hokE (List.getElem?_eq_getElem hlt) e he hb)⟩
    cases fuel with
    | zero => omega
    | succ fuel =>
      refine ⟨fun hr => by (rw [hr] at hpr; cases hpr), fun i hir => ?_⟩
      obtain ⟨hun, o, ho, hready⟩ := mem_ready.1 hir
      have ho' : all[i]? = some o := by simpa using ho
      have hil : i < all.length := (List.getElem?_eq_some_iff.1 ho').1
      have hip : i = p := by
        rcases Nat.lt_trichotomy i p with q | q | q
        · rw [getD_both (by omega) true false, h1 i q] at hun; cases hun
        · exact q
        · obtain ⟨e, he, hb, hon⟩ := backTo_spec (hch i o (by omega) ho')
          have h3 := hready e he hb
          rw [hon, h2 (i - 1) (by omega) (by omega)] at h3; cases h3
      subst hip
      rw [List.drop_eq_getElem_cons hlt] at hw
      have hoo : all[i] = o := by rw [List.getElem?_eq_getElem hlt] at ho'; exact Option.some.inj ho'
      rw [hoo] at hw
      unfold wpListIn at hw
      have hgoal : wpOpIn (fenR r) 0 X.P all.toArray Q i (wpListIn (fenR r) 0 X.P all.toArray Q (all.drop (i + 1))) a w := by
        unfold wpOpIn
        simp only [ho]
        exact hw
      refine wpOpIn_mono (fun a' w' hq => ?_) hgoal
      refine ih (i + 1) fuel _ a' w' (by omega) (by omega) (by omega) (by omega) (by simp [hls]) (fun j hj => ?_) (fun j hj hjl => ?_) hq
      · rw [getD_set (by omega)]
        by_cases hij : i = j
        · simp [hij]
        · rw [if_neg hij]; exact h1 j (by omega)
      · rw [getD_set (by omega), if_neg (by omega)]; exact h2 j (by omega) hjl

theorem region_runIn (hnd : noDefB all = true) (hokE : okEdges all = true) (hok : ∀ i j, i < n → j < n → okPair all i j = true) (hnl : n ≤ all.length) (hsucc : all.length ≠ n → ∀ i, i < n → ∃ j o, i < j ∧ j ≤ n ∧ all[j]? = some o ∧ backTo o i = true)
    (hch : ∀ q o, n < q → all[q]? = some o → backTo o (q - 1) = true)
    (hG0 : G 0 = Γ) (hG : ∀ i o, i < n → all[i]? = some o → ∃ d, o.dst = some d ∧ d < X.N ∧ G (i + 1) = (d, T i) :: G i ∧ OpOk X (G i) H all o (T i))
    (hk : ∀ a w, Sat X (G n) H a w → wpListIn (fenR r) 0 X.P all.toArray Q (all.drop n) a w) :
    ∀ fuel listed a w, unl listed all.length ≤ fuel → RInv X H Γ all n T listed a w → (∀ q, n ≤ q → q < all.length → listed.getD q false = false) → wpAnyIn (fenR r) 0 X.P .any all.toArray Q fuel listed a w := by
  have hG' : ∀ i, i < n → ∃ d, dstAt all i = some d ∧ G (i + 1) = (d, T i) :: G i := fun i hi => by
    have hlt : i < all.length := by omega
    obtain ⟨d, h1, _, h2, _⟩ := hG i all[i] hi (List.getElem?_eq_getElem hlt)
    exact ⟨d, by simp [dstAt, List.getElem?_eq_getElem hlt, h1], h2⟩
  have fin : ∀ fuel listed a w, unl listed all.length ≤ fuel → RInv X H Γ all n T listed a w → (∀ q, n ≤ q → q < all.length → listed.getD q false = false) → (∀ i, i < n → listed.getD i false = true) → wpAnyIn (fenR r) 0 X.P .any all.toArray Q fuel listed a w := by
    intro fuel listed a w hu hi htail hdone
    refine tail_runIn hokE hch (all.length - n) n fuel listed a w rfl (Nat.le_refl _) hnl ?_ hi.lsize hdone htail (hk a w (hi.fin hG0 hG' hdone))
    refine Nat.le_trans ?_ hu
    have hsub : ((List.range all.length).drop n).length ≤ unl listed all.length := by
      unfold unl
      have hs : ((List.range all.length).drop n).filter (fun i => !listed.getD i true) = (List.range all.length).drop n := by
        rw [List.filter_eq_self]
        intro q hq
        obtain ⟨k, hk, hkq⟩ := List.mem_iff_getElem.1 hq
        simp only [List.getElem_drop, List.getElem_range] at hkq
        simp only [List.length_drop, List.length_range] at hk
        have := htail q (by omega) (by omega)
        rw [getD_both (by rw [hi.lsize]; omega) false true] at this
        simp [this]
      rw [← hs]
      exact ((List.drop_sublist n _).filter _).length_le
    simpa using hsub
  intro fuel
  induction fuel with
  | zero =>
    intro listed a w hu hi htail
    refine fin 0 listed a w hu hi htail fun i hi' => ?_
    cases hb : listed.getD i false with
    | true => rfl
    | false =>
      have hm : i ∈ (List.range all.length).filter fun i => !listed.getD i true := List.mem_filter.2 ⟨List.mem_range.2 (by omega), by rw [getD_both (by rw [hi.lsize]; omega) true false, hb]; rfl⟩
      have : 0 < unl listed all.length := List.length_pos_of_mem hm
      omega
  | succ fuel ih =>
    intro listed a w hu hi htail
    by_cases hdone : ∀ i, i < n → listed.getD i false = true
    · exact fin _ listed a w hu hi htail hdone
    obtain ⟨i0, hh⟩ := Classical.not_forall.1 hdone
    obtain ⟨hin0, hl0⟩ := Classical.not_imp.1 hh
    have hl0' : listed.getD i0 false = false := by cases hb : listed.getD i0 false with | false => rfl | true => exact absurd hb hl0
    refine ⟨fun hr => absurd hr (ready_some hokE hi.lsize (by omega) hl0'), fun i hir => ?_⟩
    obtain ⟨hun, o, ho, hready⟩ := mem_ready.1 hir
    have ho' : all[i]? = some o := by simpa using ho
    have hil : i < all.length := (List.getElem?_eq_some_iff.1 ho').1
    have hun' : listed.getD i false = false := by rw [getD_both (by rw [hi.lsize]; omega) false true]; exact hun
    have hu' : unl (listed.setIfInBounds i true) all.length ≤ fuel := by
      have := unl_set hil hi.lsize hun
      omega
    have hin : i < n := by
      rcases Nat.lt_or_ge i n with q | q
      · exact q
      · exfalso
        have hne : all.length ≠ n := by omega
        have hsc := hsucc hne
        rcases Nat.lt_or_ge n i with q2 | q2
        · obtain ⟨e, he, hbd, hon⟩ := backTo_spec (hch i o q2 ho')
          have h3 := hready e he hbd
          rw [hon, htail (i - 1) (by omega) (by omega)] at h3; cases h3
        · have hieq : i = n := by omega
          subst hieq
          refine hdone ?_
          have hb : ∀ m j, i - j ≤ m → j < i → listed.getD j false = true := by
            intro m
            induction m with
            | zero => intro j h1 h2; omega
            | succ m ihm =>
              intro j h1 h2
              obtain ⟨k, ok, hjk, hki, hok', hbk⟩ := hsc j h2
              obtain ⟨e, he, hbd, hon⟩ := backTo_spec hbk
              rcases Nat.lt_or_ge k i with q | q
              · have := hi.closed k ok hok' (ihm k (by omega) q) e he hbd
                rw [hon] at this; exact this
              · have hki : k = i := by omega
                subst hki
                rw [ho'] at hok'; cases hok'
                have := hready e he hbd
                rw [hon] at this; exact this
          exact fun j hj => hb (i - j) j (Nat.le_refl _) hj
    obtain ⟨d, hd, hdN, hg, hopok⟩ := hG i o hin ho'
    exact hi.stepIn hG0 hG' hok hin ho' (noDef_at hnd ho') hun' hready hd hdN hopok fun a' w' h => ih _ a' w' hu' h fun q hq hql => by
      rw [getD_set (by rw [hi.lsize]; exact hil), if_neg (by omega)]; exact htail q hq hql
end any

theorem JCR.drawAt {id : Nat} {l : List Oper} {Γ' : Gam} (n : Nat) (hm : X.P.follows .mixedOrders = true) (hok : okR l n = true) (hnd : noDefB l = true) (ht : TW X H l Γ (l.take n) Γ') (h : JL X r l.toArray Q (l.drop n) Γ' H) : JCR X r (.region id l.toArray true) Q Γ H := by
  intro a w hs
  obtain ⟨h1, h2, h3, h4, h5⟩ := okR_spec hok
  obtain ⟨G, T, hG0, hGn, hG⟩ := ht.seq
  have hlen : (l.take n).length = n := by simp; omega
  rw [hlen] at hGn
  refine wpIn_region_any hm ?_
  have hb : Below w.heap.size w { w with drawn := w.drawn + 1 } := (Below.refl _ w).drew
  have := region_runIn (Q := Q) (n := n) (r := r) hnd h1 h2 h3 (fun hne i hi => h4 hne i hi) h5 hG0 (fun i o hi ho => hG i o (by rw [List.getElem?_take, if_pos hi]; exact ho))
    (fun a w hs => h a w (hGn ▸ hs)) l.length (Array.replicate l.length false) a _
    (by have := List.length_filter_le (fun i => !(Array.replicate l.length false).getD i true) (List.range l.length); simpa [unl] using this) (RInv.start (hs.ext hb))
    (fun q _ hq => by simp [Array.getD_eq_getD_getElem?, hq])
  simpa using this
theorem JCR.draw {id : Nat} {l : List Oper} {Γ' : Gam} (hm : X.P.follows .mixedOrders = true) (hok : okR l l.length = true) (hnd : noDefB l = true) (ht : TW X H l Γ l Γ') (h : JQ X Q .normal Γ' H) : JCR X r (.region id l.toArray true) Q Γ H :=
  JCR.drawAt l.length hm hok hnd (by rwa [List.take_length]) (by rw [List.drop_length]; exact JL.nil h)
end Go.Rt
