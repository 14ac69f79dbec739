/- The logic of the walks, part X: a law's arguments, read as values of the plain world. Conditions: none; nothing of a program stands here. -/
import Derived.Test.YtkpmcldbcljkfaaRtW
import Derived.Test.YtkpmcldbcljkfaaRtY
import Derived.Test.YtkpmcldbcljkfaaPlJ
import Derived.Deep.Slices
import Derived.Carry
set_option linter.unusedVariables false
set_option linter.unusedSimpArgs false
namespace Go.Rt
open Go Go.RowKit Go.ChangeShapes Go.WideShapes

/-- The types of a polynomial in recursive form. -/
structure PolTy (P : Program) (tP tI tL tN tZ tB tU : TypeId) : Prop where
  p : ∃ f0 f1 f2 : Field, P.underlying tP = some (.struct #[f0, f1, f2]) ∧ f0.type = tZ ∧ f0.offset = 0 ∧ f1.type = tI ∧ f1.offset = 1 ∧ f2.type = tL ∧ f2.offset = 3
  i : ∃ g0 g1 : Field, P.underlying tI = some (.struct #[g0, g1]) ∧ g0.type = tB ∧ g0.offset = 0 ∧ g1.type = tN ∧ g1.offset = 1
  l : P.underlying tL = some (.slice tP)
  n : P.underlying tN = some (.slice tU)
  z : P.underlying tZ = some (.int .i64)
  b : P.underlying tB = some .bool
  u : P.underlying tU = some (.int .u32)
  cP : P.cellsOf tP = 4
  cI : P.cellsOf tI = 2
  cL : P.cellsOf tL = 1
  cN : P.cellsOf tN = 1
  cZ : P.cellsOf tZ = 1
  cB : P.cellsOf tB = 1
  cU : P.cellsOf tU = 1

section bring
variable {H : Type} {enc : TypeId × Value → H} {P : Program} {w : World} {sp : Nat → Bool} {held : Bool} {fuel : Nat} {cs : List Value} {x : DataW H × List MemPlace}
variable {tP tI tL tN tZ tB tU : TypeId}
abbrev stW (w : World) : St := ⟨w, fun _ => False⟩
def natOf : Value → Nat
  | .int _ k => k.toNat
  | _ => 0
theorem spot_none {a : Addr} {v : Value} (h : w.cell? a = some v) : a = ⟨a.block, a.off, none⟩ := by
  obtain ⟨b, o, s⟩ := a
  unfold World.cell? at h
  split at h
  · split at h
    · cases h
    · rename_i q
      have : s = none := by cases s <;> simp_all
      rw [this]
  · cases h
instance : Inhabited Pol := ⟨p0⟩
theorem bringN (T : PolTy P tP tI tL tN tZ tB tU) (h : DataW.trod enc P w 0 sp held fuel tN cs = some x) : ∃ v ds, cs = [v] ∧ v.oneCell' = true ∧ slP encD ds v (stW w) ∧ Digs ds := by
  rcases Deep.open_slice1 T.n T.cU h with ⟨rfl, rfl⟩ | ⟨a, len, cap, m, n, V, D, Pl, rfl, hb, hl, hc, hm, rfl, hx⟩
  · exact ⟨_, [], rfl, rfl, slP_nil _ _, fun d hd => by cases hd⟩
  · have hml : len ≤ m := by rw [hm]; split <;> omega
    have hV : ∀ i, i < len → ∃ k : Nat, V i = .int .u32 k ∧ k < 4294967296 := fun i hi => by
      obtain ⟨k, h1, _, h3⟩ := DataW.trod_int T.u (hx i (by omega)).2
      have hb := bounds_u32 h3
      refine ⟨k.toNat, ?_, by omega⟩
      simp at h1
      rw [h1]; congr 1; omega
    refine ⟨_, (List.range len).map fun i => natOf (V i), rfl, rfl, ⟨some a, len, cap, rfl, by simp, hl, fun hne => ?_⟩, fun d hd => ?_⟩
    · have hl0 : 0 < len := by
        rcases Nat.eq_zero_or_pos len with q | q
        · subst q; exact absurd rfl hne
        · exact q
      have h0 := (hx 0 (by omega)).1
      rw [show a.add 0 = a from rfl] at h0
      have ha := spot_none h0
      refine ⟨a.block, a.off, by rw [← ha], fun i d hd => ?_⟩
      have hi : i < len := by
        have := (List.getElem?_eq_some_iff.1 hd).1
        simpa using this
      obtain ⟨k, h1, h2⟩ := hV i hi
      have hdk : d = k := by
        rw [List.getElem?_map, List.getElem?_range hi] at hd
        simp only [Option.map_some, Option.some.injEq] at hd
        rw [← hd, h1]; show ((k : Nat) : Int).toNat = k; omega
      subst hdk
      refine ⟨[.int .u32 d], ⟨rfl, h2⟩, fun j u hu => ⟨?_, fun h => h⟩⟩
      have hj : j = 0 := by
        have := (List.getElem?_eq_some_iff.1 hu).1
        simp at this; exact this
      subst hj
      simp at hu
      subst hu
      have hc := (hx i (by omega)).1
      rw [ha, add_plain, h1] at hc
      show w.cell? ⟨a.block, a.off + i * 1 + 0, none⟩ = _
      rw [Nat.mul_one, Nat.add_zero]; exact hc
    · obtain ⟨i, hi, rfl⟩ := List.mem_map.1 hd
      obtain ⟨k, h1, h2⟩ := hV i (List.mem_range.1 hi)
      show natOf (V i) < _
      rw [h1]; show ((k : Nat) : Int).toNat < 4294967296; omega
theorem bringI (T : PolTy P tP tI tL tN tZ tB tU) (h : DataW.trod enc P w 0 sp held fuel tI cs = some x) : ∃ c : Z, cellsP (zT c) cs (stW w) ∧ Digs c.abs := by
  obtain ⟨g0, g1, hu, e0, o0, e1, o1⟩ := T.i
  obtain ⟨xs, n, rfl, rfl, hl, hlen, hf⟩ := DataW.trod_struct hu h
  rw [T.cI] at hl
  match cs, hl with
  | [a, b], _ =>
    have h0 := hf 0 g0 rfl
    have h1 := hf 1 g1 rfl
    rw [e0, o0, T.cB] at h0
    rw [e1, o1, T.cN] at h1
    have hs : xs.length = 2 := hlen
    rw [List.getElem?_eq_getElem (by omega)] at h0 h1
    obtain ⟨q, hq, _⟩ := DataW.trod_bool T.b h0
    obtain ⟨v, ds, hv, h1c, hsl, hd⟩ := bringN T h1
    simp at hq hv
    subst hq; subst hv
    exact ⟨⟨q, ds⟩, ⟨rfl, rfl, hsl, h1c, trivial⟩, hd⟩
theorem bringP (T : PolTy P tP tI tL tN tZ tB tU) : ∀ (fuel : Nat) {cs : List Value} {x : DataW H × List MemPlace}, DataW.trod enc P w 0 sp held fuel tP cs = some x → ∃ p : Pol, encP.C p cs (stW w) ∧ Dg p := by
  intro fuel
  induction fuel using Nat.strongRecOn with
  | ind fuel ih =>
    intro cs x h
    obtain ⟨f0, f1, f2, hu, e0, o0, e1, o1, e2, o2⟩ := T.p
    obtain ⟨xs, n, rfl, rfl, hl, hlen, hf⟩ := DataW.trod_struct hu h
    rw [T.cP] at hl
    match cs, hl with
    | [a, b, c, d], _ =>
      have h0 := hf 0 f0 rfl
      have h1 := hf 1 f1 rfl
      have h2 := hf 2 f2 rfl
      rw [e0, o0, T.cZ] at h0
      rw [e1, o1, T.cI] at h1
      rw [e2, o2, T.cL] at h2
      have hs : xs.length = 3 := hlen
      rw [List.getElem?_eq_getElem (by omega)] at h0 h1 h2
      obtain ⟨k, hk, _⟩ := DataW.trod_int T.z h0
      obtain ⟨q, hq, hqd⟩ := bringI T h1
      have hsl : ∃ ps : List Pol, slP encP ps d (stW w) ∧ d.oneCell' = true ∧ ∀ p ∈ ps, Dg p := by
        have h2' : DataW.trod enc P w 0 sp held n tL [d] = some xs[2] := h2
        rcases DataW.trod_slice T.l h2' with ⟨hd, _⟩ | ⟨ad, len, cap, elems, rest, n', rfl, hd, _, _, hlc, _, hel, hx, _, _⟩
        · simp at hd; subst hd; exact ⟨[], slP_nil _ _, rfl, fun p hp => by cases hp⟩
        · simp at hd; subst hd
          have hx' : ∀ i, i < len → ∃ q : Pol, (∃ cs', w.cells? 0 (ad.add (i * 4)) 4 = some cs' ∧ encP.C q cs' (stW w)) ∧ Dg q := fun i hi => by
            have h3 := hx i hi
            rw [T.cP, List.getElem?_eq_getElem (by omega)] at h3
            obtain ⟨cs', h4, h5⟩ := Option.bind_eq_some_iff.1 h3
            obtain ⟨q, hq1, hq2⟩ := ih n' (by omega) h5
            exact ⟨q, ⟨cs', h4, hq1⟩, hq2⟩
          obtain ⟨F, hF⟩ := Deep.choose_lt (α := Pol) hx'
          refine ⟨(List.range len).map F, ⟨some ad, len, cap, rfl, by simp, hlc, fun hne => ?_⟩, rfl, fun p hp => ?_⟩
          · have hl0 : 0 < len := by
              rcases Nat.eq_zero_or_pos len with q | q
              · subst q; exact absurd rfl hne
              · exact q
            obtain ⟨⟨cs0, hc0, _⟩, _⟩ := hF 0 hl0
            obtain ⟨_, hl4, hcell⟩ := World.cells?_some hc0
            have h00 := hcell 0 (by decide)
            rw [List.getElem?_eq_getElem (by omega)] at h00
            have ha : ad = ⟨ad.block, ad.off, none⟩ := spot_none (a := ad) (by simpa [Addr.add] using h00)
            refine ⟨ad.block, ad.off, by rw [← ha], fun i p hp => ?_⟩
            have hi : i < len := by
              have := (List.getElem?_eq_some_iff.1 hp).1
              simpa using this
            have hpF : p = F i := by
              rw [List.getElem?_map, List.getElem?_range hi] at hp
              simp only [Option.map_some, Option.some.injEq] at hp
              exact hp.symm
            subst hpF
            obtain ⟨⟨cs', hc', hC⟩, _⟩ := hF i hi
            obtain ⟨_, hl', hcell'⟩ := World.cells?_some hc'
            refine ⟨cs', hC, fun j u hu => ⟨?_, fun h => h⟩⟩
            have hj := (List.getElem?_eq_some_iff.1 hu).1
            have h6 := hcell' j (by omega)
            rw [ha, add_plain, add_plain, hu] at h6
            exact h6
          · obtain ⟨i, hi, rfl⟩ := List.mem_map.1 hp
            exact (hF i (List.mem_range.1 hi)).2
      obtain ⟨ps, hps1, hps2, hps3⟩ := hsl
      simp at hk
      subst hk
      have hq' : cellsP (zT q) [b, c] (stW w) := hq
      refine ⟨.mk k q ps, ⟨by rw [polT_eq]; rfl, ?_⟩, .mk hqd hps3⟩
      rw [polT_eq]
      exact ⟨rfl, rfl, hq'.1, hq'.2.1, hq'.2.2.1, hq'.2.2.2.1, hps1, hps2, trivial⟩
/-- An argument that is a polynomial. -/
theorem bring_pol (T : PolTy P tP tI tL tN tZ tB tU) {r : Reach} {b0 : Nat} {v : Value} {d : DataW H} {ps : List MemPlace} (hval : Value.okWide P w r b0 tP v) (h : DataW.Trod enc P w 0 sp held tP v d ps) :
    ∃ p : Pol, (tV encP p).p v (stW w) ∧ Dg p := by
  obtain ⟨f0, f1, f2, hu, _⟩ := T.p
  obtain ⟨cs, rfl, _⟩ := okWide_struct hu hval
  obtain ⟨fuel, hf⟩ := h
  obtain ⟨p, h1, h2⟩ := bringP T fuel hf
  exact ⟨p, ⟨rfl, h1⟩, h2⟩
/-- An argument that is an array of four small integers. -/
theorem bring_x {tA tE : TypeId} (hA : P.underlying tA = some (.array 4 tE)) (hE : P.underlying tE = some (.int .i16)) (cA : P.cellsOf tA = 4) (cE : P.cellsOf tE = 1) {r : Reach} {b0 : Nat} {v : Value} {d : DataW H} {ps : List MemPlace}
    (hval : Value.okWide P w r b0 tA v) (h : DataW.Trod enc P w 0 sp held tA v d ps) : ∃ m : Mo, (tV encX m).p v (stW w) ∧ ∀ i, i < 4 → -32768 ≤ m.at i ∧ m.at i ≤ 32767 := by
  have hv : ∃ cs, v = .agg cs := by
    simp only [Value.okWide, hA] at hval
    obtain ⟨cs, h1, _⟩ := hval
    exact ⟨cs, h1⟩
  obtain ⟨cs, rfl⟩ := hv
  obtain ⟨fuel, hf⟩ := h
  obtain ⟨xs, m, _, _, hl, hlen, hx⟩ := DataW.trod_array hA hf
  rw [cA] at hl
  obtain ⟨cs⟩ := cs
  have hl' : cs.length = 4 := by simpa [Value.cells] using hl
  match cs, hl' with
  | [a, b, c, d], _ =>
    have g : ∀ i, i < 4 → ∃ n, [[a], [b], [c], [d]][i]? = some [.int .i16 n] ∧ -32768 ≤ n ∧ n ≤ 32767 := fun i hi => by
      have h1 := hx i hi
      rw [cE, List.getElem?_eq_getElem (by omega), Nat.mul_one] at h1
      obtain ⟨n, h2, _, h3⟩ := DataW.trod_int hE h1
      refine ⟨n, ?_, bounds_i16 h3⟩
      match i, hi with
      | 0, _ => simpa [Value.cells] using h2
      | 1, _ => simpa [Value.cells] using h2
      | 2, _ => simpa [Value.cells] using h2
      | 3, _ => simpa [Value.cells] using h2
    obtain ⟨n0, e0, b0⟩ := g 0 (by decide)
    obtain ⟨n1, e1, b1⟩ := g 1 (by decide)
    obtain ⟨n2, e2, b2⟩ := g 2 (by decide)
    obtain ⟨n3, e3, b3⟩ := g 3 (by decide)
    simp at e0 e1 e2 e3
    subst e0; subst e1; subst e2; subst e3
    refine ⟨⟨n0, n1, n2, n3⟩, ⟨rfl, rfl, rfl, rfl, rfl, rfl, rfl, rfl, rfl, rfl, trivial⟩, fun i hi => ?_⟩
    match i, hi with
    | 0, _ => exact b0
    | 1, _ => exact b1
    | 2, _ => exact b2
    | 3, _ => exact b3
end bring
end Go.Rt
