/- The law PseudoMultiplicity: for any arguments the call returns true, and the arguments read as before. Conditions: none. -/
import Derived.Test.YtcbnpddeiaccbaaRows
import Derived.Test.YtcbnpddeiaccbaaW5
import Derived.WalkKit
import Derived.ProofKit
import Derived.OpenShut
namespace Go.Proofs.Ytcbnpddeiaccbaa.pseudoMultiplicity
open Go.ChangeShapes Go.WideShapes Go.ChangeAt Go.RowKit Go.Rt
set_option linter.unusedVariables false

theorem own : ownKnob Try.prog.godebug = none := by kernel_rfl
theorem laidOut : laidOutB Try.prog = true := by kernel_rfl
theorem polTy : PolTy Try.prog 28 25 26 23 3 4 128 where
  p := ⟨_, _, _, Try.underlying28, rfl, rfl, rfl, rfl, rfl, rfl⟩
  i := ⟨_, _, Try.underlying25, rfl, rfl, rfl, rfl⟩
  l := Try.underlying26
  n := Try.underlying23
  z := Try.underlying3
  b := Try.underlying4
  u := Try.underlying128
  cP := by kernel_rfl
  cI := by kernel_rfl
  cL := by kernel_rfl
  cN := by kernel_rfl
  cZ := by kernel_rfl
  cB := by kernel_rfl
  cU := by kernel_rfl
theorem termTy : TermTy Try.prog 54 97 95 3 25 where
  s := Try.underlying54
  t := ⟨_, _, Try.underlying97, rfl, rfl, rfl, rfl⟩
  m := Try.underlying95
  cS := by kernel_rfl
  cT := by kernel_rfl
  cM := by kernel_rfl

theorem walk (x0 : List Tm) (x1 : List Tm) (x2 : Int) (v0 : Value) (v1 : Value) (w : World) (h0 : (tSl X5 x0).p v0 (stW w)) (d0 : ∀ t ∈ x0, U7 t.coef.abs) (h1 : (tSl X5 x1).p v1 (stW w)) (d1 : ∀ t ∈ x1, U7 t.coef.abs) (d2 : 0 ≤ x2 ∧ x2 ≤ 255) :
    Calls Try.prog 8 #[v0, v1, .int .u8 x2] w fun e w' => e = .returned (.bool true) ∧ Below w.heap.size w w' :=
  Calls.mono (pseudoMult_c x0 x1 x2 d0 d1 d2 w (fun _ => False) (fun _ h => h.elim) [v0, v1, .int .u8 x2] ⟨h0, h1, rfl, trivial⟩) fun e w' ⟨v, he, hb, hv⟩ => ⟨by rw [he]; exact congrArg _ hv, hb⟩

set_option maxRecDepth 100000 in
theorem lifted (os : Os) (started : os.Started) (H : Type) (enc : TypeId × Value → H) :
    ReturnsInHanded {} Try.checked os 8 .any (Rows.pseudoMultiplicitySpec.pre6 enc Try.prog Try.f8 Rows.pseudoMultiplicityRow.domain false) (Rows.pseudoMultiplicitySpec.post enc Try.prog Try.f8 false true false false) := by
  refine returnsInHanded_of_change (C := Try.checked) own started (by kernel_rfl) Try.func8
    (ChangeSpec.witness6 (enc := enc) (C := Try.checked) false ⟨#[], #[.slice none 0 0, .slice none 0 0, .int .u8 0], []⟩ 8 (by kernel_rfl) (by kernel_rfl) (by kernel_rfl) (by kernel_rfl)) ?_
  intro W base args ds gs before hval0 hW hcnd _
  have hval : ∀ (j : Nat) t v, Try.f8.params[j]? = some t → args[j]? = some v → Value.okWide Try.prog W .any base t v := hval0
  have hW' := hW
  have hlt := hW.lt
  obtain ⟨p, q, hA0, hV, rfl, hfz, hnd⟩ := hW
  have hA : DataW.TrodAll enc Try.prog W 0 (fun _ => true) true Try.f8.params.toList args.toList ds p := hA0
  rw [Try.params8] at hA hval
  obtain ⟨v0, vs0, d0, ds0, p0, q0, hargs, rfl, rfl, h0, r0⟩ := trodAll_cons hA
  obtain ⟨v1, vs1, d1, ds1, p1, q1, rfl, rfl, rfl, h1, r1⟩ := trodAll_cons r0
  obtain ⟨v2, vs2, d2, ds2, p2, q2, rfl, rfl, rfl, h2, r2⟩ := trodAll_cons r1
  obtain ⟨rfl, rfl, rfl⟩ := trodAll_nil r2
  obtain rfl : args = #[v0, v1, v2] := by cases args; simp_all
  obtain ⟨rfl, rfl⟩ := trodVars_none hV
  obtain ⟨X0, hX0, hD0⟩ := bring_terms polTy termTy (hval 0 54 v0 rfl rfl) h0
  obtain ⟨X1, hX1, hD1⟩ := bring_terms polTy termTy (hval 1 54 v1 rfl rfl) h1
  obtain ⟨X2, rfl, rfl, rfl, u2⟩ := open_int Try.underlying5 (hval 2 5 v2 rfl rfl) h2
  clear hA0 hval0
  simp only [List.append_nil] at hW' hlt
  refine (walk X0 X1 X2 v0 v1 W hX0 hD0 hX1 hD1 (u8_of u2)).mono fun e W' ⟨he, hg⟩ => ?_
  subst he
  have l0 : ∀ x ∈ p0, x.block < W.heap.size := fun x hx => hlt x (by simp [hx])
  have l1 : ∀ x ∈ p1, x.block < W.heap.size := fun x hx => hlt x (by simp [hx])
  exact ⟨_, rfl, post_below (pa := p0 ++ (p1 ++ [])) (pv := []) hW' hg (fun _ _ _ => (trodAll_cons_mk (shut_bool Try.underlying4 _) trodAll_mk0))
    (fun sp hsp => (trodAll_cons_mk (WideElems.Trod_stays laidOut (by kernel_rfl) (of_decide_eq_true (by kernel_rfl)) h0 (fun x hx => hg.same (l0 x hx)) (fun x hx => hsp x (by simp [hx]))) (trodAll_cons_mk (WideElems.Trod_stays laidOut (by kernel_rfl) (of_decide_eq_true (by kernel_rfl)) h1 (fun x hx => hg.same (l1 x hx)) (fun x hx => hsp x (by simp [hx]))) (trodAll_cons_mk (shut_int Try.underlying5 u2) trodAll_mk0)))) (fun _ _ => rfl) (by simp)
    (ok_one (by kernel_rfl) rfl (okWide_bool_mk Try.underlying4 _))⟩

theorem over : Rows.pseudoMultiplicityRow.holds Try.pinned (OpenSpec.ofChange Rows.pseudoMultiplicitySpec) :=
  OpenClaim.holds_of_wide 8 Try.f8 rfl rfl rfl rfl rfl rfl rfl ⟨rfl, rfl, rfl, rfl, rfl⟩ rfl rfl rfl rfl rfl (by kernel_rfl) Try.func8 (by kernel_rfl)
    (of_decide_eq_true (by kernel_rfl)) (by unfold Func.isWrapper; first | (rw [if_pos (by decide +kernel)]; kernel_rfl) | (rw [if_neg (by decide +kernel)]; exact ⟨rfl, rfl⟩))
    (fun os started H enc _ => lifted os started H enc)

theorem proved : Rows.PseudoMultiplicitySaid :=
  over
end Go.Proofs.Ytcbnpddeiaccbaa.pseudoMultiplicity
