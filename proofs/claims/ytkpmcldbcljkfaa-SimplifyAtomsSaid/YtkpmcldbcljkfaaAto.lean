/- The law SimplifyAtoms: for any polynomial, relation and integers the call returns true, and the arguments read as before. Conditions: none. -/
import Derived.Test.YtkpmcldbcljkfaaRows
import Derived.Test.YtkpmcldbcljkfaaRtX
import Derived.Test.YtkpmcldbcljkfaaW6
import Derived.WalkKit
import Derived.ProofKit
import Derived.OpenShut
namespace Go.Proofs.Ytkpmcldbcljkfaa.simplifyAtoms
open Go.ChangeShapes Go.WideShapes Go.ChangeAt Go.RowKit Go.Rt
set_option linter.unusedVariables false

theorem own : ownKnob Try.prog.godebug = none := by kernel_rfl
theorem laidOut : laidOutB Try.prog = true := by kernel_rfl
theorem polTy : PolTy Try.prog 28 25 26 23 3 4 86 where
  p := ⟨_, _, _, Try.underlying28, rfl, rfl, rfl, rfl, rfl, rfl⟩
  i := ⟨_, _, Try.underlying25, rfl, rfl, rfl, rfl⟩
  l := Try.underlying26
  n := Try.underlying23
  z := Try.underlying3
  b := Try.underlying4
  u := Try.underlying86
  cP := by kernel_rfl
  cI := by kernel_rfl
  cL := by kernel_rfl
  cN := by kernel_rfl
  cZ := by kernel_rfl
  cB := by kernel_rfl
  cU := by kernel_rfl

theorem walk (p : Pol) (r : Int) (x : Mo) (v0 v2 : Value) (w : World) (h0 : (tV encP p).p v0 (stW w)) (h2 : (tV encX x).p v2 (stW w)) (hd : Dg p) (hr : -128 ≤ r ∧ r ≤ 127) (hx : ∀ i, i < 4 → -32768 ≤ x.at i ∧ x.at i ≤ 32767) :
    Calls Try.prog 3 #[v0, .int .i8 r, v2] w fun e w' => e = .returned (.bool true) ∧ Below w.heap.size w w' :=
  Calls.mono (atoms_c p r x hd hr hx w (fun _ => False) (fun _ h => h.elim) [v0, .int .i8 r, v2] ⟨h0, rfl, h2, trivial⟩) fun e w' ⟨v, he, hb, hv⟩ => ⟨by rw [he]; exact congrArg _ hv, hb⟩

set_option maxRecDepth 100000 in
theorem lifted (os : Os) (started : os.Started) (H : Type) (enc : TypeId × Value → H) :
    ReturnsInHanded {} Try.checked os 3 .any (Rows.simplifyAtomsSpec.pre6 enc Try.prog Try.f3 Rows.simplifyAtomsRow.domain false) (Rows.simplifyAtomsSpec.post enc Try.prog Try.f3 false true false false) := by
  refine returnsInHanded_of_change (C := Try.checked) own started (by kernel_rfl) Try.func3
    (ChangeSpec.witness6 (enc := enc) (C := Try.checked) false ⟨#[], #[.agg #[.int .i64 0, .bool false, .slice none 0 0, .slice none 0 0], .int .i8 0, .agg #[.int .i16 0, .int .i16 0, .int .i16 0, .int .i16 0]], []⟩ 8 (by kernel_rfl) (by kernel_rfl) (by kernel_rfl) (by kernel_rfl)) ?_
  intro W base args ds gs before hval0 hW hcnd _
  have hval : ∀ (j : Nat) t v, Try.f3.params[j]? = some t → args[j]? = some v → Value.okWide Try.prog W .any base t v := hval0
  have hW' := hW
  have hlt := hW.lt
  obtain ⟨p, q, hA0, hV, rfl, hfz, hnd⟩ := hW
  have hA : DataW.TrodAll enc Try.prog W 0 (fun _ => true) true Try.f3.params.toList args.toList ds p := hA0
  rw [Try.params3] at hA hval
  obtain ⟨v0, vs0, d0, ds0, p0, q0, hargs, rfl, rfl, h0, r0⟩ := trodAll_cons hA
  obtain ⟨v1, vs1, d1, ds1, p1, q1, rfl, rfl, rfl, h1, r1⟩ := trodAll_cons r0
  obtain ⟨v2, vs2, d2, ds2, p2, q2, rfl, rfl, rfl, h2, r2⟩ := trodAll_cons r1
  obtain ⟨rfl, rfl, rfl⟩ := trodAll_nil r2
  obtain rfl : args = #[v0, v1, v2] := by cases args; simp_all
  obtain ⟨rfl, rfl⟩ := trodVars_none hV
  obtain ⟨a1, rfl, rfl, rfl, w1⟩ := open_int Try.underlying29 (hval 1 29 v1 rfl rfl) h1
  obtain ⟨P, hP, hDg⟩ := bring_pol polTy (hval 0 28 v0 rfl rfl) h0
  obtain ⟨X, hX, hXb⟩ := bring_x Try.underlying31 Try.underlying30 (by kernel_rfl) (by kernel_rfl) (hval 2 31 v2 rfl rfl) h2
  clear hA0 hval0
  simp only [List.append_nil] at hW' hlt
  refine (walk P a1 X v0 v2 W hP hX hDg (bounds_i8 w1) hXb).mono fun e W' ⟨he, hg⟩ => ?_
  subst he
  have l0 : ∀ x ∈ p0, x.block < W.heap.size := fun x hx => hlt x (by simp [hx])
  have l2 : ∀ x ∈ p2, x.block < W.heap.size := fun x hx => hlt x (by simp [hx])
  exact ⟨_, rfl, post_below (pa := p0 ++ ([] ++ (p2 ++ []))) (pv := []) hW' hg (fun _ _ _ => (trodAll_cons_mk (shut_bool Try.underlying4 _) trodAll_mk0))
    (fun sp hsp => (trodAll_cons_mk (WideElems.Trod_stays laidOut (by kernel_rfl) (of_decide_eq_true (by kernel_rfl)) h0 (fun x hx => hg.same (l0 x hx)) (fun x hx => hsp x (by simp [hx])))
      (trodAll_cons_mk (shut_int Try.underlying29 w1)
      (trodAll_cons_mk (WideElems.Trod_stays laidOut (by kernel_rfl) (of_decide_eq_true (by kernel_rfl)) h2 (fun x hx => hg.same (l2 x hx)) (fun x hx => hsp x (by simp [hx]))) trodAll_mk0)))) (fun _ _ => rfl) (by simp)
    (ok_one (by kernel_rfl) rfl (okWide_bool_mk Try.underlying4 _))⟩

theorem over : Rows.simplifyAtomsRow.holds Try.pinned (OpenSpec.ofChange Rows.simplifyAtomsSpec) :=
  OpenClaim.holds_of_wide 3 Try.f3 rfl rfl rfl rfl rfl rfl rfl ⟨rfl, rfl, rfl, rfl, rfl⟩ rfl rfl rfl rfl rfl (by kernel_rfl) Try.func3 (by kernel_rfl)
    (of_decide_eq_true (by kernel_rfl)) (by unfold Func.isWrapper; first | (rw [if_pos (by decide +kernel)]; kernel_rfl) | (rw [if_neg (by decide +kernel)]; exact ⟨rfl, rfl⟩))
    (fun os started H enc _ => lifted os started H enc)

/-- ████ THE STATEMENT ████ -/
theorem proved : Rows.SimplifyAtomsSaid :=
  over
end Go.Proofs.Ytkpmcldbcljkfaa.simplifyAtoms
