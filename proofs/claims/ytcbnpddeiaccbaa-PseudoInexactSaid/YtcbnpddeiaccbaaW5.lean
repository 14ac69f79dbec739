/- Walks through the program: each function called at values of the kinds that its contract names returns what the contract says. Conditions: those in the contracts. Written by the program wip/gen. -/
import Derived.Test.YtcbnpddeiaccbaaW4
set_option linter.unusedVariables false
set_option linter.unusedSimpArgs false
set_option maxRecDepth 100000
set_option maxHeartbeats 4000000
namespace Go.Proofs.Ytcbnpddeiaccbaa
open Go Go.RowKit Go.Rt
theorem pExact_c {D E u B : Nat} (f g : Pol) (pf : Pg D B f) (pg : Pg E u g) (ng : nrm g + 2 ≤ B32 ^ u) (rm : Rm 4 D E u B) : Ctr Try.prog 28 [tV encP f, tV encP g] (tTup [tV encP (exQ f g), tIs (.int .i64 (exE f g))]) := by
 have hb := rm.base
 refine Ctr.of Try.func28 rfl Try.ntmps28 (Nat.le_of_ble_eq_true rfl) fun w0 M0 => (JC.g ?_)
 refine J.boxF (Ts := (pT f)) (.t rfl) (polT_eq _) (ltN rfl) fun b2 => ?_
 refine J.boxF (Ts := (pT g)) (.t rfl) (polT_eq _) (ltN rfl) fun b3 => ?_
 refine J.alloc (R := cTs zP) zr28 (fun _ => ⟨rfl, rfl, rfl, rfl, slP_nil _ _, rfl, slP_nil _ _, rfl, trivial⟩) (ltN rfl) fun b4 => ?_
 refine J.a .is rfl (J.e (JC.seq (JC.g (J.o (oa (.t rfl) (.tail _ (.head _)) ag28 (cTs_ldV (g := polT) (y := g) (polT_eq g).symm rfl)) rfl ?_))))
 refine J.o (ot_buildSlice (E := encP) (zs := [g]) sl26 (.cons (.t rfl) .nil) rfl zr28 rfl (by decide) (by decide)) rfl ?_
 refine J.o (oc fn73 (zeros_c g pg ⟨by omega, by omega⟩) (.cons (.t rfl) .nil)) rfl (J.A rfl rfl (J.e (JC.g (J.M rfl rfl (J.o (ot_neq (.t rfl) .is) rfl (J.e ?_))))))
 refine JC.cond (.t rfl) (fun hc0 => ?_) (fun hc0 => ?_)
 ·try simp only [bsx] at hc0
  have hs15 := hc0
  have hz : zeroP g = true := by cases hz : zeroP g with | true => rfl | false => rw [hz] at hs15; simp at hs15
  refine (JC.g ?_)
  refine J.o (ot_eqt (T' := tV encP (Pol.mk 0 (Z.mk false ([])) ([]))) (ot_build (Ts := zP) pl28 (fun _ => ⟨rfl, rfl, rfl, rfl, slP_nil _ _, rfl, slP_nil _ _, rfl, trivial⟩) (.nil) rfl) (tV_F' (polT_eq _))) rfl (J.M rfl rfl ?_)
  refine J.store (.t rfl) (.eq (.t rfl) (tV_F (Ts := zP) (polT_eq _))) .here sz28 (st_agg (Ts' := zP) (o := 0) rfl) (J.A rfl rfl (J.e (JC.ret (JQ.then_ret ?_))))
  exact JQ.ret2 rfl (.agg (.t rfl) (.head _) ag28 (agg_eq (T := tV encP (Pol.mk 0 (Z.mk false ([])) ([]))) (T' := tV encP (exQ f g)) (by rw [exQ, if_pos hz]; rfl) (cTs_ldV (g := polT) (y := (Pol.mk 0 (Z.mk false ([])) ([]))) (polT_eq (Pol.mk 0 (Z.mk false ([])) ([]))).symm rfl))) (.tmp (.eq (.t rfl) (by rw [exE, if_pos hz, if_pos hz])))
 ·try simp only [bsx] at hc0
  have hs15 := hc0
  have hz : zeroP g = false := by cases hz : zeroP g with | false => rfl | true => rw [hz] at hs15; simp at hs15
  refine JC.skip (JQ.then_normal (JC.seq ?_))
  refine JC.weak (Γ' := [(5, tIs (.int .i64 0)), (4, pOwn b4 0), (3, pOwn b3 0), (2, pOwn b2 0)]) (H' := [⟨b4, 28, cTs zP⟩, ⟨b3, 28, cTs (pT g)⟩, ⟨b2, 28, cTs (pT f)⟩]) (sub_trans (sub_heap (.k (.k (.k .nil)))) (sub_l ⟨.t rfl, .t rfl, .t rfl, .t rfl, trivial⟩)) ?_
  refine JC.drawP (Ts := [tV encP f, tV encP f, tV encP g, tV encP g, tAny, tAny, tAny, tAny]) (un := (fun i => [4, 5, 6, 7].contains i)) mo (by kernel_rfl) ?_
  suffices both : ∀ b7 b8, RP _ _ _ _ [⟨b8, 28, cTs zP⟩, ⟨b7, 28, cTs zP⟩, ⟨b4, 28, cTs zP⟩, ⟨b3, 28, cTs (pT g)⟩, ⟨b2, 28, cTs (pT f)⟩] [tV encP f, tV encP f, tV encP g, tV encP g, pOwn b7 0, pOwn b8 0, tAny, tAny] (fun i => [4, 5].contains i) (fun i => [6, 7].contains i) by
   refine RP.two (al := (fun i => [0, 1, 2, 3].contains i)) (Γn := [(21, tV encP g), (20, tV encP g), (19, tV encP f), (18, tV encP f), (5, tIs (.int .i64 0)), (4, pOwn b4 0), (3, pOwn b3 0), (2, pOwn b2 0)]) (Γ' := ?pg1) 4 5 (by kernel_rfl) (by kernel_rfl) ?tp1 ?nx1 ?ny1
   case tp1 =>
    refine TP.op (oa (.t rfl) (.tail _ (.tail _ (.head _))) ag28 (cTs_ldV (g := polT) (y := f) (polT_eq f).symm rfl)) rfl (ltN rfl) rfl rfl ?_
    refine TP.op (oc fn45 (normK_c f pf ⟨by omega, by omega⟩) (.cons (.t rfl) .nil)) rfl (ltN rfl) rfl rfl ?_
    refine TP.op (oa (.t rfl) (.tail _ (.head _)) ag28 (cTs_ldV (g := polT) (y := g) (polT_eq g).symm rfl)) rfl (ltN rfl) rfl rfl ?_
    refine TP.op (oc fn45 (normK_c g pg ⟨by omega, by omega⟩) (.cons (.t rfl) .nil)) rfl (ltN rfl) rfl rfl ?_
    refine TP.at rfl rfl ?_
    refine TP.skip rfl rfl rfl ?_
    refine TP.skip0 rfl rfl rfl ?_
    refine TP.skip0 rfl rfl rfl ?_
    exact TP.nil
   case nx1 =>
    refine OneStep.mk (ι := Nat) (Hb := fun κ => [⟨κ, 28, cTs zP⟩, ⟨b4, 28, cTs zP⟩, ⟨b3, 28, cTs (pT g)⟩, ⟨b2, 28, cTs (pT f)⟩]) (Tb := fun κ => [tV encP f, tV encP f, tV encP g, tV encP g, pOwn κ 0, tAny, tAny, tAny]) (fun i => [4].contains i) (fun i => [5, 6, 7].contains i) rfl rfl (fun _ => ⟨.inr rfl, ⟨.inr rfl, ⟨.inr rfl, ⟨.inr rfl, ⟨.inl rfl, ⟨.inl rfl, ⟨.inl rfl, ⟨.inl rfl, trivial⟩⟩⟩⟩⟩⟩⟩⟩) (by kernel_rfl) ?op1_4 ?mx1_4
    case op1_4 =>
     intro Γx hx
     refine J.alloc (R := cTs zP) zr28 (fun _ => ⟨rfl, rfl, rfl, rfl, slP_nil _ _, rfl, slP_nil _ _, rfl, trivial⟩) (ltN rfl) fun b7 => ?_
     exact J.midP (Hb := fun κ => [⟨κ, 28, cTs zP⟩, ⟨b4, 28, cTs zP⟩, ⟨b3, 28, cTs (pT g)⟩, ⟨b2, 28, cTs (pT f)⟩]) (Tb := fun κ => [tV encP f, tV encP f, tV encP g, tV encP g, pOwn κ 0, tAny, tAny, tAny]) (n := 4) b7 rfl
    case mx1_4 =>
     intro b7
     refine RP.step (al := (fun i => [0, 1, 2, 3].contains i)) (Γn := [(7, pOwn b7 0), (21, tV encP g), (20, tV encP g), (19, tV encP f), (18, tV encP f), (5, tIs (.int .i64 0)), (4, pOwn b4 0), (3, pOwn b3 0), (2, pOwn b2 0)]) (Γ' := ?pg2) 5 (by kernel_rfl) (by kernel_rfl) ?tp2 ?nx2
     case tp2 =>
      refine TP.op (oa (.t rfl) (.tail _ (.tail _ (.tail _ (.head _)))) ag28 (cTs_ldV (g := polT) (y := f) (polT_eq f).symm rfl)) rfl (ltN rfl) rfl rfl ?_
      refine TP.op (oc fn45 (normK_c f pf ⟨by omega, by omega⟩) (.cons (.t rfl) .nil)) rfl (ltN rfl) rfl rfl ?_
      refine TP.op (oa (.t rfl) (.tail _ (.tail _ (.head _))) ag28 (cTs_ldV (g := polT) (y := g) (polT_eq g).symm rfl)) rfl (ltN rfl) rfl rfl ?_
      refine TP.op (oc fn45 (normK_c g pg ⟨by omega, by omega⟩) (.cons (.t rfl) .nil)) rfl (ltN rfl) rfl rfl ?_
      refine TP.skip rfl rfl rfl ?_
      refine TP.at rfl rfl ?_
      refine TP.skip0 rfl rfl rfl ?_
      refine TP.skip0 rfl rfl rfl ?_
      exact TP.nil
     case nx2 =>
     refine OneStep.mk (ι := Nat) (Hb := fun κ => [⟨κ, 28, cTs zP⟩, ⟨b7, 28, cTs zP⟩, ⟨b4, 28, cTs zP⟩, ⟨b3, 28, cTs (pT g)⟩, ⟨b2, 28, cTs (pT f)⟩]) (Tb := fun κ => [tV encP f, tV encP f, tV encP g, tV encP g, pOwn b7 0, pOwn κ 0, tAny, tAny]) (fun i => [4, 5].contains i) (fun i => [6, 7].contains i) rfl rfl (fun _ => ⟨.inr rfl, ⟨.inr rfl, ⟨.inr rfl, ⟨.inr rfl, ⟨.inr rfl, ⟨.inl rfl, ⟨.inl rfl, ⟨.inl rfl, trivial⟩⟩⟩⟩⟩⟩⟩⟩) (by kernel_rfl) ?op2_5 ?mx2_5
     case op2_5 =>
      intro Γx hx
      refine J.alloc (R := cTs zP) zr28 (fun _ => ⟨rfl, rfl, rfl, rfl, slP_nil _ _, rfl, slP_nil _ _, rfl, trivial⟩) (ltN rfl) fun b8 => ?_
      exact J.midP (Hb := fun κ => [⟨κ, 28, cTs zP⟩, ⟨b7, 28, cTs zP⟩, ⟨b4, 28, cTs zP⟩, ⟨b3, 28, cTs (pT g)⟩, ⟨b2, 28, cTs (pT f)⟩]) (Tb := fun κ => [tV encP f, tV encP f, tV encP g, tV encP g, pOwn b7 0, pOwn κ 0, tAny, tAny]) (n := 5) b8 rfl
     case mx2_5 =>
      intro b8
      exact both b7 b8
   case ny1 =>
    refine OneStep.mk (ι := Nat) (Hb := fun κ => [⟨κ, 28, cTs zP⟩, ⟨b4, 28, cTs zP⟩, ⟨b3, 28, cTs (pT g)⟩, ⟨b2, 28, cTs (pT f)⟩]) (Tb := fun κ => [tV encP f, tV encP f, tV encP g, tV encP g, tAny, pOwn κ 0, tAny, tAny]) (fun i => [5].contains i) (fun i => [4, 6, 7].contains i) rfl rfl (fun _ => ⟨.inr rfl, ⟨.inr rfl, ⟨.inr rfl, ⟨.inr rfl, ⟨.inl rfl, ⟨.inl rfl, ⟨.inl rfl, ⟨.inl rfl, trivial⟩⟩⟩⟩⟩⟩⟩⟩) (by kernel_rfl) ?op1_5 ?mx1_5
    case op1_5 =>
     intro Γx hx
     refine J.alloc (R := cTs zP) zr28 (fun _ => ⟨rfl, rfl, rfl, rfl, slP_nil _ _, rfl, slP_nil _ _, rfl, trivial⟩) (ltN rfl) fun b8 => ?_
     exact J.midP (Hb := fun κ => [⟨κ, 28, cTs zP⟩, ⟨b4, 28, cTs zP⟩, ⟨b3, 28, cTs (pT g)⟩, ⟨b2, 28, cTs (pT f)⟩]) (Tb := fun κ => [tV encP f, tV encP f, tV encP g, tV encP g, tAny, pOwn κ 0, tAny, tAny]) (n := 5) b8 rfl
    case mx1_5 =>
     intro b8
     refine RP.step (al := (fun i => [0, 1, 2, 3].contains i)) (Γn := [(21, tV encP g), (20, tV encP g), (19, tV encP f), (18, tV encP f), (5, tIs (.int .i64 0)), (4, pOwn b4 0), (3, pOwn b3 0), (2, pOwn b2 0)]) (Γ' := ?pg3) 4 (by kernel_rfl) (by kernel_rfl) ?tp3 ?nx3
     case tp3 =>
      refine TP.op (oa (.t rfl) (.tail _ (.tail _ (.tail _ (.head _)))) ag28 (cTs_ldV (g := polT) (y := f) (polT_eq f).symm rfl)) rfl (ltN rfl) rfl rfl ?_
      refine TP.op (oc fn45 (normK_c f pf ⟨by omega, by omega⟩) (.cons (.t rfl) .nil)) rfl (ltN rfl) rfl rfl ?_
      refine TP.op (oa (.t rfl) (.tail _ (.tail _ (.head _))) ag28 (cTs_ldV (g := polT) (y := g) (polT_eq g).symm rfl)) rfl (ltN rfl) rfl rfl ?_
      refine TP.op (oc fn45 (normK_c g pg ⟨by omega, by omega⟩) (.cons (.t rfl) .nil)) rfl (ltN rfl) rfl rfl ?_
      refine TP.at rfl rfl ?_
      refine TP.skip rfl rfl rfl ?_
      refine TP.skip0 rfl rfl rfl ?_
      refine TP.skip0 rfl rfl rfl ?_
      exact TP.nil
     case nx3 =>
     refine OneStep.mk (ι := Nat) (Hb := fun κ => [⟨b8, 28, cTs zP⟩, ⟨κ, 28, cTs zP⟩, ⟨b4, 28, cTs zP⟩, ⟨b3, 28, cTs (pT g)⟩, ⟨b2, 28, cTs (pT f)⟩]) (Tb := fun κ => [tV encP f, tV encP f, tV encP g, tV encP g, pOwn κ 0, pOwn b8 0, tAny, tAny]) (fun i => [4, 5].contains i) (fun i => [6, 7].contains i) rfl rfl (fun _ => ⟨.inr rfl, ⟨.inr rfl, ⟨.inr rfl, ⟨.inr rfl, ⟨.inl rfl, ⟨.inr rfl, ⟨.inl rfl, ⟨.inl rfl, trivial⟩⟩⟩⟩⟩⟩⟩⟩) (by kernel_rfl) ?op3_4 ?mx3_4
     case op3_4 =>
      intro Γx hx
      refine J.alloc (R := cTs zP) zr28 (fun _ => ⟨rfl, rfl, rfl, rfl, slP_nil _ _, rfl, slP_nil _ _, rfl, trivial⟩) (ltN rfl) fun b7 => ?_
      refine fun a w hs => J.midP (Hb := fun κ => [⟨b8, 28, cTs zP⟩, ⟨κ, 28, cTs zP⟩, ⟨b4, 28, cTs zP⟩, ⟨b3, 28, cTs (pT g)⟩, ⟨b2, 28, cTs (pT f)⟩]) (Tb := fun κ => [tV encP f, tV encP f, tV encP g, tV encP g, pOwn κ 0, pOwn b8 0, tAny, tAny]) (n := 4) b7 rfl a w hs.swap
     case mx3_4 =>
      intro b7
      exact both b7 b8
  intro b7 b8
  refine RP.step (al := (fun i => [0, 1, 2, 3].contains i)) (Γn := [(8, pOwn b8 0), (7, pOwn b7 0), (21, tV encP g), (20, tV encP g), (19, tV encP f), (18, tV encP f), (5, tIs (.int .i64 0)), (4, pOwn b4 0), (3, pOwn b3 0), (2, pOwn b2 0)]) (Γ' := ?pg4) 6 (by kernel_rfl) (by kernel_rfl) ?tp4 ?nx4
  case tp4 =>
   refine TP.op (oa (.t rfl) (.tail _ (.tail _ (.tail _ (.tail _ (.head _))))) ag28 (cTs_ldV (g := polT) (y := f) (polT_eq f).symm rfl)) rfl (ltN rfl) rfl rfl ?_
   refine TP.op (oc fn45 (normK_c f pf ⟨by omega, by omega⟩) (.cons (.t rfl) .nil)) rfl (ltN rfl) rfl rfl ?_
   refine TP.op (oa (.t rfl) (.tail _ (.tail _ (.tail _ (.head _)))) ag28 (cTs_ldV (g := polT) (y := g) (polT_eq g).symm rfl)) rfl (ltN rfl) rfl rfl ?_
   refine TP.op (oc fn45 (normK_c g pg ⟨by omega, by omega⟩) (.cons (.t rfl) .nil)) rfl (ltN rfl) rfl rfl ?_
   refine TP.skip rfl rfl rfl ?_
   refine TP.skip rfl rfl rfl ?_
   refine TP.at0 rfl rfl ?_
   refine TP.skip0 rfl rfl rfl ?_
   exact TP.nil
  case nx4 =>
  refine OneStep.mk (ι := Unit) (Hb := fun κ => [⟨b8, 28, cTs zP⟩, ⟨b7, 28, cTs (pT f)⟩, ⟨b4, 28, cTs zP⟩, ⟨b3, 28, cTs (pT g)⟩, ⟨b2, 28, cTs (pT f)⟩]) (Tb := fun κ => [tV encP f, tV encP f, tV encP g, tV encP g, pOwn b7 0, pOwn b8 0, tAny, tAny]) (fun i => [0, 1, 2, 3, 4, 5, 6].contains i) (fun i => [7].contains i) rfl rfl (fun _ => ⟨.inr rfl, ⟨.inr rfl, ⟨.inr rfl, ⟨.inr rfl, ⟨.inr rfl, ⟨.inr rfl, ⟨.inl rfl, ⟨.inl rfl, trivial⟩⟩⟩⟩⟩⟩⟩⟩) (by kernel_rfl) ?op4_6 ?mx4_6
  case op4_6 =>
   intro Γx hx
   refine J.store (.move hx (.t rfl) (by kernel_rfl)) (.eq (.move hx (.t rfl) (by kernel_rfl)) (tV_F (Ts := (pT f)) (polT_eq _))) (.there .here) sz28 (st_agg (Ts' := (pT f)) (o := 0) rfl) ?_
   exact J.midP (Hb := fun κ => [⟨b8, 28, cTs zP⟩, ⟨b7, 28, cTs (pT f)⟩, ⟨b4, 28, cTs zP⟩, ⟨b3, 28, cTs (pT g)⟩, ⟨b2, 28, cTs (pT f)⟩]) (Tb := fun κ => [tV encP f, tV encP f, tV encP g, tV encP g, pOwn b7 0, pOwn b8 0, tAny, tAny]) (n := 6) () rfl
  case mx4_6 =>
   intro _
   refine RP.step (al := (fun _ => false)) (Γn := [(8, pOwn b8 0), (7, pOwn b7 0), (21, tV encP g), (20, tV encP g), (19, tV encP f), (18, tV encP f), (5, tIs (.int .i64 0)), (4, pOwn b4 0), (3, pOwn b3 0), (2, pOwn b2 0)]) (Γ' := ?pg5) 7 (by kernel_rfl) (by kernel_rfl) ?tp5 ?nx5
   case tp5 =>
    refine TP.skip rfl rfl rfl ?_
    refine TP.skip rfl rfl rfl ?_
    refine TP.skip rfl rfl rfl ?_
    refine TP.skip rfl rfl rfl ?_
    refine TP.skip rfl rfl rfl ?_
    refine TP.skip rfl rfl rfl ?_
    refine TP.skip0 rfl rfl rfl ?_
    refine TP.at0 rfl rfl ?_
    exact TP.nil
   case nx5 =>
   refine OneStep.mk (ι := Unit) (Hb := fun κ => [⟨b8, 28, cTs (pT g)⟩, ⟨b7, 28, cTs (pT f)⟩, ⟨b4, 28, cTs zP⟩, ⟨b3, 28, cTs (pT g)⟩, ⟨b2, 28, cTs (pT f)⟩]) (Tb := fun κ => [tV encP f, tV encP f, tV encP g, tV encP g, pOwn b7 0, pOwn b8 0, tAny, tAny]) (fun i => [0, 1, 2, 3, 4, 5, 6, 7].contains i) (fun _ => false) rfl rfl (fun _ => ⟨.inr rfl, ⟨.inr rfl, ⟨.inr rfl, ⟨.inr rfl, ⟨.inr rfl, ⟨.inr rfl, ⟨.inr rfl, ⟨.inl rfl, trivial⟩⟩⟩⟩⟩⟩⟩⟩) (by kernel_rfl) ?op5_7 ?mx5_7
   case op5_7 =>
    intro Γx hx
    refine J.store (.move hx (.t rfl) (by kernel_rfl)) (.eq (.move hx (.t rfl) (by kernel_rfl)) (tV_F (Ts := (pT g)) (polT_eq _))) .here sz28 (st_agg (Ts' := (pT g)) (o := 0) rfl) ?_
    exact J.midP (Hb := fun κ => [⟨b8, 28, cTs (pT g)⟩, ⟨b7, 28, cTs (pT f)⟩, ⟨b4, 28, cTs zP⟩, ⟨b3, 28, cTs (pT g)⟩, ⟨b2, 28, cTs (pT f)⟩]) (Tb := fun κ => [tV encP f, tV encP f, tV encP g, tV encP g, pOwn b7 0, pOwn b8 0, tAny, tAny]) (n := 7) () rfl
   case mx5_7 =>
    intro _
    refine RP.last (al := (fun _ => false)) (Γn := []) (Γ' := [(8, pOwn b8 0), (7, pOwn b7 0), (21, tV encP g), (20, tV encP g), (19, tV encP f), (18, tV encP f), (5, tIs (.int .i64 0)), (4, pOwn b4 0), (3, pOwn b3 0), (2, pOwn b2 0)]) (by kernel_rfl) (by kernel_rfl) ?tp6 ?_
    case tp6 =>
     refine TP.skip rfl rfl rfl ?_
     refine TP.skip rfl rfl rfl ?_
     refine TP.skip rfl rfl rfl ?_
     refine TP.skip rfl rfl rfl ?_
     refine TP.skip rfl rfl rfl ?_
     refine TP.skip rfl rfl rfl ?_
     refine TP.skip0 rfl rfl rfl ?_
     refine TP.skip0 rfl rfl rfl ?_
     exact TP.nil
    refine JQ.then_normal (JC.g (J.o (oa (.t rfl) (.tail _ (.head _)) ag28 (cTs_ldV (g := polT) (y := f) (polT_eq f).symm rfl)) rfl (J.o (oa (.t rfl) (.head _) ag28 (cTs_ldV (g := polT) (y := g) (polT_eq g).symm rfl)) rfl ?_)))
    refine J.o (oc fn74 (pexact_c 4 f g (Nat.le_refl 4) pf.can pg.can hz pf.sz pg.sz ng pf.nr rm) (.cons (.t rfl) (.cons (.t rfl) .nil))) rfl (J.M rfl rfl ?_)
    refine J.o (ot_extract (.t rfl) rfl) rfl ?_
    refine J.o (ot_extract (.t rfl) rfl) rfl ?_
    refine J.alloc (R := cTs zP) zr28 (fun _ => ⟨rfl, rfl, rfl, rfl, slP_nil _ _, rfl, slP_nil _ _, rfl, trivial⟩) (ltN rfl) fun b9 => ?_
    refine J.store (.t rfl) (.eq (.t rfl) (tV_F (Ts := [tIs (.int .i64 (((exactF 4 f g).getD p0).lv)), tIs (.bool ((((exactF 4 f g).getD p0).c).neg)), tSl encD ((((exactF 4 f g).getD p0).c).abs), tSl encP (((exactF 4 f g).getD p0).cs)]) (polT_eq _))) .here sz28 (st_agg (Ts' := [tIs (.int .i64 (((exactF 4 f g).getD p0).lv)), tIs (.bool ((((exactF 4 f g).getD p0).c).neg)), tSl encD ((((exactF 4 f g).getD p0).c).abs), tSl encP (((exactF 4 f g).getD p0).cs)]) (o := 0) rfl) (J.A rfl rfl (J.e (JC.seq (JC.g (J.M rfl rfl (J.o (ot_not (.t rfl)) rfl (J.e ?_)))))))
    refine JC.cond (.t rfl) (fun hc1 => ?_) (fun hc1 => ?_)
    ·try simp only [bsx] at hc1
     have hs29 := hc1
     have hno : (exactF 4 f g).isSome = false := by simpa using hs29
     refine (JC.g ?_)
     refine J.o (ot_eqt (T' := tV encP (Pol.mk 0 (Z.mk false ([])) ([]))) (ot_build (Ts := zP) pl28 (fun _ => ⟨rfl, rfl, rfl, rfl, slP_nil _ _, rfl, slP_nil _ _, rfl, trivial⟩) (.nil) rfl) (tV_F' (polT_eq _))) rfl ?_
     refine J.store (.t rfl) (.eq (.t rfl) (tV_F (Ts := zP) (polT_eq _))) (.there (.there (.there .here))) sz28 (st_agg (Ts' := zP) (o := 0) rfl) ?_
     refine J.a .is rfl (J.e (JC.ret (JQ.then_ret ?_)))
     exact JQ.ret2 rfl (.agg (.t rfl) (.tail _ (.tail _ (.tail _ (.head _)))) ag28 (agg_eq (T := tV encP (Pol.mk 0 (Z.mk false ([])) ([]))) (T' := tV encP (exQ f g)) (by rw [exQ, if_neg (by rw [hz]; decide), none_of hno]; rfl) (cTs_ldV (g := polT) (y := (Pol.mk 0 (Z.mk false ([])) ([]))) (polT_eq (Pol.mk 0 (Z.mk false ([])) ([]))).symm rfl))) (.tmp (.eq (.t rfl) (by rw [exE, if_neg (by rw [hz]; decide), hno]; rfl)))
    ·try simp only [bsx] at hc1
     have hs29 := hc1
     have hok : (exactF 4 f g).isSome = true := by simpa using hs29
     refine JC.skip (JQ.then_normal (JC.g (J.o (oa (.t rfl) (.head _) ag28 (cTs_ldV (g := polT) (y := ((exactF 4 f g).getD p0)) (polT_eq ((exactF 4 f g).getD p0)).symm rfl)) rfl ?_)))
     refine J.store (.t rfl) (.eq (.t rfl) (tV_F (Ts := [tIs (.int .i64 (((exactF 4 f g).getD p0).lv)), tIs (.bool ((((exactF 4 f g).getD p0).c).neg)), tSl encD ((((exactF 4 f g).getD p0).c).abs), tSl encP (((exactF 4 f g).getD p0).cs)]) (polT_eq _))) (.there (.there (.there .here))) sz28 (st_agg (Ts' := [tIs (.int .i64 (((exactF 4 f g).getD p0).lv)), tIs (.bool ((((exactF 4 f g).getD p0).c).neg)), tSl encD ((((exactF 4 f g).getD p0).c).abs), tSl encP (((exactF 4 f g).getD p0).cs)]) (o := 0) rfl) ?_
     refine J.a .is rfl (J.e (JC.ret ?_))
     exact JQ.ret2 rfl (.agg (.t rfl) (.tail _ (.tail _ (.tail _ (.head _)))) ag28 (agg_eq (T := tV encP ((exactF 4 f g).getD p0)) (T' := tV encP (exQ f g)) (by rw [exQ, if_neg (by rw [hz]; decide)]) (cTs_ldV (g := polT) (y := ((exactF 4 f g).getD p0)) (polT_eq ((exactF 4 f g).getD p0)).symm rfl))) (.tmp (.eq (.t rfl) (by rw [exE, if_neg (by rw [hz]; decide), hok]; rfl)))

theorem divides_c {D E u B : Nat} (g f : Pol) (pf : Pg D B f) (pg : Pg E u g) (ng : nrm g + 2 ≤ B32 ^ u) (rm : Rm 4 D E u B) (hE : (E + 1) ^ 4 ≤ 1000000000) : Ctr Try.prog 33 [tV encP g, tV encP f] (tIs (.bool (dvP g f))) := by
 have hb := rm.base
 refine Ctr.of Try.func33 rfl Try.ntmps33 (Nat.le_of_ble_eq_true rfl) fun w0 M0 => (JC.g ?_)
 refine J.boxF (Ts := (pT g)) (.t rfl) (polT_eq _) (ltN rfl) fun b2 => ?_
 refine J.boxF (Ts := (pT f)) (.t rfl) (polT_eq _) (ltN rfl) fun b3 => ?_
 refine J.a .is rfl (J.e (JC.seq (JC.g (J.o (oa (.t rfl) (.tail _ (.head _)) ag28 (cTs_ldV (g := polT) (y := g) (polT_eq g).symm rfl)) rfl ?_))))
 refine J.o (oc fn30 (isZeroK_c g pg ⟨by omega, by omega⟩) (.cons (.t rfl) .nil)) rfl (J.e ?_)
 refine JC.cond (.t rfl) (fun hc0 => ?_) (fun hc0 => ?_)
 ·try simp only [bsx] at hc0
  have hs8 := hc0
  refine (JC.g (J.o (oa (.t rfl) (.head _) ag28 (cTs_ldV (g := polT) (y := f) (polT_eq f).symm rfl)) rfl ?_))
  refine J.o (oc fn30 (isZeroK_c f pf ⟨by omega, by omega⟩) (.cons (.t rfl) .nil)) rfl (J.A rfl rfl (J.e (JC.ret (JQ.then_ret ?_))))
  exact JQ.ret1 rfl (.tmp (.eq (.t rfl) (by rw [dvP, if_pos (by simpa using hs8)])))
 ·try simp only [bsx] at hc0
  have hs8 := hc0
  have hz : zeroP g = false := by simpa using hs8
  have hq := pg.msign hb.2.1 hz
  have hmz := msign_ne pg.can hz
  refine JC.skip (JQ.then_normal (JC.seq ?_))
  refine JC.weak (Γ' := [(4, tIs (.bool false)), (3, pOwn b3 0), (2, pOwn b2 0)]) (H' := [⟨b3, 28, cTs (pT f)⟩, ⟨b2, 28, cTs (pT g)⟩]) (sub_trans (sub_heap (.k (.k .nil))) (sub_l ⟨.t rfl, .t rfl, .t rfl, trivial⟩)) ?_
  refine JC.drawP (Ts := [tV encP f, tV encP g, tV encP (msign g), tTup [tV encP (exQ f (msign g)), tIs (.int .i64 (exE f (msign g)))], tTup [tV encP (exQ f (msign g)), tIs (.int .i64 (exE f (msign g)))], tV encP (exQ f (msign g)), tIs (.int .i64 (exE f (msign g))), tAny, tAny, tAny]) (un := (fun i => [7, 8].contains i)) mo (by kernel_rfl) ?_
  refine RP.step (al := (fun i => [0, 1, 2, 3, 4, 5, 6].contains i)) (Γn := [(17, tIs (.int .i64 (exE f (msign g)))), (16, tV encP (exQ f (msign g))), (11, tTup [tV encP (exQ f (msign g)), tIs (.int .i64 (exE f (msign g)))]), (15, tTup [tV encP (exQ f (msign g)), tIs (.int .i64 (exE f (msign g)))]), (14, tV encP (msign g)), (13, tV encP g), (12, tV encP f), (4, tIs (.bool false)), (3, pOwn b3 0), (2, pOwn b2 0)]) (Γ' := ?pg1) 7 (by kernel_rfl) (by kernel_rfl) ?tp1 ?nx1
  case tp1 =>
   refine TP.op (oa (.t rfl) (.head _) ag28 (cTs_ldV (g := polT) (y := f) (polT_eq f).symm rfl)) rfl (ltN rfl) rfl rfl ?_
   refine TP.op (oa (.t rfl) (.tail _ (.head _)) ag28 (cTs_ldV (g := polT) (y := g) (polT_eq g).symm rfl)) rfl (ltN rfl) rfl rfl ?_
   refine TP.op (oc fn21 (msign_c g (pg.fit (by omega)) pg.nr (pg.cnt_le hE) (by omega) (pg.terms_le hb.2.1 hE) (by rw [norm_can pg.can]; exact ne_zeroP hz)) (.cons (.t rfl) .nil)) rfl (ltN rfl) rfl rfl ?_
   refine TP.op (oc fn28 (pExact_c f (msign g) pf hq (Nat.le_trans (Nat.add_le_add_right (nrm_msign' pg.can hz) 2) ng) rm) (.cons (.t rfl) (.cons (.t rfl) .nil))) rfl (ltN rfl) rfl rfl ?_
   refine TP.op (ot_move (.t rfl)) rfl (ltN rfl) rfl rfl ?_
   refine TP.op (ot_extract (.t rfl) rfl) rfl (ltN rfl) rfl rfl ?_
   refine TP.op (ot_extract (.t rfl) rfl) rfl (ltN rfl) rfl rfl ?_
   refine TP.at rfl rfl ?_
   refine TP.skip0 rfl rfl rfl ?_
   refine TP.skip rfl rfl rfl ?_
   exact TP.nil
  case nx1 =>
  refine OneStep.mk (ι := Nat) (Hb := fun κ => [⟨κ, 28, cTs zP⟩, ⟨b3, 28, cTs (pT f)⟩, ⟨b2, 28, cTs (pT g)⟩]) (Tb := fun κ => [tV encP f, tV encP g, tV encP (msign g), tTup [tV encP (exQ f (msign g)), tIs (.int .i64 (exE f (msign g)))], tTup [tV encP (exQ f (msign g)), tIs (.int .i64 (exE f (msign g)))], tV encP (exQ f (msign g)), tIs (.int .i64 (exE f (msign g))), pOwn κ 0, tAny, tAny]) (fun i => [7].contains i) (fun i => [8].contains i) rfl rfl (fun _ => ⟨.inr rfl, ⟨.inr rfl, ⟨.inr rfl, ⟨.inr rfl, ⟨.inr rfl, ⟨.inr rfl, ⟨.inr rfl, ⟨.inl rfl, ⟨.inl rfl, ⟨.inl rfl, trivial⟩⟩⟩⟩⟩⟩⟩⟩⟩⟩) (by kernel_rfl) ?op1_7 ?mx1_7
  case op1_7 =>
   intro Γx hx
   refine J.alloc (R := cTs zP) zr28 (fun _ => ⟨rfl, rfl, rfl, rfl, slP_nil _ _, rfl, slP_nil _ _, rfl, trivial⟩) (ltN rfl) fun b5 => ?_
   exact J.midP (Hb := fun κ => [⟨κ, 28, cTs zP⟩, ⟨b3, 28, cTs (pT f)⟩, ⟨b2, 28, cTs (pT g)⟩]) (Tb := fun κ => [tV encP f, tV encP g, tV encP (msign g), tTup [tV encP (exQ f (msign g)), tIs (.int .i64 (exE f (msign g)))], tTup [tV encP (exQ f (msign g)), tIs (.int .i64 (exE f (msign g)))], tV encP (exQ f (msign g)), tIs (.int .i64 (exE f (msign g))), pOwn κ 0, tAny, tAny]) (n := 7) b5 rfl
  case mx1_7 =>
   intro b5
   refine RP.step (al := (fun i => [0, 1, 2, 3, 4, 5, 6].contains i)) (Γn := [(5, pOwn b5 0), (17, tIs (.int .i64 (exE f (msign g)))), (16, tV encP (exQ f (msign g))), (11, tTup [tV encP (exQ f (msign g)), tIs (.int .i64 (exE f (msign g)))]), (15, tTup [tV encP (exQ f (msign g)), tIs (.int .i64 (exE f (msign g)))]), (14, tV encP (msign g)), (13, tV encP g), (12, tV encP f), (4, tIs (.bool false)), (3, pOwn b3 0), (2, pOwn b2 0)]) (Γ' := ?pg2) 8 (by kernel_rfl) (by kernel_rfl) ?tp2 ?nx2
   case tp2 =>
    refine TP.op (oa (.t rfl) (.tail _ (.head _)) ag28 (cTs_ldV (g := polT) (y := f) (polT_eq f).symm rfl)) rfl (ltN rfl) rfl rfl ?_
    refine TP.op (oa (.t rfl) (.tail _ (.tail _ (.head _))) ag28 (cTs_ldV (g := polT) (y := g) (polT_eq g).symm rfl)) rfl (ltN rfl) rfl rfl ?_
    refine TP.op (oc fn21 (msign_c g (pg.fit (by omega)) pg.nr (pg.cnt_le hE) (by omega) (pg.terms_le hb.2.1 hE) (by rw [norm_can pg.can]; exact ne_zeroP hz)) (.cons (.t rfl) .nil)) rfl (ltN rfl) rfl rfl ?_
    refine TP.op (oc fn28 (pExact_c f (msign g) pf hq (Nat.le_trans (Nat.add_le_add_right (nrm_msign' pg.can hz) 2) ng) rm) (.cons (.t rfl) (.cons (.t rfl) .nil))) rfl (ltN rfl) rfl rfl ?_
    refine TP.op (ot_move (.t rfl)) rfl (ltN rfl) rfl rfl ?_
    refine TP.op (ot_extract (.t rfl) rfl) rfl (ltN rfl) rfl rfl ?_
    refine TP.op (ot_extract (.t rfl) rfl) rfl (ltN rfl) rfl rfl ?_
    refine TP.skip rfl rfl rfl ?_
    refine TP.at0 rfl rfl ?_
    refine TP.skip rfl rfl rfl ?_
    exact TP.nil
   case nx2 =>
   refine OneStep.mk (ι := Unit) (Hb := fun κ => [⟨b5, 28, cTs [tIs (.int .i64 ((exQ f (msign g)).lv)), tIs (.bool (((exQ f (msign g)).c).neg)), tSl encD (((exQ f (msign g)).c).abs), tSl encP ((exQ f (msign g)).cs)]⟩, ⟨b3, 28, cTs (pT f)⟩, ⟨b2, 28, cTs (pT g)⟩]) (Tb := fun κ => [tV encP f, tV encP g, tV encP (msign g), tTup [tV encP (exQ f (msign g)), tIs (.int .i64 (exE f (msign g)))], tTup [tV encP (exQ f (msign g)), tIs (.int .i64 (exE f (msign g)))], tV encP (exQ f (msign g)), tIs (.int .i64 (exE f (msign g))), pOwn b5 0, tAny, tIs (.int .i64 (exE f (msign g)))]) (fun i => [0, 1, 2, 3, 4, 5, 7, 8].contains i) (fun _ => false) rfl rfl (fun _ => ⟨.inr rfl, ⟨.inr rfl, ⟨.inr rfl, ⟨.inr rfl, ⟨.inr rfl, ⟨.inr rfl, ⟨.inr rfl, ⟨.inr rfl, ⟨.inl rfl, ⟨.inl rfl, trivial⟩⟩⟩⟩⟩⟩⟩⟩⟩⟩) (by kernel_rfl) ?op2_8 ?mx2_8
   case op2_8 =>
    intro Γx hx
    refine J.store (.move hx (.t rfl) (by kernel_rfl)) (.eq (.move hx (.t rfl) (by kernel_rfl)) (tV_F (Ts := [tIs (.int .i64 ((exQ f (msign g)).lv)), tIs (.bool (((exQ f (msign g)).c).neg)), tSl encD (((exQ f (msign g)).c).abs), tSl encP ((exQ f (msign g)).cs)]) (polT_eq _))) .here sz28 (st_agg (Ts' := [tIs (.int .i64 ((exQ f (msign g)).lv)), tIs (.bool (((exQ f (msign g)).c).neg)), tSl encD (((exQ f (msign g)).c).abs), tSl encP ((exQ f (msign g)).cs)]) (o := 0) rfl) ?_
    exact J.midP (Hb := fun κ => [⟨b5, 28, cTs [tIs (.int .i64 ((exQ f (msign g)).lv)), tIs (.bool (((exQ f (msign g)).c).neg)), tSl encD (((exQ f (msign g)).c).abs), tSl encP ((exQ f (msign g)).cs)]⟩, ⟨b3, 28, cTs (pT f)⟩, ⟨b2, 28, cTs (pT g)⟩]) (Tb := fun κ => [tV encP f, tV encP g, tV encP (msign g), tTup [tV encP (exQ f (msign g)), tIs (.int .i64 (exE f (msign g)))], tTup [tV encP (exQ f (msign g)), tIs (.int .i64 (exE f (msign g)))], tV encP (exQ f (msign g)), tIs (.int .i64 (exE f (msign g))), pOwn b5 0, tAny, tIs (.int .i64 (exE f (msign g)))]) (n := 8) () rfl
   case mx2_8 =>
    intro _
    refine RP.last (al := (fun i => [6, 9].contains i)) (Γn := []) (Γ' := [(6, tIs (.int .i64 (exE f (msign g)))), (5, pOwn b5 0), (17, tIs (.int .i64 (exE f (msign g)))), (16, tV encP (exQ f (msign g))), (11, tTup [tV encP (exQ f (msign g)), tIs (.int .i64 (exE f (msign g)))]), (15, tTup [tV encP (exQ f (msign g)), tIs (.int .i64 (exE f (msign g)))]), (14, tV encP (msign g)), (13, tV encP g), (12, tV encP f), (4, tIs (.bool false)), (3, pOwn b3 0), (2, pOwn b2 0)]) (by kernel_rfl) (by kernel_rfl) ?tp3 ?_
    case tp3 =>
     refine TP.skip rfl rfl rfl ?_
     refine TP.skip rfl rfl rfl ?_
     refine TP.skip rfl rfl rfl ?_
     refine TP.skip rfl rfl rfl ?_
     refine TP.skip rfl rfl rfl ?_
     refine TP.skip rfl rfl rfl ?_
     refine TP.op (ot_extract (.t rfl) rfl) rfl (ltN rfl) rfl rfl ?_
     refine TP.skip rfl rfl rfl ?_
     refine TP.skip0 rfl rfl rfl ?_
     refine TP.op (ot_assign (.t rfl)) rfl (ltN rfl) rfl rfl ?_
     exact TP.nil
    refine JQ.then_normal (JC.g (J.M rfl rfl (J.o (ot_eql (.t rfl) .is) rfl (J.A rfl rfl (J.e (JC.ret ?_))))))
    exact JQ.ret1 rfl (.tmp (.eq (.t rfl) (by rw [dvP, if_neg (by rw [hz]; decide), exE, if_neg (by rw [hmz]; decide), opt_dec])))

theorem few20_c (ts : List Tm) (n d m : Int) (hn : n ≤ 1000000) : Ctr Try.prog 70 [tSl encTm ts, tIs (.int .i64 n), tIs (.int .i64 d), tIs (.int .i64 m)] (tIs (.bool (fewS ts n d m))) := by
 refine Ctr.of Try.func70 rfl Try.ntmps70 (Nat.le_of_ble_eq_true rfl) fun w0 M0 => (JC.g ?_)
 refine J.a .is rfl (J.e (JC.seq (JC.g (J.M rfl rfl (J.o (ot_len (.t rfl) sl54 rfl) rfl (J.M rfl rfl (J.o (ot_gtr (.t rfl) (.t rfl)) rfl (J.e ?_))))))))
 refine JC.cond (.t rfl) (fun hc0 => ?_) (fun hc0 => ?_)
 ·try simp only [bsx] at hc0
  have hs14 := hc0
  refine (JC.g ?_)
  refine J.a .is rfl (J.e (JC.ret (JQ.then_ret ?_)))
  exact JQ.ret1 rfl (.tmp (.eq (.t rfl) (by rw [fewS_long (by omega)])))
 ·try simp only [bsx] at hc0
  have hs14 := hc0
  refine JC.skip (JQ.then_normal (JC.seq (JC.g ?_)))
  refine J.a .is rfl (J.e (JC.block ?_))
  refine JC.loop (ι := Nat) (fun i => [(0, tSl encTm ts), (2, tIs (.int .i64 d)), (3, tIs (.int .i64 m)), (9, tIs (.int .i64 (i : Int)))]) (fun i => []) (fun i => i ≤ ts.length ∧ (ts.take i).all (fewT d m) = true) (fun i => ts.length - i) 0 ⟨by omega, by simp⟩ ?lsub0 ?round0
  case lsub0 => exact sub_trans (sub_heap .nil) (sub_l ⟨.t rfl, .t rfl, .t rfl, .eq (.t rfl) (by first | rfl | (congr 3; omega) | (congr 2; omega)), trivial⟩)
  intro i hinv
  obtain ⟨hi, hall⟩ := hinv
  refine JC.seq (JC.g (J.M rfl rfl (J.M rfl rfl (J.o (ot_len (.t rfl) sl54 rfl) rfl (J.o (ot_lss (.t rfl) (.t rfl)) rfl (J.e ?_))))))
  refine JC.cond (.t rfl) (fun hc1 => ?_) (fun hc1 => ?_)
  ·try simp only [bsx] at hc1
   have hs18 := hc1
   refine JC.skip (JQ.then_normal (JC.seq (JC.block (JC.seq (JC.g (J.M rfl rfl (J.M rfl rfl ?_)))))))
   refine J.o (ixo (z := atT ts i) (.t rfl) (.t rfl) sl54 (by omega) (atT_at rfl (by omega))) rfl (J.o (ofp (.t rfl) fd97_0 (fun _ _ h => h)) rfl (J.o (ofp (R' := cDrop (cEnc encTm (atT ts i)) 1) (.t rfl) fd25_1 (fun _ _ h => cDrop_mk h)) rfl (J.o (ld (.t rfl) sc23 (ldF rfl)) rfl (J.o (ot_len (.t rfl) sl23 rfl) rfl (J.M rfl rfl (J.o (ot_gtr (.t rfl) (.t rfl)) rfl (J.e ?_)))))))
   refine JC.cond (.t rfl) (fun hc2 => ?_) (fun hc2 => ?_)
   ·try simp only [bsx] at hc2
    have hs29 := hc2
    refine (JC.g ?_)
    refine J.a .is rfl (J.e (JC.ret (JQ.then_ret (JQ.block_ret (JQ.then_ret (JQ.then_ret (JQ.block_ret (JQ.then_ret ?_))))))))
    exact JQ.ret1 rfl (.tmp (.eq (.t rfl) (by rw [fewS_no (atT_mem (i := i) (by omega)) (fewT_len (by omega))])))
   ·try simp only [bsx] at hc2
    have hs29 := hc2
    refine JC.skip (JQ.then_normal (JC.g ?_))
    refine J.a .is rfl (J.e (JC.block ?_))
    refine JC.loop (ι := Nat) (fun k => [(0, tSl encTm ts), (2, tIs (.int .i64 d)), (3, tIs (.int .i64 m)), (9, tIs (.int .i64 (i : Int))), (10, tIs (.int .i64 (k : Int))), (15, tIs (.int .i64 (i : Int))), (16, tSl encTm ts), (17, tIs (.int .i64 (((ts).length : Int)))), (18, tIs (.bool (decide ((i : Int) < ((ts).length : Int))))), (21, tSl encTm ts), (22, tIs (.int .i64 (i : Int))), (23, tPtr (cEnc encTm (atT ts i))), (24, tPtr (cEnc encTm (atT ts i))), (25, tPtr (cDrop (cEnc encTm (atT ts i)) 1)), (26, tSl encD (((atT ts i).coef).abs)), (27, tIs (.int .i64 (((((atT ts i).coef).abs).length : Int)))), (28, tIs (.int .i64 d)), (29, tIs (.bool (decide (d < ((((atT ts i).coef).abs).length : Int)))))]) (fun k => []) (fun k => k ≤ 4 ∧ ∀ q, q < k → (atT ts i).exp.at q ≤ m ∧ -1000 ≤ (atT ts i).exp.at q) (fun k => 4 - k) 0 ⟨by omega, fun q hq => by omega⟩ ?lsub1 ?round1
    case lsub1 => exact sub_trans (sub_heap .nil) (sub_l ⟨.t rfl, .t rfl, .t rfl, .t rfl, .eq (.t rfl) (by first | rfl | (congr 3; omega) | (congr 2; omega)), .t rfl, .t rfl, .t rfl, .t rfl, .t rfl, .t rfl, .t rfl, .t rfl, .t rfl, .t rfl, .t rfl, .t rfl, .t rfl, trivial⟩)
    intro k hinv
    obtain ⟨hk, hks⟩ := hinv
    refine JC.seq (JC.g (J.M rfl rfl (J.o (ot_lss (.t rfl) .is) rfl (J.e ?_))))
    refine JC.cond (.t rfl) (fun hc3 => ?_) (fun hc3 => ?_)
    ·try simp only [bsx] at hc3
     have hs31 := hc3
     refine JC.skip (JQ.then_normal (JC.seq (JC.block (JC.g (J.M rfl rfl (J.M rfl rfl (J.M rfl rfl ?_)))))))
     refine J.o (ixo (z := atT ts i) (.t rfl) (.t rfl) sl54 (by omega) (atT_at rfl (by omega))) rfl (J.o (ofp (R' := cDrop (cEnc encTm (atT ts i)) 2) (.t rfl) fd97_1 (fun _ _ h => cDrop_mk h)) rfl ?_)
     refine J.o (ot_indexAddrP (T := tIs (.int .i64 ((atT ts i).exp.at k))) (.t rfl) (.t rfl) ar4_95 (by omega) (by omega) (tm_at (i := k) (by omega) (by omega))) rfl (J.o (ld (.t rfl) sc3 cOne_ld) rfl (J.M rfl rfl (J.o (ot_gtr (.t rfl) (.t rfl)) rfl (J.M rfl rfl ?_))))
     refine J.opg rfl rfl rfl (ltN rfl) (fun hg => ot_move (.t rfl)) rfl (ltN rfl) ?_
     refine J.opg rfl rfl rfl (ltN rfl) (fun hg => ot_move (.t rfl)) rfl (ltN rfl) ?_
     refine J.opg rfl rfl rfl (ltN rfl) (fun hg => ot_move (.t rfl)) rfl (ltN rfl) ?_
     refine J.opg rfl rfl rfl (ltN rfl) (fun hg => (by have hg' := hg; (try simp only [bsx] at hg'); exact ixo (z := atT ts i) (.iff hg (.t rfl)) (.iff hg (.t rfl)) sl54 (by omega) (atT_at rfl (by omega)))) rfl (ltN rfl) ?_
     refine J.opg rfl rfl rfl (ltN rfl) (fun hg => ofp (R' := cDrop (cEnc encTm (atT ts i)) 2) (.iff hg (.t rfl)) fd97_1 (fun _ _ h => cDrop_mk h)) rfl (ltN rfl) ?_
     refine J.opg rfl rfl rfl (ltN rfl) (fun hg => (by have hg' := hg; (try simp only [bsx] at hg'); exact ot_indexAddrP (T := tIs (.int .i64 ((atT ts i).exp.at k))) (.iff hg (.t rfl)) (.iff hg (.t rfl)) ar4_95 (by omega) (by omega) (tm_at (i := k) (by omega) (by omega)))) rfl (ltN rfl) ?_
     refine J.opg rfl rfl rfl (ltN rfl) (fun hg => ld (.iff hg (.t rfl)) sc3 cOne_ld) rfl (ltN rfl) ?_
     refine J.opg rfl rfl rfl (ltN rfl) (fun hg => ot_lss (.iff hg (.t rfl)) .is) rfl (ltN rfl) ?_
     refine J.o (ot_or2 (.t rfl) .is (.t rfl)) rfl (J.e ?_)
     refine JC.cond (.t rfl) (fun hc4 => ?_) (fun hc4 => ?_)
     ·try simp only [bsx] at hc4
      have hs52 := hc4
      refine (JC.g ?_)
      refine J.a .is rfl (J.e (JC.ret (JQ.block_ret (JQ.then_ret (JQ.then_ret (JQ.block_ret (JQ.block_ret (JQ.then_ret (JQ.then_ret (JQ.block_ret (JQ.then_ret ?_)))))))))))
      exact JQ.ret1 rfl (.tmp (.eq (.t rfl) (by rw [fewS_no (atT_mem (i := i) (by omega)) (fewT_exp (k := k) (by omega) (by omega))])))
     ·try simp only [bsx] at hc4
      have hs52 := hc4
      refine JC.skip (JQ.block_normal (JQ.then_normal (JC.region (J.M rfl rfl ?_))))
      refine J.o (ot_add (.t rfl) .is (w64 (by omega) (by omega))) rfl (J.A rfl rfl (J.nil ?_))
      exact JQ.round (k + 1) ⟨by omega, fun q hq => by rcases Nat.lt_or_ge q k with h | h; exact hks q h; rw [show q = k by omega]; omega⟩ (by omega) (sub_trans (sub_heap .nil) (sub_l ⟨.t rfl, .t rfl, .t rfl, .t rfl, .eq (.t rfl) (by first | rfl | (congr 3; omega) | (congr 2; omega)), .t rfl, .t rfl, .t rfl, .t rfl, .t rfl, .t rfl, .t rfl, .t rfl, .t rfl, .t rfl, .t rfl, .t rfl, .t rfl, trivial⟩))
    ·try simp only [bsx] at hc3
     have hs31 := hc3
     refine JC.exit (JQ.then_exit (JQ.then_exit (JQ.block_exit (JQ.block_normal (JQ.then_normal (JC.region (J.M rfl rfl ?_)))))))
     refine J.o (ot_add (.t rfl) .is (w64 (by omega) (by omega))) rfl (J.A rfl rfl (J.nil ?_))
     exact JQ.round (i + 1) ⟨by omega, allT_take (by omega) hall (fewT_yes (by omega) (fun q hq => hks q (by omega)))⟩ (by omega) (sub_trans (sub_heap .nil) (sub_l ⟨.t rfl, .t rfl, .t rfl, .eq (.t rfl) (by first | rfl | (congr 3; omega) | (congr 2; omega)), trivial⟩))
  ·try simp only [bsx] at hc1
   have hs18 := hc1
   refine JC.exit (JQ.then_exit (JQ.then_exit (JQ.block_exit (JQ.then_normal (JC.g ?_)))))
   refine J.a .is rfl (J.e (JC.ret ?_))
   exact JQ.ret1 rfl (.tmp (.eq (.t rfl) (by unfold fewS; rw [decide_eq_true (by omega)]; rw [show i = ts.length by omega, List.take_length] at hall; rw [hall]; rfl)))

theorem few24_c (ts : List Tm) (n m : Int) (hn : n ≤ 1000000) : Ctr Try.prog 26 [tSl encTm ts, tIs (.int .i64 n), tIs (.int .i64 m)] (tIs (.bool (fewS ts n 4 m))) := by
 refine Ctr.of Try.func26 rfl Try.ntmps26 (Nat.le_of_ble_eq_true rfl) fun w0 M0 => (JC.g ?_)
 refine J.a .is rfl (J.e (JC.g (J.M rfl rfl (J.M rfl rfl (J.M rfl rfl ?_)))))
 refine J.o (oc fn70 (few20_c ts n 4 m (by omega)) (.cons (.t rfl) (.cons (.t rfl) (.cons .is (.cons (.t rfl) .nil))))) rfl (J.A rfl rfl (J.e (JC.ret ?_)))
 exact JQ.ret1 rfl (.tmp (.t rfl))

theorem pow_c {D B : Nat} (p : Pol) (n : Int) (N : Nat) (hp : Pg D B p) (hn : n = (N : Int)) (hN : N < 64) (hD : 1 ≤ D) (hb : 2 + 2 * (D * N) ≤ 4294967296 ∧ 2 + 2 * (B * N) ≤ 40000000000 ∧ D ≤ 4294967296 ∧ B ≤ 40000000000) : Ctr Try.prog 69 [tV encP p, tIs (.int .i64 n)] (tV encP (powP p N)) := by
 have hpw := fun a (h : a ≤ N) => powP_pg hp hD a
 have hsz := fun a (h : a ≤ N) => (show D * a ≤ D * N ∧ B * a ≤ B * N from ⟨Nat.mul_le_mul_left _ h, Nat.mul_le_mul_left _ h⟩)
 refine Ctr.of Try.func69 rfl Try.ntmps69 (Nat.le_of_ble_eq_true rfl) fun w0 M0 => (JC.g ?_)
 refine J.boxF (Ts := (pT p)) (.t rfl) (polT_eq _) (ltN rfl) fun b2 => ?_
 refine J.alloc (R := cTs zP) zr28 (fun _ => ⟨rfl, rfl, rfl, rfl, slP_nil _ _, rfl, slP_nil _ _, rfl, trivial⟩) (ltN rfl) fun b4 => (J.e (JC.g ?_))
 refine J.o (oc fn37 (intOf_c 1 (by omega)) (.cons .is .nil)) rfl ?_
 refine J.o (ot_eqt (T' := tV encP (powP p 0)) (oc fn36 (constK_c (ofI 1) (by rw [ofI1_len]; omega)) (.cons (.t rfl) .nil)) (by rw [zval_ofI]; rfl)) rfl ?_
 refine J.alloc (R := cTs zP) zr28 (fun _ => ⟨rfl, rfl, rfl, rfl, slP_nil _ _, rfl, slP_nil _ _, rfl, trivial⟩) (ltN rfl) fun b5 => ?_
 refine J.store (.t rfl) (.eq (.t rfl) (tV_F (Ts := [tIs (.int .i64 ((powP p 0).lv)), tIs (.bool (((powP p 0).c).neg)), tSl encD (((powP p 0).c).abs), tSl encP ((powP p 0).cs)]) (polT_eq _))) .here sz28 (st_agg (Ts' := [tIs (.int .i64 ((powP p 0).lv)), tIs (.bool (((powP p 0).c).neg)), tSl encD (((powP p 0).c).abs), tSl encP ((powP p 0).cs)]) (o := 0) rfl) (J.e (JC.seq (JC.g (J.o (oa (.t rfl) (.tail _ (.tail _ (.head _))) ag28 (cTs_ldV (g := polT) (y := p) (polT_eq p).symm rfl)) rfl ?_))))
 refine J.o (oc fn45 (normK_c p hp ⟨by omega, by omega⟩) (.cons (.t rfl) .nil)) rfl ?_
 refine J.alloc (R := cTs zP) zr28 (fun _ => ⟨rfl, rfl, rfl, rfl, slP_nil _ _, rfl, slP_nil _ _, rfl, trivial⟩) (ltN rfl) fun b6 => ?_
 refine J.store (.t rfl) (.eq (.t rfl) (tV_F (Ts := (pT p)) (polT_eq _))) .here sz28 (st_agg (Ts' := (pT p)) (o := 0) rfl) (J.e (JC.block ?_))
 refine JC.loop4 (α := Nat) (β := Nat) (γ := Nat) (δ := Nat) (fun a b m c => [(1, tIs (.int .i64 (m : Int))), (4, pOwn b4 0), (5, pOwn b5 0), (6, pOwn c 0)]) (fun a b m c => [⟨c, 28, cTs [tIs (.int .i64 ((powP p b).lv)), tIs (.bool (((powP p b).c).neg)), tSl encD (((powP p b).c).abs), tSl encP ((powP p b).cs)]⟩, ⟨b5, 28, cTs [tIs (.int .i64 ((powP p a).lv)), tIs (.bool (((powP p a).c).neg)), tSl encD (((powP p a).c).abs), tSl encP ((powP p a).cs)]⟩, ⟨b4, 28, cTs zP⟩, ⟨b2, 28, cTs (pT p)⟩]) (fun a b m c => a + b * m = N ∧ 1 ≤ b) (fun a b m c => m) 0 1 N b6 ⟨by omega, by omega⟩ ?lsub0 ?round0
 case lsub0 => exact sub_trans (sub_heap (.keep (by rw [powP_one hp.can]; exact fun _ _ h => h) (.k (.k (.k .nil))))) (sub_l ⟨.eq (.t rfl) (by rw [hn]), .t rfl, .t rfl, .t rfl, trivial⟩)
 intro a b m c hinv
 obtain ⟨hab, hb1⟩ := hinv
 refine JC.seq (JC.g (J.M rfl rfl (J.o (ot_gtr (.t rfl) .is) rfl (J.e ?_))))
 refine JC.cond (.t rfl) (fun hc0 => ?_) (fun hc0 => ?_)
 ·try simp only [bsx] at hc0
  have hs12 := hc0
  have hm1 : 1 ≤ m := by omega
  have hbm : b * 1 ≤ b * m := Nat.mul_le_mul_left _ hm1
  have hmb : 1 * m ≤ b * m := Nat.mul_le_mul_right _ hb1
  have hpa := hpw a (by omega)
  have hpb := hpw b (by omega)
  have hsa := hsz a (by omega)
  have hsb := hsz b (by omega)
  have hand := and1 m (by omega)
  have hshr := shr1 m (by omega)
  refine JC.skip (JQ.then_normal (JC.seq (JC.block (JC.seq (JC.g (J.M rfl rfl ?_))))))
  refine J.o (ot_and (.t rfl) .is hand) rfl (J.o (ot_eql (.t rfl) .is) rfl (J.e ?_))
  refine JC.cond (.t rfl) (fun hc1 => ?_) (fun hc1 => ?_)
  ·try simp only [bsx] at hc1
   have hs17 := hc1
   refine JC.region (J.o (oa (.t rfl) (.tail _ (.head _)) ag28 (cTs_ldV (g := polT) (y := (powP p a)) (polT_eq (powP p a)).symm rfl)) rfl (J.o (oa (.t rfl) (.head _) ag28 (cTs_ldV (g := polT) (y := (powP p b)) (polT_eq (powP p b)).symm rfl)) rfl ?_))
   refine J.o (oc fn75 (rmul_c 4 (powP p a) (powP p b) hpa.can.lev hpb.can.lev hpa.sz hpb.sz (Nat.le_refl _) ⟨by omega, by omega, by omega⟩ hpa.nr hpb.nr (by omega)) (.cons (.t rfl) (.cons (.t rfl) .nil))) rfl ?_
   refine J.store (.t rfl) (.eq (.t rfl) (tV_F (Ts := [tIs (.int .i64 ((mulF 4 (powP p a) (powP p b)).lv)), tIs (.bool (((mulF 4 (powP p a) (powP p b)).c).neg)), tSl encD (((mulF 4 (powP p a) (powP p b)).c).abs), tSl encP ((mulF 4 (powP p a) (powP p b)).cs)]) (polT_eq _))) (.there .here) sz28 (st_agg (Ts' := [tIs (.int .i64 ((mulF 4 (powP p a) (powP p b)).lv)), tIs (.bool (((mulF 4 (powP p a) (powP p b)).c).neg)), tSl encD (((mulF 4 (powP p a) (powP p b)).c).abs), tSl encP ((mulF 4 (powP p a) (powP p b)).cs)]) (o := 0) rfl) (J.e (JC.g (J.M rfl rfl (J.o (ot_gtr (.t rfl) .is) rfl (J.e ?_)))))
   refine JC.cond (.t rfl) (fun hc2 => ?_) (fun hc2 => ?_)
   ·try simp only [bsx] at hc2
    have hs22 := hc2
    refine JC.region (J.o (oa (.t rfl) (.head _) ag28 (cTs_ldV (g := polT) (y := (powP p b)) (polT_eq (powP p b)).symm rfl)) rfl (J.o (oa (.t rfl) (.head _) ag28 (cTs_ldV (g := polT) (y := (powP p b)) (polT_eq (powP p b)).symm rfl)) rfl ?_))
    refine J.o (oc fn75 (rmul_c 4 (powP p b) (powP p b) hpb.can.lev hpb.can.lev hpb.sz hpb.sz (Nat.le_refl _) ⟨by omega, by omega, by omega⟩ hpb.nr hpb.nr (by omega)) (.cons (.t rfl) (.cons (.t rfl) .nil))) rfl ?_
    refine J.store (.t rfl) (.eq (.t rfl) (tV_F (Ts := [tIs (.int .i64 ((mulF 4 (powP p b) (powP p b)).lv)), tIs (.bool (((mulF 4 (powP p b) (powP p b)).c).neg)), tSl encD (((mulF 4 (powP p b) (powP p b)).c).abs), tSl encP ((mulF 4 (powP p b) (powP p b)).cs)]) (polT_eq _))) .here sz28 (st_agg (Ts' := [tIs (.int .i64 ((mulF 4 (powP p b) (powP p b)).lv)), tIs (.bool (((mulF 4 (powP p b) (powP p b)).c).neg)), tSl encD (((mulF 4 (powP p b) (powP p b)).c).abs), tSl encP ((mulF 4 (powP p b) (powP p b)).cs)]) (o := 0) rfl) (J.nil (JQ.block_normal (JQ.then_normal (JC.seq (JC.g (J.o (oa (.t rfl) (.head _) ag28 (cTs_ldV (g := polT) (y := (mulF 4 (powP p b) (powP p b))) (polT_eq (mulF 4 (powP p b) (powP p b))).symm rfl)) rfl (J.e (JC.region ?_))))))))
    refine J.alloc (R := cTs zP) zr28 (fun _ => ⟨rfl, rfl, rfl, rfl, slP_nil _ _, rfl, slP_nil _ _, rfl, trivial⟩) (ltN rfl) fun b6 => ?_
    refine J.store (.t rfl) (.eq (.t rfl) (tV_F (Ts := [tIs (.int .i64 ((mulF 4 (powP p b) (powP p b)).lv)), tIs (.bool (((mulF 4 (powP p b) (powP p b)).c).neg)), tSl encD (((mulF 4 (powP p b) (powP p b)).c).abs), tSl encP ((mulF 4 (powP p b) (powP p b)).cs)]) (polT_eq _))) .here sz28 (st_agg (Ts' := [tIs (.int .i64 ((mulF 4 (powP p b) (powP p b)).lv)), tIs (.bool (((mulF 4 (powP p b) (powP p b)).c).neg)), tSl encD (((mulF 4 (powP p b) (powP p b)).c).abs), tSl encP ((mulF 4 (powP p b) (powP p b)).cs)]) (o := 0) rfl) (J.e (JC.region (J.M rfl rfl ?_)))
    refine J.o (ot_shr (.t rfl) .is (by omega) hshr) rfl (J.A rfl rfl (J.nil ?_))
    exact JQ.round4 (i := a) (i2 := b) (i3 := m) (i4 := c) (a + b) (b + b) (m / 2) b6 ⟨pow_odd hab (by omega), by omega⟩ (by omega) (sub_trans (sub_heap (.keep (by rw [← powP_add hp.can]; exact fun _ _ h => h) (.drop (.keep (by rw [← powP_add hp.can]; exact fun _ _ h => h) (.k (.k .nil)))))) (sub_l ⟨.eq (.t rfl) (by first | rfl | (congr 3; omega) | (congr 2; omega)), .t rfl, .t rfl, .t rfl, trivial⟩))
   ·try simp only [bsx] at hc2
    have hs22 := hc2
    refine JC.skip (JQ.block_normal (JQ.then_normal (JC.seq (JC.g (J.o (oa (.t rfl) (.head _) ag28 (cTs_ldV (g := polT) (y := (powP p b)) (polT_eq (powP p b)).symm rfl)) rfl (J.e (JC.region ?_)))))))
    refine J.alloc (R := cTs zP) zr28 (fun _ => ⟨rfl, rfl, rfl, rfl, slP_nil _ _, rfl, slP_nil _ _, rfl, trivial⟩) (ltN rfl) fun b6 => ?_
    refine J.store (.t rfl) (.eq (.t rfl) (tV_F (Ts := [tIs (.int .i64 ((powP p b).lv)), tIs (.bool (((powP p b).c).neg)), tSl encD (((powP p b).c).abs), tSl encP ((powP p b).cs)]) (polT_eq _))) .here sz28 (st_agg (Ts' := [tIs (.int .i64 ((powP p b).lv)), tIs (.bool (((powP p b).c).neg)), tSl encD (((powP p b).c).abs), tSl encP ((powP p b).cs)]) (o := 0) rfl) (J.e (JC.region (J.M rfl rfl ?_)))
    refine J.o (ot_shr (.t rfl) .is (by omega) hshr) rfl (J.A rfl rfl (J.nil ?_))
    exact JQ.round4 (i := a) (i2 := b) (i3 := m) (i4 := c) (a + b) b (m / 2) b6 ⟨pow_last hab (by omega), by omega⟩ (by omega) (sub_trans (sub_heap (.k (.drop (.keep (by rw [← powP_add hp.can]; exact fun _ _ h => h) (.k (.k .nil)))))) (sub_l ⟨.eq (.t rfl) (by first | rfl | (congr 3; omega) | (congr 2; omega)), .t rfl, .t rfl, .t rfl, trivial⟩))
  ·try simp only [bsx] at hc1
   have hs17 := hc1
   refine JC.skip (JQ.then_normal (JC.g (J.M rfl rfl (J.o (ot_gtr (.t rfl) .is) rfl (J.e ?_)))))
   refine JC.cond (.t rfl) (fun hc3 => ?_) (fun hc3 => ?_)
   ·try simp only [bsx] at hc3
    have hs22 := hc3
    refine JC.region (J.o (oa (.t rfl) (.head _) ag28 (cTs_ldV (g := polT) (y := (powP p b)) (polT_eq (powP p b)).symm rfl)) rfl (J.o (oa (.t rfl) (.head _) ag28 (cTs_ldV (g := polT) (y := (powP p b)) (polT_eq (powP p b)).symm rfl)) rfl ?_))
    refine J.o (oc fn75 (rmul_c 4 (powP p b) (powP p b) hpb.can.lev hpb.can.lev hpb.sz hpb.sz (Nat.le_refl _) ⟨by omega, by omega, by omega⟩ hpb.nr hpb.nr (by omega)) (.cons (.t rfl) (.cons (.t rfl) .nil))) rfl ?_
    refine J.store (.t rfl) (.eq (.t rfl) (tV_F (Ts := [tIs (.int .i64 ((mulF 4 (powP p b) (powP p b)).lv)), tIs (.bool (((mulF 4 (powP p b) (powP p b)).c).neg)), tSl encD (((mulF 4 (powP p b) (powP p b)).c).abs), tSl encP ((mulF 4 (powP p b) (powP p b)).cs)]) (polT_eq _))) .here sz28 (st_agg (Ts' := [tIs (.int .i64 ((mulF 4 (powP p b) (powP p b)).lv)), tIs (.bool (((mulF 4 (powP p b) (powP p b)).c).neg)), tSl encD (((mulF 4 (powP p b) (powP p b)).c).abs), tSl encP ((mulF 4 (powP p b) (powP p b)).cs)]) (o := 0) rfl) (J.nil (JQ.block_normal (JQ.then_normal (JC.seq (JC.g (J.o (oa (.t rfl) (.head _) ag28 (cTs_ldV (g := polT) (y := (mulF 4 (powP p b) (powP p b))) (polT_eq (mulF 4 (powP p b) (powP p b))).symm rfl)) rfl (J.e (JC.region ?_))))))))
    refine J.alloc (R := cTs zP) zr28 (fun _ => ⟨rfl, rfl, rfl, rfl, slP_nil _ _, rfl, slP_nil _ _, rfl, trivial⟩) (ltN rfl) fun b6 => ?_
    refine J.store (.t rfl) (.eq (.t rfl) (tV_F (Ts := [tIs (.int .i64 ((mulF 4 (powP p b) (powP p b)).lv)), tIs (.bool (((mulF 4 (powP p b) (powP p b)).c).neg)), tSl encD (((mulF 4 (powP p b) (powP p b)).c).abs), tSl encP ((mulF 4 (powP p b) (powP p b)).cs)]) (polT_eq _))) .here sz28 (st_agg (Ts' := [tIs (.int .i64 ((mulF 4 (powP p b) (powP p b)).lv)), tIs (.bool (((mulF 4 (powP p b) (powP p b)).c).neg)), tSl encD (((mulF 4 (powP p b) (powP p b)).c).abs), tSl encP ((mulF 4 (powP p b) (powP p b)).cs)]) (o := 0) rfl) (J.e (JC.region (J.M rfl rfl ?_)))
    refine J.o (ot_shr (.t rfl) .is (by omega) hshr) rfl (J.A rfl rfl (J.nil ?_))
    exact JQ.round4 (i := a) (i2 := b) (i3 := m) (i4 := c) a (b + b) (m / 2) b6 ⟨pow_even hab (by omega), by omega⟩ (by omega) (sub_trans (sub_heap (.keep (by rw [← powP_add hp.can]; exact fun _ _ h => h) (.drop (.k (.k (.k .nil)))))) (sub_l ⟨.eq (.t rfl) (by first | rfl | (congr 3; omega) | (congr 2; omega)), .t rfl, .t rfl, .t rfl, trivial⟩))
   ·try simp only [bsx] at hc3
    have hs22 := hc3
    refine JC.skip (JQ.block_normal (JQ.then_normal (JC.seq (JC.g (J.o (oa (.t rfl) (.head _) ag28 (cTs_ldV (g := polT) (y := (powP p b)) (polT_eq (powP p b)).symm rfl)) rfl (J.e (JC.region ?_)))))))
    refine J.alloc (R := cTs zP) zr28 (fun _ => ⟨rfl, rfl, rfl, rfl, slP_nil _ _, rfl, slP_nil _ _, rfl, trivial⟩) (ltN rfl) fun b6 => ?_
    refine J.store (.t rfl) (.eq (.t rfl) (tV_F (Ts := [tIs (.int .i64 ((powP p b).lv)), tIs (.bool (((powP p b).c).neg)), tSl encD (((powP p b).c).abs), tSl encP ((powP p b).cs)]) (polT_eq _))) .here sz28 (st_agg (Ts' := [tIs (.int .i64 ((powP p b).lv)), tIs (.bool (((powP p b).c).neg)), tSl encD (((powP p b).c).abs), tSl encP ((powP p b).cs)]) (o := 0) rfl) (J.e (JC.region (J.M rfl rfl ?_)))
    refine J.o (ot_shr (.t rfl) .is (by omega) hshr) rfl (J.A rfl rfl (J.nil ?_))
    exact JQ.round4 (i := a) (i2 := b) (i3 := m) (i4 := c) a b (m / 2) b6 ⟨by omega, by omega⟩ (by omega) (sub_trans (sub_heap (.k (.drop (.k (.k (.k .nil)))))) (sub_l ⟨.eq (.t rfl) (by first | rfl | (congr 3; omega) | (congr 2; omega)), .t rfl, .t rfl, .t rfl, trivial⟩))
 ·try simp only [bsx] at hc0
  have hs12 := hc0
  have ha : a = N := by rw [show m = 0 by omega] at hab; omega
  refine JC.exit (JQ.then_exit (JQ.then_exit (JQ.block_exit (JQ.then_normal (JC.g (J.o (oa (.t rfl) (.tail _ (.head _)) ag28 (cTs_ldV (g := polT) (y := (powP p a)) (polT_eq (powP p a)).symm rfl)) rfl ?_))))))
  refine J.store (.t rfl) (.eq (.t rfl) (tV_F (Ts := [tIs (.int .i64 ((powP p a).lv)), tIs (.bool (((powP p a).c).neg)), tSl encD (((powP p a).c).abs), tSl encP ((powP p a).cs)]) (polT_eq _))) (.there (.there .here)) sz28 (st_agg (Ts' := [tIs (.int .i64 ((powP p a).lv)), tIs (.bool (((powP p a).c).neg)), tSl encD (((powP p a).c).abs), tSl encP ((powP p a).cs)]) (o := 0) rfl) (J.e (JC.ret ?_))
  exact JQ.ret1 rfl (.agg (.t rfl) (.tail _ (.tail _ (.head _))) ag28 (agg_eq (T := tV encP (powP p a)) (T' := tV encP (powP p N)) (by rw [ha]) (cTs_ldV (g := polT) (y := (powP p a)) (polT_eq (powP p a)).symm rfl)))

theorem fit24_c  : Ctr Try.prog 25 [] (tIs (.bool true)) := by
 refine Ctr.of Try.func25 rfl Try.ntmps25 (Nat.le_of_ble_eq_true rfl) fun w0 M0 => (JC.g ?_)
 refine J.a .is rfl (J.e (JC.g ?_))
 refine J.o (ot_eqt (T' := tV encP vX) (oc fn55 (var_c 1 ) (.cons .is .nil)) (by rfl)) rfl ?_
 refine J.o (ot_eqt (T' := tV encP vY) (oc fn55 (var_c 2 ) (.cons .is .nil)) (by rfl)) rfl ?_
 refine J.alloc (R := cTs zP) zr28 (fun _ => ⟨rfl, rfl, rfl, rfl, slP_nil _ _, rfl, slP_nil _ _, rfl, trivial⟩) (ltN rfl) fun b1 => ?_
 refine J.alloc (R := cTs zP) zr28 (fun _ => ⟨rfl, rfl, rfl, rfl, slP_nil _ _, rfl, slP_nil _ _, rfl, trivial⟩) (ltN rfl) fun b2 => ?_
 refine J.store (.t rfl) (.eq (.t rfl) (tV_F (Ts := (pT vX)) (polT_eq _))) (.there .here) sz28 (st_agg (Ts' := (pT vX)) (o := 0) rfl) ?_
 refine J.store (.t rfl) (.eq (.t rfl) (tV_F (Ts := (pT vY)) (polT_eq _))) .here sz28 (st_agg (Ts' := (pT vY)) (o := 0) rfl) (J.e (JC.seq ?_))
 refine JC.weak (Γ' := [(2, pOwn b2 0), (1, pOwn b1 0), (0, tIs (.bool false))]) (H' := [⟨b2, 28, cTs (pT vY)⟩, ⟨b1, 28, cTs (pT vX)⟩]) (sub_trans (sub_heap (.k (.k .nil))) (sub_l ⟨.t rfl, .t rfl, .t rfl, trivial⟩)) ?_
 refine JC.drawP (Ts := [tV encP vX, tV encP (powP vX 2), tV encP vY, tV encP (powP vY 2), tV encP (addF 4 (powP vX 2) (scaleP (powP vY 2) (-1))), tV encP vX, tV encP vY, tV encP (addF 4 vX vY), tTup [tV encP (addF 4 vX (scaleP vY (-1))), tIs (.int .i64 0)], tTup [tV encP (addF 4 vX (scaleP vY (-1))), tIs (.int .i64 0)], tV encP (addF 4 vX (scaleP vY (-1))), tIs (.int .i64 0), tAny, tAny, tAny]) (un := (fun i => [12, 13].contains i)) mo (by kernel_rfl) ?_
 refine RP.step (al := (fun i => [0, 1, 2, 3, 4, 5, 6, 7, 8, 9, 10, 11].contains i)) (Γn := [(18, tIs (.int .i64 0)), (17, tV encP (addF 4 vX (scaleP vY (-1)))), (7, tTup [tV encP (addF 4 vX (scaleP vY (-1))), tIs (.int .i64 0)]), (16, tTup [tV encP (addF 4 vX (scaleP vY (-1))), tIs (.int .i64 0)]), (15, tV encP (addF 4 vX vY)), (14, tV encP vY), (13, tV encP vX), (12, tV encP (addF 4 (powP vX 2) (scaleP (powP vY 2) (-1)))), (11, tV encP (powP vY 2)), (10, tV encP vY), (9, tV encP (powP vX 2)), (8, tV encP vX), (2, pOwn b2 0), (1, pOwn b1 0), (0, tIs (.bool false))]) (Γ' := ?pg1) 12 (by kernel_rfl) (by kernel_rfl) ?tp1 ?nx1
 case tp1 =>
  refine TP.op (oa (.t rfl) (.tail _ (.head _)) ag28 (cTs_ldV (g := polT) (y := vX) (polT_eq vX).symm rfl)) rfl (ltN rfl) rfl rfl ?_
  refine TP.op (oc fn69 (pow_c vX 2 2 (pg_var : Pg 2 1 vX) rfl (by decide) (by decide) ⟨by decide, by decide, by decide, by decide⟩) (.cons (.t rfl) (.cons .is .nil))) rfl (ltN rfl) rfl rfl ?_
  refine TP.op (oa (.t rfl) (.head _) ag28 (cTs_ldV (g := polT) (y := vY) (polT_eq vY).symm rfl)) rfl (ltN rfl) rfl rfl ?_
  refine TP.op (oc fn69 (pow_c vY 2 2 (pg_var : Pg 2 1 vY) rfl (by decide) (by decide) ⟨by decide, by decide, by decide, by decide⟩) (.cons (.t rfl) (.cons .is .nil))) rfl (ltN rfl) rfl rfl ?_
  refine TP.op (oc fn68 (subK_c (powP vX 2) (powP vY 2) (powP_pg (pg_var : Pg 2 1 vX) (by decide) 2) (powP_pg (pg_var : Pg 2 1 vY) (by decide) 2) ⟨by decide, by decide⟩) (.cons (.t rfl) (.cons (.t rfl) .nil))) rfl (ltN rfl) rfl rfl ?_
  refine TP.op (oa (.t rfl) (.tail _ (.head _)) ag28 (cTs_ldV (g := polT) (y := vX) (polT_eq vX).symm rfl)) rfl (ltN rfl) rfl rfl ?_
  refine TP.op (oa (.t rfl) (.head _) ag28 (cTs_ldV (g := polT) (y := vY) (polT_eq vY).symm rfl)) rfl (ltN rfl) rfl rfl ?_
  refine TP.op (oc fn40 (addK_c vX vY (pg_var : Pg 2 1 vX) (pg_var : Pg 2 1 vY) ⟨by decide, by decide⟩) (.cons (.t rfl) (.cons (.t rfl) .nil))) rfl (ltN rfl) rfl rfl ?_
  refine TP.op (ot_eqt (T' := tTup [tV encP (addF 4 vX (scaleP vY (-1))), tIs (.int .i64 0)]) (oc fn28 (pExact_c (addF 4 (powP vX 2) (scaleP (powP vY 2) (-1))) (addF 4 vX vY) (((powP_pg (pg_var : Pg 2 1 vX) (by decide) 2).add (powP_pg (pg_var : Pg 2 1 vY) (by decide) 2).neg (by decide) : Pg 5 4 _).mono (by decide) (by decide)) (((pg_var : Pg 2 1 vX).add (pg_var : Pg 2 1 vY) (by decide) : Pg 2 2 (addF 4 vX vY)).mono (by decide) (by decide)) (pg_small2 ((pg_var : Pg 2 1 vX).add (pg_var : Pg 2 1 vY) (by decide) : Pg 2 2 (addF 4 vX vY))) rm_small) (.cons (.t rfl) (.cons (.t rfl) .nil))) (by rw [fit_r.1, fit_r.2])) rfl (ltN rfl) rfl rfl ?_
  refine TP.op (ot_move (.t rfl)) rfl (ltN rfl) rfl rfl ?_
  refine TP.op (ot_extract (.t rfl) rfl) rfl (ltN rfl) rfl rfl ?_
  refine TP.op (ot_extract (.t rfl) rfl) rfl (ltN rfl) rfl rfl ?_
  refine TP.at rfl rfl ?_
  refine TP.skip0 rfl rfl rfl ?_
  refine TP.skip rfl rfl rfl ?_
  exact TP.nil
 case nx1 =>
 refine OneStep.mk (ι := Nat) (Hb := fun κ => [⟨κ, 28, cTs zP⟩, ⟨b2, 28, cTs (pT vY)⟩, ⟨b1, 28, cTs (pT vX)⟩]) (Tb := fun κ => [tV encP vX, tV encP (powP vX 2), tV encP vY, tV encP (powP vY 2), tV encP (addF 4 (powP vX 2) (scaleP (powP vY 2) (-1))), tV encP vX, tV encP vY, tV encP (addF 4 vX vY), tTup [tV encP (addF 4 vX (scaleP vY (-1))), tIs (.int .i64 0)], tTup [tV encP (addF 4 vX (scaleP vY (-1))), tIs (.int .i64 0)], tV encP (addF 4 vX (scaleP vY (-1))), tIs (.int .i64 0), pOwn κ 0, tAny, tAny]) (fun i => [12].contains i) (fun i => [13].contains i) rfl rfl (fun _ => ⟨.inr rfl, ⟨.inr rfl, ⟨.inr rfl, ⟨.inr rfl, ⟨.inr rfl, ⟨.inr rfl, ⟨.inr rfl, ⟨.inr rfl, ⟨.inr rfl, ⟨.inr rfl, ⟨.inr rfl, ⟨.inr rfl, ⟨.inl rfl, ⟨.inl rfl, ⟨.inl rfl, trivial⟩⟩⟩⟩⟩⟩⟩⟩⟩⟩⟩⟩⟩⟩⟩) (by kernel_rfl) ?op1_12 ?mx1_12
 case op1_12 =>
  intro Γx hx
  refine J.alloc (R := cTs zP) zr28 (fun _ => ⟨rfl, rfl, rfl, rfl, slP_nil _ _, rfl, slP_nil _ _, rfl, trivial⟩) (ltN rfl) fun b3 => ?_
  exact J.midP (Hb := fun κ => [⟨κ, 28, cTs zP⟩, ⟨b2, 28, cTs (pT vY)⟩, ⟨b1, 28, cTs (pT vX)⟩]) (Tb := fun κ => [tV encP vX, tV encP (powP vX 2), tV encP vY, tV encP (powP vY 2), tV encP (addF 4 (powP vX 2) (scaleP (powP vY 2) (-1))), tV encP vX, tV encP vY, tV encP (addF 4 vX vY), tTup [tV encP (addF 4 vX (scaleP vY (-1))), tIs (.int .i64 0)], tTup [tV encP (addF 4 vX (scaleP vY (-1))), tIs (.int .i64 0)], tV encP (addF 4 vX (scaleP vY (-1))), tIs (.int .i64 0), pOwn κ 0, tAny, tAny]) (n := 12) b3 rfl
 case mx1_12 =>
  intro b3
  refine RP.step (al := (fun i => [0, 1, 2, 3, 4, 5, 6, 7, 8, 9, 10, 11].contains i)) (Γn := [(3, pOwn b3 0), (18, tIs (.int .i64 0)), (17, tV encP (addF 4 vX (scaleP vY (-1)))), (7, tTup [tV encP (addF 4 vX (scaleP vY (-1))), tIs (.int .i64 0)]), (16, tTup [tV encP (addF 4 vX (scaleP vY (-1))), tIs (.int .i64 0)]), (15, tV encP (addF 4 vX vY)), (14, tV encP vY), (13, tV encP vX), (12, tV encP (addF 4 (powP vX 2) (scaleP (powP vY 2) (-1)))), (11, tV encP (powP vY 2)), (10, tV encP vY), (9, tV encP (powP vX 2)), (8, tV encP vX), (2, pOwn b2 0), (1, pOwn b1 0), (0, tIs (.bool false))]) (Γ' := ?pg2) 13 (by kernel_rfl) (by kernel_rfl) ?tp2 ?nx2
  case tp2 =>
   refine TP.op (oa (.t rfl) (.tail _ (.tail _ (.head _))) ag28 (cTs_ldV (g := polT) (y := vX) (polT_eq vX).symm rfl)) rfl (ltN rfl) rfl rfl ?_
   refine TP.op (oc fn69 (pow_c vX 2 2 (pg_var : Pg 2 1 vX) rfl (by decide) (by decide) ⟨by decide, by decide, by decide, by decide⟩) (.cons (.t rfl) (.cons .is .nil))) rfl (ltN rfl) rfl rfl ?_
   refine TP.op (oa (.t rfl) (.tail _ (.head _)) ag28 (cTs_ldV (g := polT) (y := vY) (polT_eq vY).symm rfl)) rfl (ltN rfl) rfl rfl ?_
   refine TP.op (oc fn69 (pow_c vY 2 2 (pg_var : Pg 2 1 vY) rfl (by decide) (by decide) ⟨by decide, by decide, by decide, by decide⟩) (.cons (.t rfl) (.cons .is .nil))) rfl (ltN rfl) rfl rfl ?_
   refine TP.op (oc fn68 (subK_c (powP vX 2) (powP vY 2) (powP_pg (pg_var : Pg 2 1 vX) (by decide) 2) (powP_pg (pg_var : Pg 2 1 vY) (by decide) 2) ⟨by decide, by decide⟩) (.cons (.t rfl) (.cons (.t rfl) .nil))) rfl (ltN rfl) rfl rfl ?_
   refine TP.op (oa (.t rfl) (.tail _ (.tail _ (.head _))) ag28 (cTs_ldV (g := polT) (y := vX) (polT_eq vX).symm rfl)) rfl (ltN rfl) rfl rfl ?_
   refine TP.op (oa (.t rfl) (.tail _ (.head _)) ag28 (cTs_ldV (g := polT) (y := vY) (polT_eq vY).symm rfl)) rfl (ltN rfl) rfl rfl ?_
   refine TP.op (oc fn40 (addK_c vX vY (pg_var : Pg 2 1 vX) (pg_var : Pg 2 1 vY) ⟨by decide, by decide⟩) (.cons (.t rfl) (.cons (.t rfl) .nil))) rfl (ltN rfl) rfl rfl ?_
   refine TP.op (ot_eqt (T' := tTup [tV encP (addF 4 vX (scaleP vY (-1))), tIs (.int .i64 0)]) (oc fn28 (pExact_c (addF 4 (powP vX 2) (scaleP (powP vY 2) (-1))) (addF 4 vX vY) (((powP_pg (pg_var : Pg 2 1 vX) (by decide) 2).add (powP_pg (pg_var : Pg 2 1 vY) (by decide) 2).neg (by decide) : Pg 5 4 _).mono (by decide) (by decide)) (((pg_var : Pg 2 1 vX).add (pg_var : Pg 2 1 vY) (by decide) : Pg 2 2 (addF 4 vX vY)).mono (by decide) (by decide)) (pg_small2 ((pg_var : Pg 2 1 vX).add (pg_var : Pg 2 1 vY) (by decide) : Pg 2 2 (addF 4 vX vY))) rm_small) (.cons (.t rfl) (.cons (.t rfl) .nil))) (by rw [fit_r.1, fit_r.2])) rfl (ltN rfl) rfl rfl ?_
   refine TP.op (ot_move (.t rfl)) rfl (ltN rfl) rfl rfl ?_
   refine TP.op (ot_extract (.t rfl) rfl) rfl (ltN rfl) rfl rfl ?_
   refine TP.op (ot_extract (.t rfl) rfl) rfl (ltN rfl) rfl rfl ?_
   refine TP.skip rfl rfl rfl ?_
   refine TP.at0 rfl rfl ?_
   refine TP.skip rfl rfl rfl ?_
   exact TP.nil
  case nx2 =>
  refine OneStep.mk (ι := Unit) (Hb := fun κ => [⟨b3, 28, cTs [tIs (.int .i64 ((addF 4 vX (scaleP vY (-1))).lv)), tIs (.bool (((addF 4 vX (scaleP vY (-1))).c).neg)), tSl encD (((addF 4 vX (scaleP vY (-1))).c).abs), tSl encP ((addF 4 vX (scaleP vY (-1))).cs)]⟩, ⟨b2, 28, cTs (pT vY)⟩, ⟨b1, 28, cTs (pT vX)⟩]) (Tb := fun κ => [tV encP vX, tV encP (powP vX 2), tV encP vY, tV encP (powP vY 2), tV encP (addF 4 (powP vX 2) (scaleP (powP vY 2) (-1))), tV encP vX, tV encP vY, tV encP (addF 4 vX vY), tTup [tV encP (addF 4 vX (scaleP vY (-1))), tIs (.int .i64 0)], tTup [tV encP (addF 4 vX (scaleP vY (-1))), tIs (.int .i64 0)], tV encP (addF 4 vX (scaleP vY (-1))), tIs (.int .i64 0), pOwn b3 0, tAny, tIs (.int .i64 0)]) (fun i => [0, 1, 2, 3, 4, 5, 6, 7, 8, 9, 10, 12, 13].contains i) (fun _ => false) rfl rfl (fun _ => ⟨.inr rfl, ⟨.inr rfl, ⟨.inr rfl, ⟨.inr rfl, ⟨.inr rfl, ⟨.inr rfl, ⟨.inr rfl, ⟨.inr rfl, ⟨.inr rfl, ⟨.inr rfl, ⟨.inr rfl, ⟨.inr rfl, ⟨.inr rfl, ⟨.inl rfl, ⟨.inl rfl, trivial⟩⟩⟩⟩⟩⟩⟩⟩⟩⟩⟩⟩⟩⟩⟩) (by kernel_rfl) ?op2_13 ?mx2_13
  case op2_13 =>
   intro Γx hx
   refine J.store (.move hx (.t rfl) (by kernel_rfl)) (.eq (.move hx (.t rfl) (by kernel_rfl)) (tV_F (Ts := [tIs (.int .i64 ((addF 4 vX (scaleP vY (-1))).lv)), tIs (.bool (((addF 4 vX (scaleP vY (-1))).c).neg)), tSl encD (((addF 4 vX (scaleP vY (-1))).c).abs), tSl encP ((addF 4 vX (scaleP vY (-1))).cs)]) (polT_eq _))) .here sz28 (st_agg (Ts' := [tIs (.int .i64 ((addF 4 vX (scaleP vY (-1))).lv)), tIs (.bool (((addF 4 vX (scaleP vY (-1))).c).neg)), tSl encD (((addF 4 vX (scaleP vY (-1))).c).abs), tSl encP ((addF 4 vX (scaleP vY (-1))).cs)]) (o := 0) rfl) ?_
   exact J.midP (Hb := fun κ => [⟨b3, 28, cTs [tIs (.int .i64 ((addF 4 vX (scaleP vY (-1))).lv)), tIs (.bool (((addF 4 vX (scaleP vY (-1))).c).neg)), tSl encD (((addF 4 vX (scaleP vY (-1))).c).abs), tSl encP ((addF 4 vX (scaleP vY (-1))).cs)]⟩, ⟨b2, 28, cTs (pT vY)⟩, ⟨b1, 28, cTs (pT vX)⟩]) (Tb := fun κ => [tV encP vX, tV encP (powP vX 2), tV encP vY, tV encP (powP vY 2), tV encP (addF 4 (powP vX 2) (scaleP (powP vY 2) (-1))), tV encP vX, tV encP vY, tV encP (addF 4 vX vY), tTup [tV encP (addF 4 vX (scaleP vY (-1))), tIs (.int .i64 0)], tTup [tV encP (addF 4 vX (scaleP vY (-1))), tIs (.int .i64 0)], tV encP (addF 4 vX (scaleP vY (-1))), tIs (.int .i64 0), pOwn b3 0, tAny, tIs (.int .i64 0)]) (n := 13) () rfl
  case mx2_13 =>
   intro _
   refine RP.last (al := (fun i => [11, 14].contains i)) (Γn := []) (Γ' := [(4, tIs (.int .i64 0)), (3, pOwn b3 0), (18, tIs (.int .i64 0)), (17, tV encP (addF 4 vX (scaleP vY (-1)))), (7, tTup [tV encP (addF 4 vX (scaleP vY (-1))), tIs (.int .i64 0)]), (16, tTup [tV encP (addF 4 vX (scaleP vY (-1))), tIs (.int .i64 0)]), (15, tV encP (addF 4 vX vY)), (14, tV encP vY), (13, tV encP vX), (12, tV encP (addF 4 (powP vX 2) (scaleP (powP vY 2) (-1)))), (11, tV encP (powP vY 2)), (10, tV encP vY), (9, tV encP (powP vX 2)), (8, tV encP vX), (2, pOwn b2 0), (1, pOwn b1 0), (0, tIs (.bool false))]) (by kernel_rfl) (by kernel_rfl) ?tp3 ?_
   case tp3 =>
    refine TP.skip rfl rfl rfl ?_
    refine TP.skip rfl rfl rfl ?_
    refine TP.skip rfl rfl rfl ?_
    refine TP.skip rfl rfl rfl ?_
    refine TP.skip rfl rfl rfl ?_
    refine TP.skip rfl rfl rfl ?_
    refine TP.skip rfl rfl rfl ?_
    refine TP.skip rfl rfl rfl ?_
    refine TP.skip rfl rfl rfl ?_
    refine TP.skip rfl rfl rfl ?_
    refine TP.skip rfl rfl rfl ?_
    refine TP.op (ot_extract (.t rfl) rfl) rfl (ltN rfl) rfl rfl ?_
    refine TP.skip rfl rfl rfl ?_
    refine TP.skip0 rfl rfl rfl ?_
    refine TP.op (ot_assign (.t rfl)) rfl (ltN rfl) rfl rfl ?_
    exact TP.nil
   refine JQ.then_normal (JC.seq ?_)
   refine JC.draw (Γ' := ?g2) mo (by kernel_rfl) ?tw2 ?k2
   case tw2 =>
    refine TW.M rfl rfl (TW.o (ot_eql (.t rfl) .is) rfl (TW.M rfl rfl ?_))
    refine TW.opg rfl rfl rfl (ltN rfl) (fun hg => oa (.t rfl) (.head _) ag28 (cTs_ldV (g := polT) (y := (addF 4 vX (scaleP vY (-1)))) (polT_eq (addF 4 vX (scaleP vY (-1)))).symm rfl)) rfl (ltN rfl) ?_
    refine TW.opg rfl rfl rfl (ltN rfl) (fun hg => oa (.t rfl) (.tail _ (.tail _ (.head _))) ag28 (cTs_ldV (g := polT) (y := vX) (polT_eq vX).symm rfl)) rfl (ltN rfl) ?_
    refine TW.opg rfl rfl rfl (ltN rfl) (fun hg => oa (.t rfl) (.tail _ (.head _)) ag28 (cTs_ldV (g := polT) (y := vY) (polT_eq vY).symm rfl)) rfl (ltN rfl) ?_
    refine TW.opg rfl rfl rfl (ltN rfl) (fun hg => oc fn68 (subK_c vX vY (pg_var : Pg 2 1 vX) (pg_var : Pg 2 1 vY) ⟨by decide, by decide⟩) (.cons (.iff hg (.t rfl)) (.cons (.iff hg (.t rfl)) .nil))) rfl (ltN rfl) ?_
    refine TW.opg rfl rfl rfl (ltN rfl) (fun hg => oc fn31 (sameK_c (addF 4 vX (scaleP vY (-1))) (addF 4 vX (scaleP vY (-1))) ((pg_var : Pg 2 1 vX).add (pg_var : Pg 2 1 vY).neg (by decide)) ⟨by decide, by decide⟩ rfl) (.cons (.iff hg (.t rfl)) (.cons (.iff hg (.t rfl)) .nil))) rfl (ltN rfl) ?_
    refine TW.o (ot_and2 (.t rfl) (.t rfl) .is) rfl (TW.M rfl rfl ?_)
    refine TW.opg rfl rfl rfl (ltN rfl) (fun hg => oa (.t rfl) (.tail _ (.tail _ (.head _))) ag28 (cTs_ldV (g := polT) (y := vX) (polT_eq vX).symm rfl)) rfl (ltN rfl) ?_
    refine TW.opg rfl rfl rfl (ltN rfl) (fun hg => oa (.t rfl) (.tail _ (.tail _ (.head _))) ag28 (cTs_ldV (g := polT) (y := vX) (polT_eq vX).symm rfl)) rfl (ltN rfl) ?_
    refine TW.opg rfl rfl rfl (ltN rfl) (fun hg => oa (.t rfl) (.tail _ (.head _)) ag28 (cTs_ldV (g := polT) (y := vY) (polT_eq vY).symm rfl)) rfl (ltN rfl) ?_
    refine TW.opg rfl rfl rfl (ltN rfl) (fun hg => oc fn29 (mulK_c vX vY (pg_var : Pg 2 1 vX) (pg_var : Pg 2 1 vY) ⟨⟨by decide, by decide, by decide⟩, by decide⟩) (.cons (.iff hg (.t rfl)) (.cons (.iff hg (.t rfl)) .nil))) rfl (ltN rfl) ?_
    refine TW.opg rfl rfl rfl (ltN rfl) (fun hg => ot_eqt (T' := tIs (.bool true)) (oc fn33 (divides_c vX (mulF 4 vX vY) (((pg_var : Pg 2 1 vX).mul (pg_var : Pg 2 1 vY) (by decide) (by decide) : Pg 4 2 _).mono (by decide) (by decide)) ((pg_var : Pg 2 1 vX).mono (by decide) (by decide)) (pg_small2 ((pg_var : Pg 2 1 vX).mono (by decide) (by decide) : Pg 2 2 vX)) rm_small (by decide)) (.cons (.iff hg (.t rfl)) (.cons (.iff hg (.t rfl)) .nil))) (by rw [fit_dv])) rfl (ltN rfl) ?_
    refine TW.o (ot_and2 (.t rfl) (.t rfl) .is) rfl (TW.M rfl rfl ?_)
    refine TW.opg rfl rfl rfl (ltN rfl) (fun hg => oa (.t rfl) (.tail _ (.tail _ (.head _))) ag28 (cTs_ldV (g := polT) (y := vX) (polT_eq vX).symm rfl)) rfl (ltN rfl) ?_
    refine TW.opg rfl rfl rfl (ltN rfl) (fun hg => oa (.t rfl) (.tail _ (.head _)) ag28 (cTs_ldV (g := polT) (y := vY) (polT_eq vY).symm rfl)) rfl (ltN rfl) ?_
    refine TW.opg rfl rfl rfl (ltN rfl) (fun hg => ot_eqt (T' := tIs (.bool false)) (oc fn33 (divides_c vX vY ((pg_var : Pg 2 1 vY).mono (by decide) (by decide)) ((pg_var : Pg 2 1 vX).mono (by decide) (by decide)) (pg_small2 ((pg_var : Pg 2 1 vX).mono (by decide) (by decide) : Pg 2 2 vX)) rm_small (by decide)) (.cons (.iff hg (.t rfl)) (.cons (.iff hg (.t rfl)) .nil))) (by rw [fit_no])) rfl (ltN rfl) ?_
    refine TW.opg rfl rfl rfl (ltN rfl) (fun hg => ot_not (.iff hg (.t rfl))) rfl (ltN rfl) ?_
    refine TW.o (ot_and2 (.t rfl) (.t rfl) .is) rfl ?_
    refine TW.o (ot_assign (.t rfl)) rfl ?_
    exact TW.nil
   refine JQ.then_normal (JC.ret ?_)
   exact JQ.ret1 rfl (.tmp (.eq (.t rfl) (by first | rfl | (congr 3; omega) | (congr 2; omega) | simp [*])))

theorem level_c {D B : Nat} (p : Pol) (hp : Pg D B p) (hb : D ≤ 4294967296 ∧ B ≤ 90000000000) : Ctr Try.prog 38 [tV encP p] (tIs (.int .i64 (p.lv))) := by
 refine Ctr.of Try.func38 rfl Try.ntmps38 (Nat.le_of_ble_eq_true rfl) fun w0 M0 => (JC.g ?_)
 refine J.boxF (Ts := (pT p)) (.t rfl) (polT_eq _) (ltN rfl) fun b1 => ?_
 refine J.a .is rfl (J.e (JC.g (J.o (oa (.t rfl) (.head _) ag28 (cTs_ldV (g := polT) (y := p) (polT_eq p).symm rfl)) rfl ?_)))
 refine J.o (oc fn45 (normK_c p (by assumption) (by omega)) (.cons (.t rfl) .nil)) rfl ?_
 refine J.o (ot_fieldV (.t rfl) fd28_0 sc3 (by rw [polT_eq]; rfl)) rfl (J.A rfl rfl (J.e (JC.ret ?_)))
 exact JQ.ret1 rfl (.tmp (.t rfl))

theorem sdegree_c {B : Nat} (ts : List Tm) (v : Int) (hl : ts.length ≤ 4294967295) (hd : ∀ t ∈ ts, Digs t.coef.abs) (hz : ∀ t ∈ ts, t.coef.abs.length ≤ B) (hb : B ≤ 1000000000000) (hz2 : ∀ t ∈ normS ts, t.coef.abs.length ≤ 1099511627776) (h1 : 1 ≤ v ∧ v ≤ 4) : Ctr Try.prog 85 [tSl encTm ts, tIs (.int .i64 v)] (tIs (.int .i64 (degF (v - 1).toNat (normS ts)))) := by
 have hnl : (normS ts).length ≤ 4294967296 := Nat.le_trans (normS_len ts) (by omega)
 refine Ctr.ofM Try.func85 rfl Try.ntmps85 (Nat.le_of_ble_eq_true rfl) fun w0 M0 => (JC.g ?_)
 refine J.boxS (.t rfl) (one_is rfl rfl) (ltN rfl) fun b3 => ?_
 refine J.alloc (R := cTs [tIs (.int .i64 0)]) zr3 (fun _ => ⟨rfl, rfl, trivial⟩) (ltN rfl) fun b4 => (J.e (JC.g ?_))
 refine J.alloc (R := cTs [tIs (.int .i64 0)]) zr3 (fun _ => ⟨rfl, rfl, trivial⟩) (ltN rfl) fun b5 => ?_
 refine J.store (.t rfl) .is .here sz3 (st_cell (o := 0) (one_is rfl rfl) rfl) (J.e (JC.seq (JC.g (J.M rfl rfl ?_))))
 refine J.o (oc fn71 (sptermsG_c ts (by assumption) (by assumption) (by assumption) (by assumption)) (.cons (.t rfl) .nil)) rfl (J.e (JC.block ?_))
 refine JC.rangeFunc (ps := [9, 10]) (f := 102) (Us := [tPtr (cTs [tSl encTm (normS ts)])]) (n := (normS ts).length) (Ts := fun k => [tV encMo ((atT (normS ts) k).exp), tV encI (ofI (zval (atT (normS ts) k).coef))]) (Γ0 := [(3, pOwn b3 0), (4, pOwn b4 0), (5, pOwn b5 0), (8, tClo 102 [tPtr (cTs [tSl encTm (normS ts)])])]) (fun k => [⟨b5, 3, cTs [tIs (.int .i64 (degF (v - 1).toNat ((normS ts).take k)))]⟩, ⟨b4, 3, cTs [tIs (.int .i64 0)]⟩, ⟨b3, 3, cTs [tIs (.int .i64 v)]⟩]) (.t rfl) fn102 (termsY (normS ts) hnl hz2) rfl ?rs0 (fun _ => rfl) rfl (fun _ => rfl) ?rr0 ?rd0
 case rs0 => exact sub_trans (sub_heap (.k (.k (.k .nil)))) (sub_l ⟨.t rfl, .t rfl, .t rfl, .t rfl, trivial⟩)
 case rr0 =>
  intro k hk l w0 M0 L Q1 hend1
  refine JCR.weak (Γ' := [(10, tV encI (ofI (zval (atT (normS ts) k).coef))), (9, tV encMo ((atT (normS ts) k).exp)), (3, pOwn b3 0), (4, pOwn b4 0), (5, pOwn b5 0), (8, tClo 102 [tPtr (cTs [tSl encTm (normS ts)])])]) (H' := [⟨b5, 3, cTs [tIs (.int .i64 (degF (v - 1).toNat ((normS ts).take k)))]⟩, ⟨b4, 3, cTs [tIs (.int .i64 0)]⟩, ⟨b3, 3, cTs [tIs (.int .i64 v)]⟩]) (fun _ _ h => h) ?_
  refine JCR.region ?_
  refine J.alloc (R := cTs [tIs (.int .i64 0), tIs (.int .i64 0), tIs (.int .i64 0), tIs (.int .i64 0)]) zr95 (fun _ => ⟨rfl, rfl, rfl, rfl, rfl, rfl, rfl, rfl, trivial⟩) (ltN rfl) fun b6 => ?_
  refine J.store (.t rfl) (.eq (.t rfl) (tV_F (Ts := [tIs (.int .i64 (((atT (normS ts) k).exp).a)), tIs (.int .i64 (((atT (normS ts) k).exp).b)), tIs (.int .i64 (((atT (normS ts) k).exp).c)), tIs (.int .i64 (((atT (normS ts) k).exp).d))]) rfl)) .here sz95 (st_agg (Ts' := [tIs (.int .i64 (((atT (normS ts) k).exp).a)), tIs (.int .i64 (((atT (normS ts) k).exp).b)), tIs (.int .i64 (((atT (normS ts) k).exp).c)), tIs (.int .i64 (((atT (normS ts) k).exp).d))]) (o := 0) rfl) (J.nil ?_)
  refine hend1 _ _ fun w1 M1 L1 Q2 hend2 => ?_
  refine JCR.block (JCR.seq (JCR.seq (JCR.region (J.o (ol (.t rfl) (.tail _ (.tail _ (.tail _ (.head _)))) sc3 (cTs_ld rfl)) rfl (J.o (ot_lss (.t rfl) .is) rfl (J.M rfl rfl ?_))))))
  refine J.opg rfl rfl rfl (ltN rfl) (fun hg => ol (.t rfl) (.tail _ (.tail _ (.tail _ (.head _)))) sc3 (cTs_ld rfl)) rfl (ltN rfl) ?_
  refine J.opg rfl rfl rfl (ltN rfl) (fun hg => ot_gtr (.iff hg (.t rfl)) .is) rfl (ltN rfl) ?_
  refine J.o (ot_or2 (.t rfl) .is (.t rfl)) rfl (J.nil (JQR.then_normal ?_))
  refine JCR.cond_false (.eq (.t rfl) (by rw [decide_eq_false (show ¬ v < 1 by omega), decide_eq_false (show ¬ 4 < v by omega)]; rfl)) ?_
  refine JCR.skip (JQR.then_normal ?_)
  refine JCR.drawAt (Γ' := ?g1) 6 (by exact mo) (by kernel_rfl) rfl ?tw1 ?k1
  case tw1 =>
   refine TW.o (ol (.t rfl) (.tail _ (.head _)) sc3 (cTs_ld rfl)) rfl (TW.o (ol (.t rfl) (.tail _ (.tail _ (.tail _ (.head _)))) sc3 (cTs_ld rfl)) rfl ?_)
   refine TW.o (ot_sub (.t rfl) .is (w64 (by omega) (by omega))) rfl ?_
   refine TW.o (ot_eqt (T' := pOwn b6 ((v - 1).toNat)) (ot_indexAddrA (.t rfl) (.t rfl) ar4_95 (by omega) (by omega)) (own_off2 (by omega))) rfl (TW.o (ol (.t rfl) (.head _) sc3 (mo_ld (m := (atT (normS ts) k).exp) (by omega))) rfl ?_)
   refine TW.o (ot_max (.t rfl) (.t rfl)) rfl ?_
   exact TW.nil
  refine J.inRound ?_
  refine J.store (.t rfl) (.t rfl) (.there .here) sz3 (st_cell (o := 0) (one_is rfl rfl) rfl) (J.nil (JQ.block_normal ?_))
  exact JQ.weak (sub_trans (sub_heap (.drop (.keep (fun _ _ h => by rw [← degF_step hk]; exact h) (.k (.k .nil))))) sub_nil) hend2
 case rd0 =>
  intro D w1 M1 L1 hrb
  refine JQ.block_normal (JQ.then_normal (JC.seq (JC.g (J.o (ol (.t rfl) (.tail _ (.tail _ (.head _))) sc3 (cTs_ld rfl)) rfl (J.o (ot_lss (.t rfl) .is) rfl (J.M rfl rfl ?_))))))
  refine J.opg rfl rfl rfl (ltN rfl) (fun hg => ol (.t rfl) (.tail _ (.tail _ (.head _))) sc3 (cTs_ld rfl)) rfl (ltN rfl) ?_
  refine J.opg rfl rfl rfl (ltN rfl) (fun hg => ot_gtr (.iff hg (.t rfl)) .is) rfl (ltN rfl) ?_
  refine J.o (ot_or2 (.t rfl) .is (.t rfl)) rfl (J.e ?_)
  refine JC.cond_false (.eq (.t rfl) (by rw [decide_eq_false (show ¬ v < 1 by omega), decide_eq_false (show ¬ 4 < v by omega)]; rfl)) (JC.skip (JQ.then_normal (JC.g (J.o (ol (.t rfl) (.head _) sc3 (cTs_ld rfl)) rfl ?_))))
  refine J.store (.t rfl) (.t rfl) (.there .here) sz3 (st_cell (o := 0) (one_is rfl rfl) rfl) (J.e (JC.ret ?_))
  exact JQ.retM1_ret hrb rfl (.scal (.t rfl) (.tail _ (.head _)) sc3 ((cTs_ld (by rw [List.take_length]; rfl))))

theorem mdegree_c {D B : Nat} (p : Pol) (v : Int) (hp : Pg D B p) (h1 : 1 ≤ D) (hD : (D + 1) ^ 4 ≤ 1000000000) (hB : B ≤ 1000000000) (hv : 1 ≤ v ∧ v ≤ 4) : Ctr Try.prog 39 [tV encP p, tIs (.int .i64 v)] (tIs (.int .i64 (dgP p v))) := by
 have hDs := hp.small hD
 obtain ⟨t1, t2, t3⟩ := pg_toS hp h1 hD
 have hcs := hp.sz.cs
 refine Ctr.of Try.func39 rfl Try.ntmps39 (Nat.le_of_ble_eq_true rfl) fun w0 M0 => (JC.g ?_)
 refine J.boxF (Ts := (pT p)) (.t rfl) (polT_eq _) (ltN rfl) fun b2 => ?_
 refine J.a .is rfl (J.e (JC.g (J.o (oa (.t rfl) (.head _) ag28 (cTs_ldV (g := polT) (y := p) (polT_eq p).symm rfl)) rfl ?_)))
 refine J.o (oc fn45 (normK_c p hp ⟨by omega, by omega⟩) (.cons (.t rfl) .nil)) rfl ?_
 refine J.alloc (R := cTs zP) zr28 (fun _ => ⟨rfl, rfl, rfl, rfl, slP_nil _ _, rfl, slP_nil _ _, rfl, trivial⟩) (ltN rfl) fun b5 => ?_
 refine J.store (.t rfl) (.eq (.t rfl) (tV_F (Ts := (pT p)) (polT_eq _))) .here sz28 (st_agg (Ts' := (pT p)) (o := 0) rfl) (J.e (JC.seq (JC.g (J.o (oa (.t rfl) (.head _) ag28 (cTs_ldV (g := polT) (y := p) (polT_eq p).symm rfl)) rfl ?_))))
 refine J.o (oc fn30 (isZeroK_c p hp ⟨by omega, by omega⟩) (.cons (.t rfl) .nil)) rfl (J.e ?_)
 refine JC.cond (.t rfl) (fun hc0 => ?_) (fun hc0 => ?_)
 ·try simp only [bsx] at hc0
  have hs9 := hc0
  refine (JC.g ?_)
  refine J.a .is rfl (J.e (JC.ret (JQ.then_ret ?_)))
  exact JQ.ret1 rfl (.tmp (.eq (.t rfl) (by rw [dgP, if_pos (by simpa using hs9)])))
 ·try simp only [bsx] at hc0
  have hs9 := hc0
  have hz : ¬ zeroP p = true := by simpa using hs9
  refine JC.skip (JQ.then_normal (JC.seq (JC.g (J.M rfl rfl ?_))))
  refine J.o (oc fn84 (valid_c v ) (.cons (.t rfl) .nil)) rfl (J.o (ot_not (.t rfl)) rfl (J.e ?_))
  refine JC.cond_false (.eq (.t rfl) (by rw [decide_eq_true hv.1, decide_eq_true hv.2]; rfl)) (JC.skip (JQ.then_normal (JC.seq (JC.g (J.o (ofa (.t rfl) fd28_0) rfl (J.o (ol (.t rfl) (.head _) sc3 (cTs_ld rfl)) rfl (J.M rfl rfl (J.o (ot_eql (.t rfl) (.t rfl)) rfl (J.e ?_)))))))))
  refine JC.cond (.t rfl) (fun hc2 => ?_) (fun hc2 => ?_)
  ·try simp only [bsx] at hc2
   have hs16 := hc2
   refine (JC.g (J.o (ofa (.t rfl) fd28_2) rfl (J.o (ol (.t rfl) (.head _) sc26 (cTs_ld rfl)) rfl (J.o (ot_len (.t rfl) sl26 rfl) rfl ?_))))
   refine J.o (ot_sub (.t rfl) .is (w64 (by omega) (by omega))) rfl (J.A rfl rfl (J.e (JC.ret (JQ.then_ret ?_))))
   exact JQ.ret1 rfl (.tmp (.eq (.t rfl) (by rw [dgP, if_neg hz, if_pos hs16])))
  ·try simp only [bsx] at hc2
   have hs16 := hc2
   refine JC.skip (JQ.then_normal (JC.g (J.o (oa (.t rfl) (.head _) ag28 (cTs_ldV (g := polT) (y := p) (polT_eq p).symm rfl)) rfl ?_)))
   refine J.o (ot_eqt (T' := tSl encTm (toS p)) (oc fn61 (toG_c p (hp.fit (by omega)) hp.nr (hp.cnt_le hD) hB (hp.terms_le h1 hD)) (.cons (.t rfl) .nil)) (by rw [norm_can hp.can])) rfl (J.M rfl rfl ?_)
   refine J.o (ot_eqt (T' := tIs (.int .i64 (degF (v - 1).toNat (toS p)))) (oc fn85 (sdegree_c (toS p) v t1 t2 t3 (by omega) (by rw [normS_id (toS_can p)]; exact fun t ht => Nat.le_trans (t3 t ht) (by omega)) hv) (.cons (.t rfl) (.cons (.t rfl) .nil))) (by rw [normS_id (toS_can p)])) rfl (J.A rfl rfl (J.e (JC.ret ?_)))
   exact JQ.ret1 rfl (.tmp (.eq (.t rfl) (by rw [dgP, if_neg hz, if_neg hs16])))

theorem pseudoInexact_c (p q o : List Tm) (hdp : ∀ t ∈ p, Digs t.coef.abs) (hdq : ∀ t ∈ q, Digs t.coef.abs) (hdo : ∀ t ∈ o, Digs t.coef.abs) : Ctr Try.prog 7 [tSl encTm p, tSl encTm q, tSl encTm o] (tIs (.bool true)) := by
 refine Ctr.of Try.func7 rfl Try.ntmps7 (Nat.le_of_ble_eq_true rfl) fun w0 M0 => (JC.g ?_)
 refine J.a .is rfl (J.e (JC.seq (JC.g ?_)))
 refine J.o (oc fn25 (fit24_c  ) .nil) rfl (J.o (ot_not (.t rfl)) rfl (J.e ?_))
 refine JC.cond_false (.eq (.t rfl) (by rfl)) (JC.skip (JQ.then_normal (JC.seq (JC.g (J.M rfl rfl ?_)))))
 refine J.o (oc fn26 (few24_c p 5 3 (by omega)) (.cons (.t rfl) (.cons .is (.cons .is .nil)))) rfl (J.o (ot_not (.t rfl)) rfl (J.M rfl rfl ?_))
 refine J.opg rfl rfl rfl (ltN rfl) (fun hg => ot_move (.t rfl)) rfl (ltN rfl) ?_
 refine J.opg rfl rfl rfl (ltN rfl) (fun hg => (by have hg' := hg; (try simp only [bsx] at hg'); exact oc fn26 (few24_c q 5 3 (by omega)) (.cons (.iff hg (.t rfl)) (.cons .is (.cons .is .nil))))) rfl (ltN rfl) ?_
 refine J.opg rfl rfl rfl (ltN rfl) (fun hg => ot_not (.iff hg (.t rfl))) rfl (ltN rfl) ?_
 refine J.o (ot_or2 (.t rfl) .is (.t rfl)) rfl (J.M rfl rfl ?_)
 refine J.opg rfl rfl rfl (ltN rfl) (fun hg => ot_move (.t rfl)) rfl (ltN rfl) ?_
 refine J.opg rfl rfl rfl (ltN rfl) (fun hg => (by have hg' := hg; (try simp only [bsx] at hg'); exact oc fn26 (few24_c o 5 3 (by omega)) (.cons (.iff hg (.t rfl)) (.cons .is (.cons .is .nil))))) rfl (ltN rfl) ?_
 refine J.opg rfl rfl rfl (ltN rfl) (fun hg => ot_not (.iff hg (.t rfl))) rfl (ltN rfl) ?_
 refine J.o (ot_or2 (.t rfl) .is (.t rfl)) rfl (J.e ?_)
 refine JC.cond (.t rfl) (fun hc1 => ?_) (fun hc1 => ?_)
 ·try simp only [bsx] at hc1
  have hs28 := hc1
  refine (JC.g ?_)
  refine J.a .is rfl (J.e (JC.ret (JQ.then_ret ?_)))
  exact JQ.ret1 rfl (.tmp (.t rfl))
 ·try simp only [bsx] at hc1
  have hs28 := hc1
  obtain ⟨⟨w1, w2⟩, w3⟩ := hs28
  have hP := ofFew hdp w1 (by decide) (D := 4) (by decide) (by decide) (by decide)
  have hQ := ofFew hdq w2 (by decide) (D := 4) (by decide) (by decide) (by decide)
  have hO := ofFew hdo w3 (by decide) (D := 4) (by decide) (by decide) (by decide)
  have hFG : Pg 8 10 (mulF 4 (ofS (normS p)) (ofS (normS q))) := hP.pg.mul hQ.pg (by decide) (by decide)
  have hS : Pg 8 11 (addF 4 (mulF 4 (ofS (normS p)) (ofS (normS q))) (ofS (normS o))) := hFG.add (hO.pg.mono (by decide) (by decide)) (by decide)
  have hql := hQ.pg.can.lev.lv
  refine JC.skip (JQ.then_normal (JC.g (J.M rfl rfl ?_)))
  refine J.o (oc fn27 (ofG_c p hP.hl hdp hP.hz (by decide) hP.hm hP.hc (by decide)) (.cons (.t rfl) .nil)) rfl (J.M rfl rfl ?_)
  refine J.o (oc fn27 (ofG_c q hQ.hl hdq hQ.hz (by decide) hQ.hm hQ.hc (by decide)) (.cons (.t rfl) .nil)) rfl (J.M rfl rfl ?_)
  refine J.o (oc fn27 (ofG_c o hO.hl hdo hO.hz (by decide) hO.hm hO.hc (by decide)) (.cons (.t rfl) .nil)) rfl ?_
  refine J.alloc (R := cTs zP) zr28 (fun _ => ⟨rfl, rfl, rfl, rfl, slP_nil _ _, rfl, slP_nil _ _, rfl, trivial⟩) (ltN rfl) fun b7 => ?_
  refine J.alloc (R := cTs zP) zr28 (fun _ => ⟨rfl, rfl, rfl, rfl, slP_nil _ _, rfl, slP_nil _ _, rfl, trivial⟩) (ltN rfl) fun b8 => ?_
  refine J.alloc (R := cTs zP) zr28 (fun _ => ⟨rfl, rfl, rfl, rfl, slP_nil _ _, rfl, slP_nil _ _, rfl, trivial⟩) (ltN rfl) fun b9 => ?_
  refine J.store (.t rfl) (.eq (.t rfl) (tV_F (Ts := [tIs (.int .i64 ((ofS (normS p)).lv)), tIs (.bool (((ofS (normS p)).c).neg)), tSl encD (((ofS (normS p)).c).abs), tSl encP ((ofS (normS p)).cs)]) (polT_eq _))) (.there (.there .here)) sz28 (st_agg (Ts' := [tIs (.int .i64 ((ofS (normS p)).lv)), tIs (.bool (((ofS (normS p)).c).neg)), tSl encD (((ofS (normS p)).c).abs), tSl encP ((ofS (normS p)).cs)]) (o := 0) rfl) ?_
  refine J.store (.t rfl) (.eq (.t rfl) (tV_F (Ts := [tIs (.int .i64 ((ofS (normS q)).lv)), tIs (.bool (((ofS (normS q)).c).neg)), tSl encD (((ofS (normS q)).c).abs), tSl encP ((ofS (normS q)).cs)]) (polT_eq _))) (.there .here) sz28 (st_agg (Ts' := [tIs (.int .i64 ((ofS (normS q)).lv)), tIs (.bool (((ofS (normS q)).c).neg)), tSl encD (((ofS (normS q)).c).abs), tSl encP ((ofS (normS q)).cs)]) (o := 0) rfl) ?_
  refine J.store (.t rfl) (.eq (.t rfl) (tV_F (Ts := [tIs (.int .i64 ((ofS (normS o)).lv)), tIs (.bool (((ofS (normS o)).c).neg)), tSl encD (((ofS (normS o)).c).abs), tSl encP ((ofS (normS o)).cs)]) (polT_eq _))) .here sz28 (st_agg (Ts' := [tIs (.int .i64 ((ofS (normS o)).lv)), tIs (.bool (((ofS (normS o)).c).neg)), tSl encD (((ofS (normS o)).c).abs), tSl encP ((ofS (normS o)).cs)]) (o := 0) rfl) (J.e (JC.g (J.o (oa (.t rfl) (.tail _ (.head _)) ag28 (cTs_ldV (g := polT) (y := (ofS (normS q))) (polT_eq (ofS (normS q))).symm rfl)) rfl ?_)))
  refine J.o (oc fn38 (level_c (ofS (normS q)) hQ.pg ⟨by decide, by decide⟩) (.cons (.t rfl) .nil)) rfl (J.A rfl rfl (J.e (JC.seq (JC.seq ?_))))
  refine JC.draw (Γ' := ?g1) mo (by kernel_rfl) ?tw1 ?k1
  case tw1 =>
   refine TW.M rfl rfl (TW.o (ot_eql (.t rfl) .is) rfl (TW.M rfl rfl ?_))
   refine TW.opg rfl rfl rfl (ltN rfl) (fun hg => oa (.t rfl) (.head _) ag28 (cTs_ldV (g := polT) (y := (ofS (normS o))) (polT_eq (ofS (normS o))).symm rfl)) rfl (ltN rfl) ?_
   refine TW.opg rfl rfl rfl (ltN rfl) (fun hg => oc fn30 (isZeroK_c (ofS (normS o)) hO.pg ⟨by decide, by decide⟩) (.cons (.iff hg (.t rfl)) .nil)) rfl (ltN rfl) ?_
   refine TW.o (ot_or2 (.t rfl) .is (.t rfl)) rfl (TW.M rfl rfl ?_)
   refine TW.opg rfl rfl rfl (ltN rfl) (fun hg => oa (.t rfl) (.head _) ag28 (cTs_ldV (g := polT) (y := (ofS (normS o))) (polT_eq (ofS (normS o))).symm rfl)) rfl (ltN rfl) ?_
   refine TW.opg rfl rfl rfl (ltN rfl) (fun hg => ot_move (.t rfl)) rfl (ltN rfl) ?_
   refine TW.opg rfl rfl rfl (ltN rfl) (fun hg => (by have hg' := hg; (try simp only [bsx] at hg'); exact oc fn39 (mdegree_c (ofS (normS o)) ((ofS (normS q)).lv) hO.pg (by decide) (by decide) (by decide) (show _ ∧ _ from ⟨by have := hg'; omega, by omega⟩)) (.cons (.iff hg (.t rfl)) (.cons (.iff hg (.t rfl)) .nil)))) rfl (ltN rfl) ?_
   refine TW.opg rfl rfl rfl (ltN rfl) (fun hg => oa (.t rfl) (.tail _ (.head _)) ag28 (cTs_ldV (g := polT) (y := (ofS (normS q))) (polT_eq (ofS (normS q))).symm rfl)) rfl (ltN rfl) ?_
   refine TW.opg rfl rfl rfl (ltN rfl) (fun hg => ot_move (.t rfl)) rfl (ltN rfl) ?_
   refine TW.opg rfl rfl rfl (ltN rfl) (fun hg => (by have hg' := hg; (try simp only [bsx] at hg'); exact oc fn39 (mdegree_c (ofS (normS q)) ((ofS (normS q)).lv) hQ.pg (by decide) (by decide) (by decide) (show _ ∧ _ from ⟨by have := hg'; omega, by omega⟩)) (.cons (.iff hg (.t rfl)) (.cons (.iff hg (.t rfl)) .nil)))) rfl (ltN rfl) ?_
   refine TW.opg rfl rfl rfl (ltN rfl) (fun hg => ot_geq (.iff hg (.t rfl)) (.iff hg (.t rfl))) rfl (ltN rfl) ?_
   refine TW.o (ot_or2 (.t rfl) .is (.t rfl)) rfl ?_
   exact TW.nil
  refine JQ.then_normal ?_
  refine JC.cond (.t rfl) (fun hc2 => ?_) (fun hc2 => ?_)
  ·try simp only [bsx] at hc2
   have hs51 := hc2
   refine (JC.g ?_)
   refine J.a .is rfl (J.e (JC.ret (JQ.then_ret ?_)))
   exact JQ.ret1 rfl (.tmp (.t rfl))
  ·try simp only [bsx] at hc2
   have hs51 := hc2
   obtain ⟨⟨y1, y2⟩, y3⟩ := hs51
   have hz := lv_nz y1
   obtain ⟨x1, x2⟩ := inexact hP.pg.can hQ.pg.can hO.pg.can y2 y1 (by omega)
   obtain ⟨z1, z2⟩ := ex_none hz x1
   refine JC.skip (JQ.then_normal (JC.seq ?_))
   refine JC.weak (Γ' := [(9, pOwn b9 0), (8, pOwn b8 0), (7, pOwn b7 0), (6, tIs (.bool false))]) (H' := [⟨b9, 28, cTs [tIs (.int .i64 ((ofS (normS o)).lv)), tIs (.bool (((ofS (normS o)).c).neg)), tSl encD (((ofS (normS o)).c).abs), tSl encP ((ofS (normS o)).cs)]⟩, ⟨b8, 28, cTs [tIs (.int .i64 ((ofS (normS q)).lv)), tIs (.bool (((ofS (normS q)).c).neg)), tSl encD (((ofS (normS q)).c).abs), tSl encP ((ofS (normS q)).cs)]⟩, ⟨b7, 28, cTs [tIs (.int .i64 ((ofS (normS p)).lv)), tIs (.bool (((ofS (normS p)).c).neg)), tSl encD (((ofS (normS p)).c).abs), tSl encP ((ofS (normS p)).cs)]⟩]) (sub_trans (sub_heap (.k (.k (.k .nil)))) (sub_l ⟨.t rfl, .t rfl, .t rfl, .t rfl, trivial⟩)) ?_
   refine JC.drawP (Ts := [tV encP (ofS (normS p)), tV encP (ofS (normS q)), tV encP (mulF 4 (ofS (normS p)) (ofS (normS q))), tV encP (ofS (normS o)), tV encP (addF 4 (mulF 4 (ofS (normS p)) (ofS (normS q))) (ofS (normS o))), tAny, tAny]) (un := (fun i => [5, 6].contains i)) mo (by kernel_rfl) ?_
   refine RP.step (al := (fun i => [0, 1, 2, 3, 4].contains i)) (Γn := [(56, tV encP (addF 4 (mulF 4 (ofS (normS p)) (ofS (normS q))) (ofS (normS o)))), (55, tV encP (ofS (normS o))), (54, tV encP (mulF 4 (ofS (normS p)) (ofS (normS q)))), (53, tV encP (ofS (normS q))), (52, tV encP (ofS (normS p))), (9, pOwn b9 0), (8, pOwn b8 0), (7, pOwn b7 0), (6, tIs (.bool false))]) (Γ' := ?pg1) 5 (by kernel_rfl) (by kernel_rfl) ?tp1 ?nx1
   case tp1 =>
    refine TP.op (oa (.t rfl) (.tail _ (.tail _ (.head _))) ag28 (cTs_ldV (g := polT) (y := (ofS (normS p))) (polT_eq (ofS (normS p))).symm rfl)) rfl (ltN rfl) rfl rfl ?_
    refine TP.op (oa (.t rfl) (.tail _ (.head _)) ag28 (cTs_ldV (g := polT) (y := (ofS (normS q))) (polT_eq (ofS (normS q))).symm rfl)) rfl (ltN rfl) rfl rfl ?_
    refine TP.op (oc fn29 (mulK_c (ofS (normS p)) (ofS (normS q)) hP.pg hQ.pg ⟨⟨by decide, by decide, by decide⟩, by decide⟩) (.cons (.t rfl) (.cons (.t rfl) .nil))) rfl (ltN rfl) rfl rfl ?_
    refine TP.op (oa (.t rfl) (.head _) ag28 (cTs_ldV (g := polT) (y := (ofS (normS o))) (polT_eq (ofS (normS o))).symm rfl)) rfl (ltN rfl) rfl rfl ?_
    refine TP.op (oc fn40 (addK_c (mulF 4 (ofS (normS p)) (ofS (normS q))) (ofS (normS o)) hFG (hO.pg.mono (by decide) (by decide)) ⟨by decide, by decide⟩) (.cons (.t rfl) (.cons (.t rfl) .nil))) rfl (ltN rfl) rfl rfl ?_
    refine TP.at rfl rfl ?_
    refine TP.skip0 rfl rfl rfl ?_
    exact TP.nil
   case nx1 =>
   refine OneStep.mk (ι := Nat) (Hb := fun κ => [⟨κ, 28, cTs zP⟩, ⟨b9, 28, cTs [tIs (.int .i64 ((ofS (normS o)).lv)), tIs (.bool (((ofS (normS o)).c).neg)), tSl encD (((ofS (normS o)).c).abs), tSl encP ((ofS (normS o)).cs)]⟩, ⟨b8, 28, cTs [tIs (.int .i64 ((ofS (normS q)).lv)), tIs (.bool (((ofS (normS q)).c).neg)), tSl encD (((ofS (normS q)).c).abs), tSl encP ((ofS (normS q)).cs)]⟩, ⟨b7, 28, cTs [tIs (.int .i64 ((ofS (normS p)).lv)), tIs (.bool (((ofS (normS p)).c).neg)), tSl encD (((ofS (normS p)).c).abs), tSl encP ((ofS (normS p)).cs)]⟩]) (Tb := fun κ => [tV encP (ofS (normS p)), tV encP (ofS (normS q)), tV encP (mulF 4 (ofS (normS p)) (ofS (normS q))), tV encP (ofS (normS o)), tV encP (addF 4 (mulF 4 (ofS (normS p)) (ofS (normS q))) (ofS (normS o))), pOwn κ 0, tAny]) (fun i => [5].contains i) (fun i => [6].contains i) rfl rfl (fun _ => ⟨.inr rfl, ⟨.inr rfl, ⟨.inr rfl, ⟨.inr rfl, ⟨.inr rfl, ⟨.inl rfl, ⟨.inl rfl, trivial⟩⟩⟩⟩⟩⟩⟩) (by kernel_rfl) ?op1_5 ?mx1_5
   case op1_5 =>
    intro Γx hx
    refine J.alloc (R := cTs zP) zr28 (fun _ => ⟨rfl, rfl, rfl, rfl, slP_nil _ _, rfl, slP_nil _ _, rfl, trivial⟩) (ltN rfl) fun b11 => ?_
    exact J.midP (Hb := fun κ => [⟨κ, 28, cTs zP⟩, ⟨b9, 28, cTs [tIs (.int .i64 ((ofS (normS o)).lv)), tIs (.bool (((ofS (normS o)).c).neg)), tSl encD (((ofS (normS o)).c).abs), tSl encP ((ofS (normS o)).cs)]⟩, ⟨b8, 28, cTs [tIs (.int .i64 ((ofS (normS q)).lv)), tIs (.bool (((ofS (normS q)).c).neg)), tSl encD (((ofS (normS q)).c).abs), tSl encP ((ofS (normS q)).cs)]⟩, ⟨b7, 28, cTs [tIs (.int .i64 ((ofS (normS p)).lv)), tIs (.bool (((ofS (normS p)).c).neg)), tSl encD (((ofS (normS p)).c).abs), tSl encP ((ofS (normS p)).cs)]⟩]) (Tb := fun κ => [tV encP (ofS (normS p)), tV encP (ofS (normS q)), tV encP (mulF 4 (ofS (normS p)) (ofS (normS q))), tV encP (ofS (normS o)), tV encP (addF 4 (mulF 4 (ofS (normS p)) (ofS (normS q))) (ofS (normS o))), pOwn κ 0, tAny]) (n := 5) b11 rfl
   case mx1_5 =>
    intro b11
    refine RP.step (al := (fun i => [0, 1, 2, 3, 4].contains i)) (Γn := [(11, pOwn b11 0), (56, tV encP (addF 4 (mulF 4 (ofS (normS p)) (ofS (normS q))) (ofS (normS o)))), (55, tV encP (ofS (normS o))), (54, tV encP (mulF 4 (ofS (normS p)) (ofS (normS q)))), (53, tV encP (ofS (normS q))), (52, tV encP (ofS (normS p))), (9, pOwn b9 0), (8, pOwn b8 0), (7, pOwn b7 0), (6, tIs (.bool false))]) (Γ' := ?pg2) 6 (by kernel_rfl) (by kernel_rfl) ?tp2 ?nx2
    case tp2 =>
     refine TP.op (oa (.t rfl) (.tail _ (.tail _ (.tail _ (.head _)))) ag28 (cTs_ldV (g := polT) (y := (ofS (normS p))) (polT_eq (ofS (normS p))).symm rfl)) rfl (ltN rfl) rfl rfl ?_
     refine TP.op (oa (.t rfl) (.tail _ (.tail _ (.head _))) ag28 (cTs_ldV (g := polT) (y := (ofS (normS q))) (polT_eq (ofS (normS q))).symm rfl)) rfl (ltN rfl) rfl rfl ?_
     refine TP.op (oc fn29 (mulK_c (ofS (normS p)) (ofS (normS q)) hP.pg hQ.pg ⟨⟨by decide, by decide, by decide⟩, by decide⟩) (.cons (.t rfl) (.cons (.t rfl) .nil))) rfl (ltN rfl) rfl rfl ?_
     refine TP.op (oa (.t rfl) (.tail _ (.head _)) ag28 (cTs_ldV (g := polT) (y := (ofS (normS o))) (polT_eq (ofS (normS o))).symm rfl)) rfl (ltN rfl) rfl rfl ?_
     refine TP.op (oc fn40 (addK_c (mulF 4 (ofS (normS p)) (ofS (normS q))) (ofS (normS o)) hFG (hO.pg.mono (by decide) (by decide)) ⟨by decide, by decide⟩) (.cons (.t rfl) (.cons (.t rfl) .nil))) rfl (ltN rfl) rfl rfl ?_
     refine TP.skip rfl rfl rfl ?_
     refine TP.at0 rfl rfl ?_
     exact TP.nil
    case nx2 =>
    refine OneStep.mk (ι := Unit) (Hb := fun κ => [⟨b11, 28, cTs [tIs (.int .i64 ((addF 4 (mulF 4 (ofS (normS p)) (ofS (normS q))) (ofS (normS o))).lv)), tIs (.bool (((addF 4 (mulF 4 (ofS (normS p)) (ofS (normS q))) (ofS (normS o))).c).neg)), tSl encD (((addF 4 (mulF 4 (ofS (normS p)) (ofS (normS q))) (ofS (normS o))).c).abs), tSl encP ((addF 4 (mulF 4 (ofS (normS p)) (ofS (normS q))) (ofS (normS o))).cs)]⟩, ⟨b9, 28, cTs [tIs (.int .i64 ((ofS (normS o)).lv)), tIs (.bool (((ofS (normS o)).c).neg)), tSl encD (((ofS (normS o)).c).abs), tSl encP ((ofS (normS o)).cs)]⟩, ⟨b8, 28, cTs [tIs (.int .i64 ((ofS (normS q)).lv)), tIs (.bool (((ofS (normS q)).c).neg)), tSl encD (((ofS (normS q)).c).abs), tSl encP ((ofS (normS q)).cs)]⟩, ⟨b7, 28, cTs [tIs (.int .i64 ((ofS (normS p)).lv)), tIs (.bool (((ofS (normS p)).c).neg)), tSl encD (((ofS (normS p)).c).abs), tSl encP ((ofS (normS p)).cs)]⟩]) (Tb := fun κ => [tV encP (ofS (normS p)), tV encP (ofS (normS q)), tV encP (mulF 4 (ofS (normS p)) (ofS (normS q))), tV encP (ofS (normS o)), tV encP (addF 4 (mulF 4 (ofS (normS p)) (ofS (normS q))) (ofS (normS o))), pOwn b11 0, tAny]) (fun i => [0, 1, 2, 3, 4, 5, 6].contains i) (fun _ => false) rfl rfl (fun _ => ⟨.inr rfl, ⟨.inr rfl, ⟨.inr rfl, ⟨.inr rfl, ⟨.inr rfl, ⟨.inr rfl, ⟨.inl rfl, trivial⟩⟩⟩⟩⟩⟩⟩) (by kernel_rfl) ?op2_6 ?mx2_6
    case op2_6 =>
     intro Γx hx
     refine J.store (.move hx (.t rfl) (by kernel_rfl)) (.eq (.move hx (.t rfl) (by kernel_rfl)) (tV_F (Ts := [tIs (.int .i64 ((addF 4 (mulF 4 (ofS (normS p)) (ofS (normS q))) (ofS (normS o))).lv)), tIs (.bool (((addF 4 (mulF 4 (ofS (normS p)) (ofS (normS q))) (ofS (normS o))).c).neg)), tSl encD (((addF 4 (mulF 4 (ofS (normS p)) (ofS (normS q))) (ofS (normS o))).c).abs), tSl encP ((addF 4 (mulF 4 (ofS (normS p)) (ofS (normS q))) (ofS (normS o))).cs)]) (polT_eq _))) .here sz28 (st_agg (Ts' := [tIs (.int .i64 ((addF 4 (mulF 4 (ofS (normS p)) (ofS (normS q))) (ofS (normS o))).lv)), tIs (.bool (((addF 4 (mulF 4 (ofS (normS p)) (ofS (normS q))) (ofS (normS o))).c).neg)), tSl encD (((addF 4 (mulF 4 (ofS (normS p)) (ofS (normS q))) (ofS (normS o))).c).abs), tSl encP ((addF 4 (mulF 4 (ofS (normS p)) (ofS (normS q))) (ofS (normS o))).cs)]) (o := 0) rfl) ?_
     exact J.midP (Hb := fun κ => [⟨b11, 28, cTs [tIs (.int .i64 ((addF 4 (mulF 4 (ofS (normS p)) (ofS (normS q))) (ofS (normS o))).lv)), tIs (.bool (((addF 4 (mulF 4 (ofS (normS p)) (ofS (normS q))) (ofS (normS o))).c).neg)), tSl encD (((addF 4 (mulF 4 (ofS (normS p)) (ofS (normS q))) (ofS (normS o))).c).abs), tSl encP ((addF 4 (mulF 4 (ofS (normS p)) (ofS (normS q))) (ofS (normS o))).cs)]⟩, ⟨b9, 28, cTs [tIs (.int .i64 ((ofS (normS o)).lv)), tIs (.bool (((ofS (normS o)).c).neg)), tSl encD (((ofS (normS o)).c).abs), tSl encP ((ofS (normS o)).cs)]⟩, ⟨b8, 28, cTs [tIs (.int .i64 ((ofS (normS q)).lv)), tIs (.bool (((ofS (normS q)).c).neg)), tSl encD (((ofS (normS q)).c).abs), tSl encP ((ofS (normS q)).cs)]⟩, ⟨b7, 28, cTs [tIs (.int .i64 ((ofS (normS p)).lv)), tIs (.bool (((ofS (normS p)).c).neg)), tSl encD (((ofS (normS p)).c).abs), tSl encP ((ofS (normS p)).cs)]⟩]) (Tb := fun κ => [tV encP (ofS (normS p)), tV encP (ofS (normS q)), tV encP (mulF 4 (ofS (normS p)) (ofS (normS q))), tV encP (ofS (normS o)), tV encP (addF 4 (mulF 4 (ofS (normS p)) (ofS (normS q))) (ofS (normS o))), pOwn b11 0, tAny]) (n := 6) () rfl
    case mx2_6 =>
     intro _
     refine RP.last (al := (fun _ => false)) (Γn := []) (Γ' := [(11, pOwn b11 0), (56, tV encP (addF 4 (mulF 4 (ofS (normS p)) (ofS (normS q))) (ofS (normS o)))), (55, tV encP (ofS (normS o))), (54, tV encP (mulF 4 (ofS (normS p)) (ofS (normS q)))), (53, tV encP (ofS (normS q))), (52, tV encP (ofS (normS p))), (9, pOwn b9 0), (8, pOwn b8 0), (7, pOwn b7 0), (6, tIs (.bool false))]) (by kernel_rfl) (by kernel_rfl) ?tp3 ?_
     case tp3 =>
      refine TP.skip rfl rfl rfl ?_
      refine TP.skip rfl rfl rfl ?_
      refine TP.skip rfl rfl rfl ?_
      refine TP.skip rfl rfl rfl ?_
      refine TP.skip rfl rfl rfl ?_
      refine TP.skip rfl rfl rfl ?_
      refine TP.skip0 rfl rfl rfl ?_
      exact TP.nil
     refine JQ.then_normal (JC.g (J.o (oa (.t rfl) (.head _) ag28 (cTs_ldV (g := polT) (y := (addF 4 (mulF 4 (ofS (normS p)) (ofS (normS q))) (ofS (normS o)))) (polT_eq (addF 4 (mulF 4 (ofS (normS p)) (ofS (normS q))) (ofS (normS o)))).symm rfl)) rfl (J.o (oa (.t rfl) (.tail _ (.tail _ (.head _))) ag28 (cTs_ldV (g := polT) (y := (ofS (normS q))) (polT_eq (ofS (normS q))).symm rfl)) rfl ?_)))
     refine J.o (ot_eqt (T' := tTup [tV encP p0, tIs (.int .i64 3)]) (oc fn28 (pExact_c (addF 4 (mulF 4 (ofS (normS p)) (ofS (normS q))) (ofS (normS o))) (ofS (normS q)) hS hQ.pg hQ.ng rm_11) (.cons (.t rfl) (.cons (.t rfl) .nil))) (by rw [z1, z2])) rfl (J.M rfl rfl ?_)
     refine J.o (ot_extract (.t rfl) rfl) rfl ?_
     refine J.o (ot_extract (.t rfl) rfl) rfl ?_
     refine J.alloc (R := cTs zP) zr28 (fun _ => ⟨rfl, rfl, rfl, rfl, slP_nil _ _, rfl, slP_nil _ _, rfl, trivial⟩) (ltN rfl) fun b12 => ?_
     refine J.store (.t rfl) (.eq (.t rfl) (tV_F (Ts := (pT p0)) (polT_eq _))) .here sz28 (st_agg (Ts' := (pT p0)) (o := 0) rfl) (J.A rfl rfl (J.e (JC.g (J.M rfl rfl (J.o (ot_eql (.t rfl) .is) rfl (J.M rfl rfl ?_))))))
     refine J.opg rfl rfl rfl (ltN rfl) (fun hg => oa (.t rfl) (.head _) ag28 (cTs_ldV (g := polT) (y := p0) (polT_eq p0).symm rfl)) rfl (ltN rfl) ?_
     refine J.opg rfl rfl rfl (ltN rfl) (fun hg => oc fn30 (isZeroK_c p0 (pg_p0 : Pg 4 5 p0) ⟨by decide, by decide⟩) (.cons (.iff hg (.t rfl)) .nil)) rfl (ltN rfl) ?_
     refine J.o (ot_and2 (.t rfl) (.t rfl) .is) rfl (J.M rfl rfl ?_)
     refine J.opg rfl rfl rfl (ltN rfl) (fun hg => oa (.t rfl) (.tail _ (.tail _ (.tail _ (.head _)))) ag28 (cTs_ldV (g := polT) (y := (ofS (normS q))) (polT_eq (ofS (normS q))).symm rfl)) rfl (ltN rfl) ?_
     refine J.opg rfl rfl rfl (ltN rfl) (fun hg => oa (.t rfl) (.tail _ (.head _)) ag28 (cTs_ldV (g := polT) (y := (addF 4 (mulF 4 (ofS (normS p)) (ofS (normS q))) (ofS (normS o)))) (polT_eq (addF 4 (mulF 4 (ofS (normS p)) (ofS (normS q))) (ofS (normS o)))).symm rfl)) rfl (ltN rfl) ?_
     refine J.opg rfl rfl rfl (ltN rfl) (fun hg => ot_eqt (T' := tIs (.bool false)) (oc fn33 (divides_c (ofS (normS q)) (addF 4 (mulF 4 (ofS (normS p)) (ofS (normS q))) (ofS (normS o))) hS hQ.pg hQ.ng rm_11 (by decide)) (.cons (.iff hg (.t rfl)) (.cons (.iff hg (.t rfl)) .nil))) (by rw [x2])) rfl (ltN rfl) ?_
     refine J.opg rfl rfl rfl (ltN rfl) (fun hg => ot_not (.iff hg (.t rfl))) rfl (ltN rfl) ?_
     refine J.o (ot_and2 (.t rfl) (.t rfl) .is) rfl (J.A rfl rfl (J.e (JC.ret ?_)))
     exact JQ.ret1 rfl (.tmp (.eq (.t rfl) (by rw [zeroP_p0]; rfl)))

end Go.Proofs.Ytcbnpddeiaccbaa
