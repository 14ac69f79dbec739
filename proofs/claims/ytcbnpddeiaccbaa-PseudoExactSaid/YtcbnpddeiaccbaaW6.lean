/- Walks through the program: each function called at values of the kinds that its contract names returns what the contract says. Conditions: those in the contracts. Written by the program wip/gen. -/
import Derived.Test.YtcbnpddeiaccbaaW5
set_option linter.unusedVariables false
set_option linter.unusedSimpArgs false
set_option maxRecDepth 100000
set_option maxHeartbeats 4000000
namespace Go.Proofs.Ytcbnpddeiaccbaa
open Go Go.RowKit Go.Rt
theorem fit24_c  : Ctr Try.prog 25 [] (tIs (.bool true)) := by
 refine Ctr.of Try.func25 rfl Try.ntmps25 (Nat.le_of_ble_eq_true rfl) fun w0 M0 => (JC.g ?_)
 refine J.a .is rfl (J.e (JC.g ?_))
 refine J.o (ot_eqt (T' := tV encP vX) (oc fn55 (var_c 1 ) (.cons .is .nil)) (by rfl)) rfl ?_
 refine J.o (ot_eqt (T' := tV encP vY) (oc fn55 (var_c 2 ) (.cons .is .nil)) (by rfl)) rfl ?_
 refine J.alloc (R := cTs zP) zr28 (fun _ => ⟨rfl, rfl, rfl, rfl, slP_nil _ _, rfl, slP_nil _ _, rfl, trivial⟩) (ltN rfl) fun b1 => ?_
 refine J.alloc (R := cTs zP) zr28 (fun _ => ⟨rfl, rfl, rfl, rfl, slP_nil _ _, rfl, slP_nil _ _, rfl, trivial⟩) (ltN rfl) fun b2 => ?_
 refine J.store (.t rfl) (.eq (.t rfl) (tV_F (Ts := [tIs (.int .i64 (vX.lv)), tIs (.bool (vX.c.neg)), tSl encD (vX.c.abs), tSl encP (vX.cs)]) (polT_eq _))) (.there .here) sz28 (st_agg (Ts' := [tIs (.int .i64 (vX.lv)), tIs (.bool (vX.c.neg)), tSl encD (vX.c.abs), tSl encP (vX.cs)]) (o := 0) rfl) ?_
 refine J.store (.t rfl) (.eq (.t rfl) (tV_F (Ts := [tIs (.int .i64 (vY.lv)), tIs (.bool (vY.c.neg)), tSl encD (vY.c.abs), tSl encP (vY.cs)]) (polT_eq _))) .here sz28 (st_agg (Ts' := [tIs (.int .i64 (vY.lv)), tIs (.bool (vY.c.neg)), tSl encD (vY.c.abs), tSl encP (vY.cs)]) (o := 0) rfl) (J.e (JC.seq ?_))
 refine JC.weak (Γ' := [(2, pOwn b2 0), (1, pOwn b1 0), (0, tIs (.bool false))]) (H' := [⟨b2, 28, cTs [tIs (.int .i64 (vY.lv)), tIs (.bool (vY.c.neg)), tSl encD (vY.c.abs), tSl encP (vY.cs)]⟩, ⟨b1, 28, cTs [tIs (.int .i64 (vX.lv)), tIs (.bool (vX.c.neg)), tSl encD (vX.c.abs), tSl encP (vX.cs)]⟩]) (sub_trans (sub_heap (.k (.k .nil))) (sub_l ⟨.t rfl, .t rfl, .t rfl, trivial⟩)) ?_
 refine JC.drawP (Ts := [tV encP vX, tV encP (powP vX 2), tV encP vY, tV encP (powP vY 2), tV encP (addF 4 (powP vX 2) (scaleP (powP vY 2) (-1))), tV encP vX, tV encP vY, tV encP (addF 4 vX vY), tTup [tV encP (addF 4 vX (scaleP vY (-1))), tIs (.int .i64 0)], tTup [tV encP (addF 4 vX (scaleP vY (-1))), tIs (.int .i64 0)], tV encP (addF 4 vX (scaleP vY (-1))), tIs (.int .i64 0), tAny, tAny, tAny]) (un := (fun i => [12, 13].contains i)) mo (by kernel_rfl) ?_
 refine RP.step (al := (fun i => [0, 1, 2, 3, 4, 5, 6, 7, 8, 9, 10, 11].contains i)) (Γn := [(18, tIs (.int .i64 0)), (17, tV encP (addF 4 vX (scaleP vY (-1)))), (7, tTup [tV encP (addF 4 vX (scaleP vY (-1))), tIs (.int .i64 0)]), (16, tTup [tV encP (addF 4 vX (scaleP vY (-1))), tIs (.int .i64 0)]), (15, tV encP (addF 4 vX vY)), (14, tV encP vY), (13, tV encP vX), (12, tV encP (addF 4 (powP vX 2) (scaleP (powP vY 2) (-1)))), (11, tV encP (powP vY 2)), (10, tV encP vY), (9, tV encP (powP vX 2)), (8, tV encP vX), (2, pOwn b2 0), (1, pOwn b1 0), (0, tIs (.bool false))]) (Γ' := ?pg1) 12 (by kernel_rfl) (by kernel_rfl) ?tp1 ?nx1
 case tp1 =>
  refine TP.op (oa (.t rfl) (.tail _ (.head _)) ag28 (cTs_ldV (g := polT) (y := vX) (polT_eq vX).symm rfl)) rfl (ltN rfl) rfl rfl ?_
  refine TP.op (oc fn69 (pow_c vX 2 2 (pg_var : Pg 2 1 vX) rfl (by decide) (by decide) ⟨by decide, by decide, by decide, by decide⟩) (.cons (.t rfl) (.cons .is .nil))) rfl (ltN rfl) rfl rfl ?_
  refine TP.op (oa (.t rfl) (.head _) ag28 (cTs_ldV (g := polT) (y := vY) (polT_eq vY).symm rfl)) rfl (ltN rfl) rfl rfl ?_
  refine TP.op (oc fn69 (pow_c vY 2 2 (pg_var : Pg 2 1 vY) rfl (by decide) (by decide) ⟨by decide, by decide, by decide, by decide⟩) (.cons (.t rfl) (.cons .is .nil))) rfl (ltN rfl) rfl rfl ?_
  refine TP.op (oc fn68 (subK_c (powP vX 2) (powP vY 2) (powP_pg (pg_var : Pg 2 1 vX) (by decide) 2) (powP_pg (pg_var : Pg 2 1 vY) (by decide) 2) ⟨by decide, by decide⟩) (.cons (.t rfl) (.cons (.t rfl) .nil))) rfl (ltN rfl) rfl rfl ?_
  refine TP.op (oa (.t rfl) (.tail _ (.head _)) ag28 (cTs_ldV (g := polT) (y := vX) (polT_eq vX).symm rfl)) rfl (ltN rfl) rfl rfl ?_
  refine TP.op (oa (.t rfl) (.head _) ag28 (cTs_ldV (g := polT) (y := vY) (polT_eq vY).symm rfl)) rfl (ltN rfl) rfl rfl ?_
  refine TP.op (oc fn40 (addK_c vX vY (pg_var : Pg 2 1 vX) (pg_var : Pg 2 1 vY) ⟨by decide, by decide⟩) (.cons (.t rfl) (.cons (.t rfl) .nil))) rfl (ltN rfl) rfl rfl ?_
  refine TP.op (ot_eqt (T' := tTup [tV encP (addF 4 vX (scaleP vY (-1))), tIs (.int .i64 0)]) (oc fn28 (pExact_c (addF 4 (powP vX 2) (scaleP (powP vY 2) (-1))) (addF 4 vX vY) (((powP_pg (pg_var : Pg 2 1 vX) (by decide) 2).add (powP_pg (pg_var : Pg 2 1 vY) (by decide) 2).neg (by decide) : Pg 5 4 _).mono (by decide) (by decide)) (((pg_var : Pg 2 1 vX).add (pg_var : Pg 2 1 vY) (by decide) : Pg 2 2 (addF 4 vX vY)).mono (by decide) (by decide)) (pg_small2 ((pg_var : Pg 2 1 vX).add (pg_var : Pg 2 1 vY) (by decide) : Pg 2 2 (addF 4 vX vY))) rm_small) (.cons (.t rfl) (.cons (.t rfl) .nil))) (by rw [fit_r.1, fit_r.2])) rfl (ltN rfl) rfl rfl ?_
  refine TP.op (ot_move (.t rfl)) rfl (ltN rfl) rfl rfl ?_
  refine TP.op (ot_extract (.t rfl) rfl) rfl (ltN rfl) rfl rfl ?_
  refine TP.op (ot_extract (.t rfl) rfl) rfl (ltN rfl) rfl rfl ?_
  refine TP.at rfl rfl ?_
  refine TP.skip0 rfl rfl rfl ?_
  refine TP.skip rfl rfl rfl ?_
  exact TP.nil
 case nx1 =>
 refine OneStep.mk (ι := Nat) (Hb := fun κ => [⟨κ, 28, cTs zP⟩, ⟨b2, 28, cTs [tIs (.int .i64 (vY.lv)), tIs (.bool (vY.c.neg)), tSl encD (vY.c.abs), tSl encP (vY.cs)]⟩, ⟨b1, 28, cTs [tIs (.int .i64 (vX.lv)), tIs (.bool (vX.c.neg)), tSl encD (vX.c.abs), tSl encP (vX.cs)]⟩]) (Tb := fun κ => [tV encP vX, tV encP (powP vX 2), tV encP vY, tV encP (powP vY 2), tV encP (addF 4 (powP vX 2) (scaleP (powP vY 2) (-1))), tV encP vX, tV encP vY, tV encP (addF 4 vX vY), tTup [tV encP (addF 4 vX (scaleP vY (-1))), tIs (.int .i64 0)], tTup [tV encP (addF 4 vX (scaleP vY (-1))), tIs (.int .i64 0)], tV encP (addF 4 vX (scaleP vY (-1))), tIs (.int .i64 0), pOwn κ 0, tAny, tAny]) (fun i => [12].contains i) (fun i => [13].contains i) rfl rfl (fun _ => ⟨.inr rfl, ⟨.inr rfl, ⟨.inr rfl, ⟨.inr rfl, ⟨.inr rfl, ⟨.inr rfl, ⟨.inr rfl, ⟨.inr rfl, ⟨.inr rfl, ⟨.inr rfl, ⟨.inr rfl, ⟨.inr rfl, ⟨.inl rfl, ⟨.inl rfl, ⟨.inl rfl, trivial⟩⟩⟩⟩⟩⟩⟩⟩⟩⟩⟩⟩⟩⟩⟩) (by kernel_rfl) ?op1_12 ?mx1_12
 case op1_12 =>
  intro Γx hx
  refine J.alloc (R := cTs zP) zr28 (fun _ => ⟨rfl, rfl, rfl, rfl, slP_nil _ _, rfl, slP_nil _ _, rfl, trivial⟩) (ltN rfl) fun b3 => ?_
  exact J.midP (Hb := fun κ => [⟨κ, 28, cTs zP⟩, ⟨b2, 28, cTs [tIs (.int .i64 (vY.lv)), tIs (.bool (vY.c.neg)), tSl encD (vY.c.abs), tSl encP (vY.cs)]⟩, ⟨b1, 28, cTs [tIs (.int .i64 (vX.lv)), tIs (.bool (vX.c.neg)), tSl encD (vX.c.abs), tSl encP (vX.cs)]⟩]) (Tb := fun κ => [tV encP vX, tV encP (powP vX 2), tV encP vY, tV encP (powP vY 2), tV encP (addF 4 (powP vX 2) (scaleP (powP vY 2) (-1))), tV encP vX, tV encP vY, tV encP (addF 4 vX vY), tTup [tV encP (addF 4 vX (scaleP vY (-1))), tIs (.int .i64 0)], tTup [tV encP (addF 4 vX (scaleP vY (-1))), tIs (.int .i64 0)], tV encP (addF 4 vX (scaleP vY (-1))), tIs (.int .i64 0), pOwn κ 0, tAny, tAny]) (n := 12) b3 rfl
 case mx1_12 =>
  intro b3
  refine RP.step (al := (fun i => [0, 1, 2, 3, 4, 5, 6, 7, 8, 9, 10, 11].contains i)) (Γn := [(3, pOwn b3 0), (18, tIs (.int .i64 0)), (17, tV encP (addF 4 vX (scaleP vY (-1)))), (7, tTup [tV encP (addF 4 vX (scaleP vY (-1))), tIs (.int .i64 0)]), (16, tTup [tV encP (addF 4 vX (scaleP vY (-1))), tIs (.int .i64 0)]), (15, tV encP (addF 4 vX vY)), (14, tV encP vY), (13, tV encP vX), (12, tV encP (addF 4 (powP vX 2) (scaleP (powP vY 2) (-1)))), (11, tV encP (powP vY 2)), (10, tV encP vY), (9, tV encP (powP vX 2)), (8, tV encP vX), (2, pOwn b2 0), (1, pOwn b1 0), (0, tIs (.bool false))]) (Γ' := ?pg2) 13 (by kernel_rfl) (by kernel_rfl) ?tp2 ?nx2
  case tp2 =>
   refine TP.op (oa (.t rfl) (.tail _ (.tail _ (.head _))) ag28 (cTs_ldV (g := polT) (y := vX) (polT_eq vX).symm rfl)) rfl (ltN rfl) rfl rfl ?_
   refine TP.op (oc fn69 (pow_c vX 2 2 (pg_var : Pg 2 1 vX) rfl (by decide) (by decide) ⟨by decide, by decide, by decide, by decide⟩) (.cons (.t rfl) (.cons .is .nil))) rfl (ltN rfl) rfl rfl ?_
   refine TP.op (oa (.t rfl) (.tail _ (.head _)) ag28 (cTs_ldV (g := polT) (y := vY) (polT_eq vY).symm rfl)) rfl (ltN rfl) rfl rfl ?_
   refine TP.op (oc fn69 (pow_c vY 2 2 (pg_var : Pg 2 1 vY) rfl (by decide) (by decide) ⟨by decide, by decide, by decide, by decide⟩) (.cons (.t rfl) (.cons .is .nil))) rfl (ltN rfl) rfl rfl ?_
   refine TP.op (oc fn68 (subK_c (powP vX 2) (powP vY 2) (powP_pg (pg_var : Pg 2 1 vX) (by decide) 2) (powP_pg (pg_var : Pg 2 1 vY) (by decide) 2) ⟨by decide, by decide⟩) (.cons (.t rfl) (.cons (.t rfl) .nil))) rfl (ltN rfl) rfl rfl ?_
   refine TP.op (oa (.t rfl) (.tail _ (.tail _ (.head _))) ag28 (cTs_ldV (g := polT) (y := vX) (polT_eq vX).symm rfl)) rfl (ltN rfl) rfl rfl ?_
   refine TP.op (oa (.t rfl) (.tail _ (.head _)) ag28 (cTs_ldV (g := polT) (y := vY) (polT_eq vY).symm rfl)) rfl (ltN rfl) rfl rfl ?_
   refine TP.op (oc fn40 (addK_c vX vY (pg_var : Pg 2 1 vX) (pg_var : Pg 2 1 vY) ⟨by decide, by decide⟩) (.cons (.t rfl) (.cons (.t rfl) .nil))) rfl (ltN rfl) rfl rfl ?_
   refine TP.op (ot_eqt (T' := tTup [tV encP (addF 4 vX (scaleP vY (-1))), tIs (.int .i64 0)]) (oc fn28 (pExact_c (addF 4 (powP vX 2) (scaleP (powP vY 2) (-1))) (addF 4 vX vY) (((powP_pg (pg_var : Pg 2 1 vX) (by decide) 2).add (powP_pg (pg_var : Pg 2 1 vY) (by decide) 2).neg (by decide) : Pg 5 4 _).mono (by decide) (by decide)) (((pg_var : Pg 2 1 vX).add (pg_var : Pg 2 1 vY) (by decide) : Pg 2 2 (addF 4 vX vY)).mono (by decide) (by decide)) (pg_small2 ((pg_var : Pg 2 1 vX).add (pg_var : Pg 2 1 vY) (by decide) : Pg 2 2 (addF 4 vX vY))) rm_small) (.cons (.t rfl) (.cons (.t rfl) .nil))) (by rw [fit_r.1, fit_r.2])) rfl (ltN rfl) rfl rfl ?_
   refine TP.op (ot_move (.t rfl)) rfl (ltN rfl) rfl rfl ?_
   refine TP.op (ot_extract (.t rfl) rfl) rfl (ltN rfl) rfl rfl ?_
   refine TP.op (ot_extract (.t rfl) rfl) rfl (ltN rfl) rfl rfl ?_
   refine TP.skip rfl rfl rfl ?_
   refine TP.at0 rfl rfl ?_
   refine TP.skip rfl rfl rfl ?_
   exact TP.nil
  case nx2 =>
  refine OneStep.mk (ι := Unit) (Hb := fun κ => [⟨b3, 28, cTs [tIs (.int .i64 ((addF 4 vX (scaleP vY (-1))).lv)), tIs (.bool (((addF 4 vX (scaleP vY (-1))).c).neg)), tSl encD (((addF 4 vX (scaleP vY (-1))).c).abs), tSl encP ((addF 4 vX (scaleP vY (-1))).cs)]⟩, ⟨b2, 28, cTs [tIs (.int .i64 (vY.lv)), tIs (.bool (vY.c.neg)), tSl encD (vY.c.abs), tSl encP (vY.cs)]⟩, ⟨b1, 28, cTs [tIs (.int .i64 (vX.lv)), tIs (.bool (vX.c.neg)), tSl encD (vX.c.abs), tSl encP (vX.cs)]⟩]) (Tb := fun κ => [tV encP vX, tV encP (powP vX 2), tV encP vY, tV encP (powP vY 2), tV encP (addF 4 (powP vX 2) (scaleP (powP vY 2) (-1))), tV encP vX, tV encP vY, tV encP (addF 4 vX vY), tTup [tV encP (addF 4 vX (scaleP vY (-1))), tIs (.int .i64 0)], tTup [tV encP (addF 4 vX (scaleP vY (-1))), tIs (.int .i64 0)], tV encP (addF 4 vX (scaleP vY (-1))), tIs (.int .i64 0), pOwn b3 0, tAny, tIs (.int .i64 0)]) (fun i => [0, 1, 2, 3, 4, 5, 6, 7, 8, 9, 10, 12, 13].contains i) (fun _ => false) rfl rfl (fun _ => ⟨.inr rfl, ⟨.inr rfl, ⟨.inr rfl, ⟨.inr rfl, ⟨.inr rfl, ⟨.inr rfl, ⟨.inr rfl, ⟨.inr rfl, ⟨.inr rfl, ⟨.inr rfl, ⟨.inr rfl, ⟨.inr rfl, ⟨.inr rfl, ⟨.inl rfl, ⟨.inl rfl, trivial⟩⟩⟩⟩⟩⟩⟩⟩⟩⟩⟩⟩⟩⟩⟩) (by kernel_rfl) ?op2_13 ?mx2_13
  case op2_13 =>
   intro Γx hx
   refine J.store (.move hx (.t rfl) (by kernel_rfl)) (.eq (.move hx (.t rfl) (by kernel_rfl)) (tV_F (Ts := [tIs (.int .i64 ((addF 4 vX (scaleP vY (-1))).lv)), tIs (.bool (((addF 4 vX (scaleP vY (-1))).c).neg)), tSl encD (((addF 4 vX (scaleP vY (-1))).c).abs), tSl encP ((addF 4 vX (scaleP vY (-1))).cs)]) (polT_eq _))) .here sz28 (st_agg (Ts' := [tIs (.int .i64 ((addF 4 vX (scaleP vY (-1))).lv)), tIs (.bool (((addF 4 vX (scaleP vY (-1))).c).neg)), tSl encD (((addF 4 vX (scaleP vY (-1))).c).abs), tSl encP ((addF 4 vX (scaleP vY (-1))).cs)]) (o := 0) rfl) ?_
   exact J.midP (Hb := fun κ => [⟨b3, 28, cTs [tIs (.int .i64 ((addF 4 vX (scaleP vY (-1))).lv)), tIs (.bool (((addF 4 vX (scaleP vY (-1))).c).neg)), tSl encD (((addF 4 vX (scaleP vY (-1))).c).abs), tSl encP ((addF 4 vX (scaleP vY (-1))).cs)]⟩, ⟨b2, 28, cTs [tIs (.int .i64 (vY.lv)), tIs (.bool (vY.c.neg)), tSl encD (vY.c.abs), tSl encP (vY.cs)]⟩, ⟨b1, 28, cTs [tIs (.int .i64 (vX.lv)), tIs (.bool (vX.c.neg)), tSl encD (vX.c.abs), tSl encP (vX.cs)]⟩]) (Tb := fun κ => [tV encP vX, tV encP (powP vX 2), tV encP vY, tV encP (powP vY 2), tV encP (addF 4 (powP vX 2) (scaleP (powP vY 2) (-1))), tV encP vX, tV encP vY, tV encP (addF 4 vX vY), tTup [tV encP (addF 4 vX (scaleP vY (-1))), tIs (.int .i64 0)], tTup [tV encP (addF 4 vX (scaleP vY (-1))), tIs (.int .i64 0)], tV encP (addF 4 vX (scaleP vY (-1))), tIs (.int .i64 0), pOwn b3 0, tAny, tIs (.int .i64 0)]) (n := 13) () rfl
  case mx2_13 =>
   intro _
   refine RP.last (al := (fun i => [11, 14].contains i)) (Γn := []) (Γ' := [(4, tIs (.int .i64 0)), (3, pOwn b3 0), (18, tIs (.int .i64 0)), (17, tV encP (addF 4 vX (scaleP vY (-1)))), (7, tTup [tV encP (addF 4 vX (scaleP vY (-1))), tIs (.int .i64 0)]), (16, tTup [tV encP (addF 4 vX (scaleP vY (-1))), tIs (.int .i64 0)]), (15, tV encP (addF 4 vX vY)), (14, tV encP vY), (13, tV encP vX), (12, tV encP (addF 4 (powP vX 2) (scaleP (powP vY 2) (-1)))), (11, tV encP (powP vY 2)), (10, tV encP vY), (9, tV encP (powP vX 2)), (8, tV encP vX), (2, pOwn b2 0), (1, pOwn b1 0), (0, tIs (.bool false))]) (by kernel_rfl) (by kernel_rfl) ?tp3 ?_
   case tp3 =>
    refine TP.skip rfl rfl rfl ?_
    refine TP.skip rfl rfl rfl ?_
    refine TP.skip rfl rfl rfl ?_
    refine TP.skip rfl rfl rfl ?_
    refine TP.skip rfl rfl rfl ?_
    refine TP.skip rfl rfl rfl ?_
    refine TP.skip rfl rfl rfl ?_
    refine TP.skip rfl rfl rfl ?_
    refine TP.skip rfl rfl rfl ?_
    refine TP.skip rfl rfl rfl ?_
    refine TP.skip rfl rfl rfl ?_
    refine TP.op (ot_extract (.t rfl) rfl) rfl (ltN rfl) rfl rfl ?_
    refine TP.skip rfl rfl rfl ?_
    refine TP.skip0 rfl rfl rfl ?_
    refine TP.op (ot_assign (.t rfl)) rfl (ltN rfl) rfl rfl ?_
    exact TP.nil
   refine JQ.then_normal (JC.seq ?_)
   refine JC.draw (Γ' := ?g2) mo (by kernel_rfl) ?tw2 ?k2
   case tw2 =>
    refine TW.M rfl rfl ?_
    refine TW.o (ot_eql (.t rfl) .is) rfl (TW.M rfl rfl ?_)
    refine TW.opg rfl rfl rfl (ltN rfl) (fun hg => oa (.t rfl) (.head _) ag28 (cTs_ldV (g := polT) (y := (addF 4 vX (scaleP vY (-1)))) (polT_eq (addF 4 vX (scaleP vY (-1)))).symm rfl)) rfl (ltN rfl) ?_
    refine TW.opg rfl rfl rfl (ltN rfl) (fun hg => oa (.t rfl) (.tail _ (.tail _ (.head _))) ag28 (cTs_ldV (g := polT) (y := vX) (polT_eq vX).symm rfl)) rfl (ltN rfl) ?_
    refine TW.opg rfl rfl rfl (ltN rfl) (fun hg => oa (.t rfl) (.tail _ (.head _)) ag28 (cTs_ldV (g := polT) (y := vY) (polT_eq vY).symm rfl)) rfl (ltN rfl) ?_
    refine TW.opg rfl rfl rfl (ltN rfl) (fun hg => oc fn68 (subK_c vX vY (pg_var : Pg 2 1 vX) (pg_var : Pg 2 1 vY) ⟨by decide, by decide⟩) (.cons (.iff hg (.t rfl)) (.cons (.iff hg (.t rfl)) .nil))) rfl (ltN rfl) ?_
    refine TW.opg rfl rfl rfl (ltN rfl) (fun hg => oc fn31 (sameK_c (addF 4 vX (scaleP vY (-1))) (addF 4 vX (scaleP vY (-1))) ((pg_var : Pg 2 1 vX).add (pg_var : Pg 2 1 vY).neg (by decide)) ⟨by decide, by decide⟩ rfl) (.cons (.iff hg (.t rfl)) (.cons (.iff hg (.t rfl)) .nil))) rfl (ltN rfl) ?_
    refine TW.o (ot_and2 (.t rfl) (.t rfl) .is) rfl (TW.M rfl rfl ?_)
    refine TW.opg rfl rfl rfl (ltN rfl) (fun hg => oa (.t rfl) (.tail _ (.tail _ (.head _))) ag28 (cTs_ldV (g := polT) (y := vX) (polT_eq vX).symm rfl)) rfl (ltN rfl) ?_
    refine TW.opg rfl rfl rfl (ltN rfl) (fun hg => oa (.t rfl) (.tail _ (.tail _ (.head _))) ag28 (cTs_ldV (g := polT) (y := vX) (polT_eq vX).symm rfl)) rfl (ltN rfl) ?_
    refine TW.opg rfl rfl rfl (ltN rfl) (fun hg => oa (.t rfl) (.tail _ (.head _)) ag28 (cTs_ldV (g := polT) (y := vY) (polT_eq vY).symm rfl)) rfl (ltN rfl) ?_
    refine TW.opg rfl rfl rfl (ltN rfl) (fun hg => oc fn29 (mulK_c vX vY (pg_var : Pg 2 1 vX) (pg_var : Pg 2 1 vY) ⟨⟨by decide, by decide, by decide⟩, by decide⟩) (.cons (.iff hg (.t rfl)) (.cons (.iff hg (.t rfl)) .nil))) rfl (ltN rfl) ?_
    refine TW.opg rfl rfl rfl (ltN rfl) (fun hg => ot_eqt (T' := tIs (.bool true)) (oc fn33 (divides_c vX (mulF 4 vX vY) (((pg_var : Pg 2 1 vX).mul (pg_var : Pg 2 1 vY) (by decide) (by decide) : Pg 4 2 _).mono (by decide) (by decide)) ((pg_var : Pg 2 1 vX).mono (by decide) (by decide)) (pg_small2 ((pg_var : Pg 2 1 vX).mono (by decide) (by decide) : Pg 2 2 vX)) rm_small (by decide)) (.cons (.iff hg (.t rfl)) (.cons (.iff hg (.t rfl)) .nil))) (by rw [fit_dv])) rfl (ltN rfl) ?_
    refine TW.o (ot_and2 (.t rfl) (.t rfl) .is) rfl (TW.M rfl rfl ?_)
    refine TW.opg rfl rfl rfl (ltN rfl) (fun hg => oa (.t rfl) (.tail _ (.tail _ (.head _))) ag28 (cTs_ldV (g := polT) (y := vX) (polT_eq vX).symm rfl)) rfl (ltN rfl) ?_
    refine TW.opg rfl rfl rfl (ltN rfl) (fun hg => oa (.t rfl) (.tail _ (.head _)) ag28 (cTs_ldV (g := polT) (y := vY) (polT_eq vY).symm rfl)) rfl (ltN rfl) ?_
    refine TW.opg rfl rfl rfl (ltN rfl) (fun hg => ot_eqt (T' := tIs (.bool false)) (oc fn33 (divides_c vX vY ((pg_var : Pg 2 1 vY).mono (by decide) (by decide)) ((pg_var : Pg 2 1 vX).mono (by decide) (by decide)) (pg_small2 ((pg_var : Pg 2 1 vX).mono (by decide) (by decide) : Pg 2 2 vX)) rm_small (by decide)) (.cons (.iff hg (.t rfl)) (.cons (.iff hg (.t rfl)) .nil))) (by rw [fit_no])) rfl (ltN rfl) ?_
    refine TW.opg rfl rfl rfl (ltN rfl) (fun hg => ot_not (.iff hg (.t rfl))) rfl (ltN rfl) ?_
    refine TW.o (ot_and2 (.t rfl) (.t rfl) .is) rfl ?_
    refine TW.o (ot_assign (.t rfl)) rfl ?_
    exact TW.nil
   refine JQ.then_normal (JC.ret ?_)
   exact JQ.ret1 rfl (.tmp (.eq (.t rfl) (by first | rfl | (congr 3; omega) | (congr 2; omega) | simp [*])))

theorem pseudoExact_c (p q o : List Tm) (hdp : ∀ t ∈ p, Digs t.coef.abs) (hdq : ∀ t ∈ q, Digs t.coef.abs) (hdo : ∀ t ∈ o, Digs t.coef.abs) : Ctr Try.prog 5 [tSl encTm p, tSl encTm q, tSl encTm o] (tIs (.bool true)) := by
 refine Ctr.of Try.func5 rfl Try.ntmps5 (Nat.le_of_ble_eq_true rfl) fun w0 M0 => (JC.g ?_)
 refine J.a .is rfl (J.e (JC.seq (JC.g ?_)))
 refine J.o (oc fn25 (fit24_c  ) .nil) rfl ?_
 refine J.o (ot_not (.t rfl)) rfl (J.e ?_)
 refine JC.cond_false (.eq (.t rfl) (by rfl)) (JC.skip (JQ.then_normal (JC.seq (JC.g (J.M rfl rfl ?_)))))
 refine J.o (oc fn26 (few24_c p 6 3 (by omega)) (.cons (.t rfl) (.cons .is (.cons .is .nil)))) rfl ?_
 refine J.o (ot_not (.t rfl)) rfl (J.M rfl rfl ?_)
 refine J.opg rfl rfl rfl (ltN rfl) (fun hg => ot_move (.t rfl)) rfl (ltN rfl) ?_
 refine J.opg rfl rfl rfl (ltN rfl) (fun hg => (by have hg' := hg; (try simp only [bsx] at hg'); exact oc fn26 (few24_c q 6 3 (by omega)) (.cons (.iff hg (.t rfl)) (.cons .is (.cons .is .nil))))) rfl (ltN rfl) ?_
 refine J.opg rfl rfl rfl (ltN rfl) (fun hg => ot_not (.iff hg (.t rfl))) rfl (ltN rfl) ?_
 refine J.o (ot_or2 (.t rfl) .is (.t rfl)) rfl (J.M rfl rfl ?_)
 refine J.opg rfl rfl rfl (ltN rfl) (fun hg => ot_move (.t rfl)) rfl (ltN rfl) ?_
 refine J.opg rfl rfl rfl (ltN rfl) (fun hg => (by have hg' := hg; (try simp only [bsx] at hg'); exact oc fn26 (few24_c o 6 3 (by omega)) (.cons (.iff hg (.t rfl)) (.cons .is (.cons .is .nil))))) rfl (ltN rfl) ?_
 refine J.opg rfl rfl rfl (ltN rfl) (fun hg => ot_not (.iff hg (.t rfl))) rfl (ltN rfl) ?_
 refine J.o (ot_or2 (.t rfl) .is (.t rfl)) rfl (J.e ?_)
 refine JC.cond (.t rfl) (fun hc1 => ?_) (fun hc1 => ?_)
 ·try simp only [bsx] at hc1
  have hs28 := hc1
  refine (JC.g ?_)
  refine J.a .is rfl (J.e (JC.ret (JQ.then_ret ?_)))
  exact JQ.ret1 rfl (.tmp (.t rfl))
 ·try simp only [bsx] at hc1
  have hs28 := hc1
  obtain ⟨⟨w1, w2⟩, w3⟩ := hs28
  have hP := ofFew hdp w1 (by decide) (D := 4) (by decide) (by decide) (by decide)
  have hQ := ofFew hdq w2 (by decide) (D := 4) (by decide) (by decide) (by decide)
  have hO := ofFew hdo w3 (by decide) (D := 4) (by decide) (by decide) (by decide)
  have hFG : Pg 8 10 (mulF 4 (ofS (normS p)) (ofS (normS q))) := hP.pg.mul hQ.pg (by decide) (by decide)
  have hgm := (Rm.down (by decide) (by decide) (by decide) rm_small : Rm 4 4 4 5 5).gm
  have hY := exQ_pg hO.pg hQ.pg hQ.ng (by decide) (by decide)
  refine JC.skip (JQ.then_normal (JC.g (J.M rfl rfl ?_)))
  refine J.o (oc fn27 (ofG_c p hP.hl hdp hP.hz (by decide) hP.hm hP.hc (by decide)) (.cons (.t rfl) .nil)) rfl (J.M rfl rfl ?_)
  refine J.o (oc fn27 (ofG_c q hQ.hl hdq hQ.hz (by decide) hQ.hm hQ.hc (by decide)) (.cons (.t rfl) .nil)) rfl (J.M rfl rfl ?_)
  refine J.o (oc fn27 (ofG_c o hO.hl hdo hO.hz (by decide) hO.hm hO.hc (by decide)) (.cons (.t rfl) .nil)) rfl ?_
  refine J.alloc (R := cTs zP) zr28 (fun _ => ⟨rfl, rfl, rfl, rfl, slP_nil _ _, rfl, slP_nil _ _, rfl, trivial⟩) (ltN rfl) fun b7 => ?_
  refine J.alloc (R := cTs zP) zr28 (fun _ => ⟨rfl, rfl, rfl, rfl, slP_nil _ _, rfl, slP_nil _ _, rfl, trivial⟩) (ltN rfl) fun b8 => ?_
  refine J.alloc (R := cTs zP) zr28 (fun _ => ⟨rfl, rfl, rfl, rfl, slP_nil _ _, rfl, slP_nil _ _, rfl, trivial⟩) (ltN rfl) fun b9 => ?_
  refine J.store (.t rfl) (.eq (.t rfl) (tV_F (Ts := [tIs (.int .i64 ((ofS (normS p)).lv)), tIs (.bool (((ofS (normS p)).c).neg)), tSl encD (((ofS (normS p)).c).abs), tSl encP ((ofS (normS p)).cs)]) (polT_eq _))) (.there (.there .here)) sz28 (st_agg (Ts' := [tIs (.int .i64 ((ofS (normS p)).lv)), tIs (.bool (((ofS (normS p)).c).neg)), tSl encD (((ofS (normS p)).c).abs), tSl encP ((ofS (normS p)).cs)]) (o := 0) rfl) ?_
  refine J.store (.t rfl) (.eq (.t rfl) (tV_F (Ts := [tIs (.int .i64 ((ofS (normS q)).lv)), tIs (.bool (((ofS (normS q)).c).neg)), tSl encD (((ofS (normS q)).c).abs), tSl encP ((ofS (normS q)).cs)]) (polT_eq _))) (.there .here) sz28 (st_agg (Ts' := [tIs (.int .i64 ((ofS (normS q)).lv)), tIs (.bool (((ofS (normS q)).c).neg)), tSl encD (((ofS (normS q)).c).abs), tSl encP ((ofS (normS q)).cs)]) (o := 0) rfl) ?_
  refine J.store (.t rfl) (.eq (.t rfl) (tV_F (Ts := [tIs (.int .i64 ((ofS (normS o)).lv)), tIs (.bool (((ofS (normS o)).c).neg)), tSl encD (((ofS (normS o)).c).abs), tSl encP ((ofS (normS o)).cs)]) (polT_eq _))) .here sz28 (st_agg (Ts' := [tIs (.int .i64 ((ofS (normS o)).lv)), tIs (.bool (((ofS (normS o)).c).neg)), tSl encD (((ofS (normS o)).c).abs), tSl encP ((ofS (normS o)).cs)]) (o := 0) rfl) (J.e (JC.seq ?_))
  refine JC.weak (Γ' := [(9, pOwn b9 0), (8, pOwn b8 0), (7, pOwn b7 0), (6, tIs (.bool false))]) (H' := [⟨b9, 28, cTs [tIs (.int .i64 ((ofS (normS o)).lv)), tIs (.bool (((ofS (normS o)).c).neg)), tSl encD (((ofS (normS o)).c).abs), tSl encP ((ofS (normS o)).cs)]⟩, ⟨b8, 28, cTs [tIs (.int .i64 ((ofS (normS q)).lv)), tIs (.bool (((ofS (normS q)).c).neg)), tSl encD (((ofS (normS q)).c).abs), tSl encP ((ofS (normS q)).cs)]⟩, ⟨b7, 28, cTs [tIs (.int .i64 ((ofS (normS p)).lv)), tIs (.bool (((ofS (normS p)).c).neg)), tSl encD (((ofS (normS p)).c).abs), tSl encP ((ofS (normS p)).cs)]⟩]) (sub_trans (sub_heap (.k (.k (.k .nil)))) (sub_l ⟨.t rfl, .t rfl, .t rfl, .t rfl, trivial⟩)) ?_
  refine JC.drawP (Ts := [tV encP (ofS (normS p)), tV encP (ofS (normS q)), tV encP (mulF 4 (ofS (normS p)) (ofS (normS q))), tV encP (ofS (normS q)), tTup [tV encP (exQ (mulF 4 (ofS (normS p)) (ofS (normS q))) (ofS (normS q))), tIs (.int .i64 (exE (mulF 4 (ofS (normS p)) (ofS (normS q))) (ofS (normS q))))], tTup [tV encP (exQ (mulF 4 (ofS (normS p)) (ofS (normS q))) (ofS (normS q))), tIs (.int .i64 (exE (mulF 4 (ofS (normS p)) (ofS (normS q))) (ofS (normS q))))], tV encP (exQ (mulF 4 (ofS (normS p)) (ofS (normS q))) (ofS (normS q))), tIs (.int .i64 (exE (mulF 4 (ofS (normS p)) (ofS (normS q))) (ofS (normS q)))), tAny, tAny, tAny]) (un := (fun i => [8, 9].contains i)) mo (by kernel_rfl) ?_
  refine RP.step (al := (fun i => [0, 1, 2, 3, 4, 5, 6, 7].contains i)) (Γn := [(42, tIs (.int .i64 (exE (mulF 4 (ofS (normS p)) (ofS (normS q))) (ofS (normS q))))), (41, tV encP (exQ (mulF 4 (ofS (normS p)) (ofS (normS q))) (ofS (normS q)))), (35, tTup [tV encP (exQ (mulF 4 (ofS (normS p)) (ofS (normS q))) (ofS (normS q))), tIs (.int .i64 (exE (mulF 4 (ofS (normS p)) (ofS (normS q))) (ofS (normS q))))]), (40, tTup [tV encP (exQ (mulF 4 (ofS (normS p)) (ofS (normS q))) (ofS (normS q))), tIs (.int .i64 (exE (mulF 4 (ofS (normS p)) (ofS (normS q))) (ofS (normS q))))]), (39, tV encP (ofS (normS q))), (38, tV encP (mulF 4 (ofS (normS p)) (ofS (normS q)))), (37, tV encP (ofS (normS q))), (36, tV encP (ofS (normS p))), (9, pOwn b9 0), (8, pOwn b8 0), (7, pOwn b7 0), (6, tIs (.bool false))]) (Γ' := ?pg1) 8 (by kernel_rfl) (by kernel_rfl) ?tp1 ?nx1
  case tp1 =>
   refine TP.op (oa (.t rfl) (.tail _ (.tail _ (.head _))) ag28 (cTs_ldV (g := polT) (y := (ofS (normS p))) (polT_eq (ofS (normS p))).symm rfl)) rfl (ltN rfl) rfl rfl ?_
   refine TP.op (oa (.t rfl) (.tail _ (.head _)) ag28 (cTs_ldV (g := polT) (y := (ofS (normS q))) (polT_eq (ofS (normS q))).symm rfl)) rfl (ltN rfl) rfl rfl ?_
   refine TP.op (oc fn29 (mulK_c (ofS (normS p)) (ofS (normS q)) hP.pg hQ.pg ⟨⟨by decide, by decide, by decide⟩, by decide⟩) (.cons (.t rfl) (.cons (.t rfl) .nil))) rfl (ltN rfl) rfl rfl ?_
   refine TP.op (oa (.t rfl) (.tail _ (.head _)) ag28 (cTs_ldV (g := polT) (y := (ofS (normS q))) (polT_eq (ofS (normS q))).symm rfl)) rfl (ltN rfl) rfl rfl ?_
   refine TP.op (oc fn28 (pExact_c (mulF 4 (ofS (normS p)) (ofS (normS q))) (ofS (normS q)) hFG hQ.pg hQ.ng rm_small) (.cons (.t rfl) (.cons (.t rfl) .nil))) rfl (ltN rfl) rfl rfl ?_
   refine TP.op (ot_move (.t rfl)) rfl (ltN rfl) rfl rfl ?_
   refine TP.op (ot_extract (.t rfl) rfl) rfl (ltN rfl) rfl rfl ?_
   refine TP.op (ot_extract (.t rfl) rfl) rfl (ltN rfl) rfl rfl ?_
   refine TP.at rfl rfl ?_
   refine TP.skip0 rfl rfl rfl ?_
   refine TP.skip rfl rfl rfl ?_
   exact TP.nil
  case nx1 =>
  refine OneStep.mk (ι := Nat) (Hb := fun κ => [⟨κ, 28, cTs zP⟩, ⟨b9, 28, cTs [tIs (.int .i64 ((ofS (normS o)).lv)), tIs (.bool (((ofS (normS o)).c).neg)), tSl encD (((ofS (normS o)).c).abs), tSl encP ((ofS (normS o)).cs)]⟩, ⟨b8, 28, cTs [tIs (.int .i64 ((ofS (normS q)).lv)), tIs (.bool (((ofS (normS q)).c).neg)), tSl encD (((ofS (normS q)).c).abs), tSl encP ((ofS (normS q)).cs)]⟩, ⟨b7, 28, cTs [tIs (.int .i64 ((ofS (normS p)).lv)), tIs (.bool (((ofS (normS p)).c).neg)), tSl encD (((ofS (normS p)).c).abs), tSl encP ((ofS (normS p)).cs)]⟩]) (Tb := fun κ => [tV encP (ofS (normS p)), tV encP (ofS (normS q)), tV encP (mulF 4 (ofS (normS p)) (ofS (normS q))), tV encP (ofS (normS q)), tTup [tV encP (exQ (mulF 4 (ofS (normS p)) (ofS (normS q))) (ofS (normS q))), tIs (.int .i64 (exE (mulF 4 (ofS (normS p)) (ofS (normS q))) (ofS (normS q))))], tTup [tV encP (exQ (mulF 4 (ofS (normS p)) (ofS (normS q))) (ofS (normS q))), tIs (.int .i64 (exE (mulF 4 (ofS (normS p)) (ofS (normS q))) (ofS (normS q))))], tV encP (exQ (mulF 4 (ofS (normS p)) (ofS (normS q))) (ofS (normS q))), tIs (.int .i64 (exE (mulF 4 (ofS (normS p)) (ofS (normS q))) (ofS (normS q)))), pOwn κ 0, tAny, tAny]) (fun i => [8].contains i) (fun i => [9].contains i) rfl rfl (fun _ => ⟨.inr rfl, ⟨.inr rfl, ⟨.inr rfl, ⟨.inr rfl, ⟨.inr rfl, ⟨.inr rfl, ⟨.inr rfl, ⟨.inr rfl, ⟨.inl rfl, ⟨.inl rfl, ⟨.inl rfl, trivial⟩⟩⟩⟩⟩⟩⟩⟩⟩⟩⟩) (by kernel_rfl) ?op1_8 ?mx1_8
  case op1_8 =>
   intro Γx hx
   refine J.alloc (R := cTs zP) zr28 (fun _ => ⟨rfl, rfl, rfl, rfl, slP_nil _ _, rfl, slP_nil _ _, rfl, trivial⟩) (ltN rfl) fun b10 => ?_
   exact J.midP (Hb := fun κ => [⟨κ, 28, cTs zP⟩, ⟨b9, 28, cTs [tIs (.int .i64 ((ofS (normS o)).lv)), tIs (.bool (((ofS (normS o)).c).neg)), tSl encD (((ofS (normS o)).c).abs), tSl encP ((ofS (normS o)).cs)]⟩, ⟨b8, 28, cTs [tIs (.int .i64 ((ofS (normS q)).lv)), tIs (.bool (((ofS (normS q)).c).neg)), tSl encD (((ofS (normS q)).c).abs), tSl encP ((ofS (normS q)).cs)]⟩, ⟨b7, 28, cTs [tIs (.int .i64 ((ofS (normS p)).lv)), tIs (.bool (((ofS (normS p)).c).neg)), tSl encD (((ofS (normS p)).c).abs), tSl encP ((ofS (normS p)).cs)]⟩]) (Tb := fun κ => [tV encP (ofS (normS p)), tV encP (ofS (normS q)), tV encP (mulF 4 (ofS (normS p)) (ofS (normS q))), tV encP (ofS (normS q)), tTup [tV encP (exQ (mulF 4 (ofS (normS p)) (ofS (normS q))) (ofS (normS q))), tIs (.int .i64 (exE (mulF 4 (ofS (normS p)) (ofS (normS q))) (ofS (normS q))))], tTup [tV encP (exQ (mulF 4 (ofS (normS p)) (ofS (normS q))) (ofS (normS q))), tIs (.int .i64 (exE (mulF 4 (ofS (normS p)) (ofS (normS q))) (ofS (normS q))))], tV encP (exQ (mulF 4 (ofS (normS p)) (ofS (normS q))) (ofS (normS q))), tIs (.int .i64 (exE (mulF 4 (ofS (normS p)) (ofS (normS q))) (ofS (normS q)))), pOwn κ 0, tAny, tAny]) (n := 8) b10 rfl
  case mx1_8 =>
   intro b10
   refine RP.step (al := (fun i => [0, 1, 2, 3, 4, 5, 6, 7].contains i)) (Γn := [(10, pOwn b10 0), (42, tIs (.int .i64 (exE (mulF 4 (ofS (normS p)) (ofS (normS q))) (ofS (normS q))))), (41, tV encP (exQ (mulF 4 (ofS (normS p)) (ofS (normS q))) (ofS (normS q)))), (35, tTup [tV encP (exQ (mulF 4 (ofS (normS p)) (ofS (normS q))) (ofS (normS q))), tIs (.int .i64 (exE (mulF 4 (ofS (normS p)) (ofS (normS q))) (ofS (normS q))))]), (40, tTup [tV encP (exQ (mulF 4 (ofS (normS p)) (ofS (normS q))) (ofS (normS q))), tIs (.int .i64 (exE (mulF 4 (ofS (normS p)) (ofS (normS q))) (ofS (normS q))))]), (39, tV encP (ofS (normS q))), (38, tV encP (mulF 4 (ofS (normS p)) (ofS (normS q)))), (37, tV encP (ofS (normS q))), (36, tV encP (ofS (normS p))), (9, pOwn b9 0), (8, pOwn b8 0), (7, pOwn b7 0), (6, tIs (.bool false))]) (Γ' := ?pg2) 9 (by kernel_rfl) (by kernel_rfl) ?tp2 ?nx2
   case tp2 =>
    refine TP.op (oa (.t rfl) (.tail _ (.tail _ (.tail _ (.head _)))) ag28 (cTs_ldV (g := polT) (y := (ofS (normS p))) (polT_eq (ofS (normS p))).symm rfl)) rfl (ltN rfl) rfl rfl ?_
    refine TP.op (oa (.t rfl) (.tail _ (.tail _ (.head _))) ag28 (cTs_ldV (g := polT) (y := (ofS (normS q))) (polT_eq (ofS (normS q))).symm rfl)) rfl (ltN rfl) rfl rfl ?_
    refine TP.op (oc fn29 (mulK_c (ofS (normS p)) (ofS (normS q)) hP.pg hQ.pg ⟨⟨by decide, by decide, by decide⟩, by decide⟩) (.cons (.t rfl) (.cons (.t rfl) .nil))) rfl (ltN rfl) rfl rfl ?_
    refine TP.op (oa (.t rfl) (.tail _ (.tail _ (.head _))) ag28 (cTs_ldV (g := polT) (y := (ofS (normS q))) (polT_eq (ofS (normS q))).symm rfl)) rfl (ltN rfl) rfl rfl ?_
    refine TP.op (oc fn28 (pExact_c (mulF 4 (ofS (normS p)) (ofS (normS q))) (ofS (normS q)) hFG hQ.pg hQ.ng rm_small) (.cons (.t rfl) (.cons (.t rfl) .nil))) rfl (ltN rfl) rfl rfl ?_
    refine TP.op (ot_move (.t rfl)) rfl (ltN rfl) rfl rfl ?_
    refine TP.op (ot_extract (.t rfl) rfl) rfl (ltN rfl) rfl rfl ?_
    refine TP.op (ot_extract (.t rfl) rfl) rfl (ltN rfl) rfl rfl ?_
    refine TP.skip rfl rfl rfl ?_
    refine TP.at0 rfl rfl ?_
    refine TP.skip rfl rfl rfl ?_
    exact TP.nil
   case nx2 =>
   refine OneStep.mk (ι := Unit) (Hb := fun κ => [⟨b10, 28, cTs [tIs (.int .i64 ((exQ (mulF 4 (ofS (normS p)) (ofS (normS q))) (ofS (normS q))).lv)), tIs (.bool (((exQ (mulF 4 (ofS (normS p)) (ofS (normS q))) (ofS (normS q))).c).neg)), tSl encD (((exQ (mulF 4 (ofS (normS p)) (ofS (normS q))) (ofS (normS q))).c).abs), tSl encP ((exQ (mulF 4 (ofS (normS p)) (ofS (normS q))) (ofS (normS q))).cs)]⟩, ⟨b9, 28, cTs [tIs (.int .i64 ((ofS (normS o)).lv)), tIs (.bool (((ofS (normS o)).c).neg)), tSl encD (((ofS (normS o)).c).abs), tSl encP ((ofS (normS o)).cs)]⟩, ⟨b8, 28, cTs [tIs (.int .i64 ((ofS (normS q)).lv)), tIs (.bool (((ofS (normS q)).c).neg)), tSl encD (((ofS (normS q)).c).abs), tSl encP ((ofS (normS q)).cs)]⟩, ⟨b7, 28, cTs [tIs (.int .i64 ((ofS (normS p)).lv)), tIs (.bool (((ofS (normS p)).c).neg)), tSl encD (((ofS (normS p)).c).abs), tSl encP ((ofS (normS p)).cs)]⟩]) (Tb := fun κ => [tV encP (ofS (normS p)), tV encP (ofS (normS q)), tV encP (mulF 4 (ofS (normS p)) (ofS (normS q))), tV encP (ofS (normS q)), tTup [tV encP (exQ (mulF 4 (ofS (normS p)) (ofS (normS q))) (ofS (normS q))), tIs (.int .i64 (exE (mulF 4 (ofS (normS p)) (ofS (normS q))) (ofS (normS q))))], tTup [tV encP (exQ (mulF 4 (ofS (normS p)) (ofS (normS q))) (ofS (normS q))), tIs (.int .i64 (exE (mulF 4 (ofS (normS p)) (ofS (normS q))) (ofS (normS q))))], tV encP (exQ (mulF 4 (ofS (normS p)) (ofS (normS q))) (ofS (normS q))), tIs (.int .i64 (exE (mulF 4 (ofS (normS p)) (ofS (normS q))) (ofS (normS q)))), pOwn b10 0, tAny, tIs (.int .i64 (exE (mulF 4 (ofS (normS p)) (ofS (normS q))) (ofS (normS q))))]) (fun i => [0, 1, 2, 3, 4, 5, 6, 8, 9].contains i) (fun _ => false) rfl rfl (fun _ => ⟨.inr rfl, ⟨.inr rfl, ⟨.inr rfl, ⟨.inr rfl, ⟨.inr rfl, ⟨.inr rfl, ⟨.inr rfl, ⟨.inr rfl, ⟨.inr rfl, ⟨.inl rfl, ⟨.inl rfl, trivial⟩⟩⟩⟩⟩⟩⟩⟩⟩⟩⟩) (by kernel_rfl) ?op2_9 ?mx2_9
   case op2_9 =>
    intro Γx hx
    refine J.store (.move hx (.t rfl) (by kernel_rfl)) (.eq (.move hx (.t rfl) (by kernel_rfl)) (tV_F (Ts := [tIs (.int .i64 ((exQ (mulF 4 (ofS (normS p)) (ofS (normS q))) (ofS (normS q))).lv)), tIs (.bool (((exQ (mulF 4 (ofS (normS p)) (ofS (normS q))) (ofS (normS q))).c).neg)), tSl encD (((exQ (mulF 4 (ofS (normS p)) (ofS (normS q))) (ofS (normS q))).c).abs), tSl encP ((exQ (mulF 4 (ofS (normS p)) (ofS (normS q))) (ofS (normS q))).cs)]) (polT_eq _))) .here sz28 (st_agg (Ts' := [tIs (.int .i64 ((exQ (mulF 4 (ofS (normS p)) (ofS (normS q))) (ofS (normS q))).lv)), tIs (.bool (((exQ (mulF 4 (ofS (normS p)) (ofS (normS q))) (ofS (normS q))).c).neg)), tSl encD (((exQ (mulF 4 (ofS (normS p)) (ofS (normS q))) (ofS (normS q))).c).abs), tSl encP ((exQ (mulF 4 (ofS (normS p)) (ofS (normS q))) (ofS (normS q))).cs)]) (o := 0) rfl) ?_
    exact J.midP (Hb := fun κ => [⟨b10, 28, cTs [tIs (.int .i64 ((exQ (mulF 4 (ofS (normS p)) (ofS (normS q))) (ofS (normS q))).lv)), tIs (.bool (((exQ (mulF 4 (ofS (normS p)) (ofS (normS q))) (ofS (normS q))).c).neg)), tSl encD (((exQ (mulF 4 (ofS (normS p)) (ofS (normS q))) (ofS (normS q))).c).abs), tSl encP ((exQ (mulF 4 (ofS (normS p)) (ofS (normS q))) (ofS (normS q))).cs)]⟩, ⟨b9, 28, cTs [tIs (.int .i64 ((ofS (normS o)).lv)), tIs (.bool (((ofS (normS o)).c).neg)), tSl encD (((ofS (normS o)).c).abs), tSl encP ((ofS (normS o)).cs)]⟩, ⟨b8, 28, cTs [tIs (.int .i64 ((ofS (normS q)).lv)), tIs (.bool (((ofS (normS q)).c).neg)), tSl encD (((ofS (normS q)).c).abs), tSl encP ((ofS (normS q)).cs)]⟩, ⟨b7, 28, cTs [tIs (.int .i64 ((ofS (normS p)).lv)), tIs (.bool (((ofS (normS p)).c).neg)), tSl encD (((ofS (normS p)).c).abs), tSl encP ((ofS (normS p)).cs)]⟩]) (Tb := fun κ => [tV encP (ofS (normS p)), tV encP (ofS (normS q)), tV encP (mulF 4 (ofS (normS p)) (ofS (normS q))), tV encP (ofS (normS q)), tTup [tV encP (exQ (mulF 4 (ofS (normS p)) (ofS (normS q))) (ofS (normS q))), tIs (.int .i64 (exE (mulF 4 (ofS (normS p)) (ofS (normS q))) (ofS (normS q))))], tTup [tV encP (exQ (mulF 4 (ofS (normS p)) (ofS (normS q))) (ofS (normS q))), tIs (.int .i64 (exE (mulF 4 (ofS (normS p)) (ofS (normS q))) (ofS (normS q))))], tV encP (exQ (mulF 4 (ofS (normS p)) (ofS (normS q))) (ofS (normS q))), tIs (.int .i64 (exE (mulF 4 (ofS (normS p)) (ofS (normS q))) (ofS (normS q)))), pOwn b10 0, tAny, tIs (.int .i64 (exE (mulF 4 (ofS (normS p)) (ofS (normS q))) (ofS (normS q))))]) (n := 9) () rfl
   case mx2_9 =>
    intro _
    refine RP.last (al := (fun i => [7, 10].contains i)) (Γn := []) (Γ' := [(11, tIs (.int .i64 (exE (mulF 4 (ofS (normS p)) (ofS (normS q))) (ofS (normS q))))), (10, pOwn b10 0), (42, tIs (.int .i64 (exE (mulF 4 (ofS (normS p)) (ofS (normS q))) (ofS (normS q))))), (41, tV encP (exQ (mulF 4 (ofS (normS p)) (ofS (normS q))) (ofS (normS q)))), (35, tTup [tV encP (exQ (mulF 4 (ofS (normS p)) (ofS (normS q))) (ofS (normS q))), tIs (.int .i64 (exE (mulF 4 (ofS (normS p)) (ofS (normS q))) (ofS (normS q))))]), (40, tTup [tV encP (exQ (mulF 4 (ofS (normS p)) (ofS (normS q))) (ofS (normS q))), tIs (.int .i64 (exE (mulF 4 (ofS (normS p)) (ofS (normS q))) (ofS (normS q))))]), (39, tV encP (ofS (normS q))), (38, tV encP (mulF 4 (ofS (normS p)) (ofS (normS q)))), (37, tV encP (ofS (normS q))), (36, tV encP (ofS (normS p))), (9, pOwn b9 0), (8, pOwn b8 0), (7, pOwn b7 0), (6, tIs (.bool false))]) (by kernel_rfl) (by kernel_rfl) ?tp3 ?_
    case tp3 =>
     refine TP.skip rfl rfl rfl ?_
     refine TP.skip rfl rfl rfl ?_
     refine TP.skip rfl rfl rfl ?_
     refine TP.skip rfl rfl rfl ?_
     refine TP.skip rfl rfl rfl ?_
     refine TP.skip rfl rfl rfl ?_
     refine TP.skip rfl rfl rfl ?_
     refine TP.op (ot_extract (.t rfl) rfl) rfl (ltN rfl) rfl rfl ?_
     refine TP.skip rfl rfl rfl ?_
     refine TP.skip0 rfl rfl rfl ?_
     refine TP.op (ot_assign (.t rfl)) rfl (ltN rfl) rfl rfl ?_
     exact TP.nil
    refine JQ.then_normal (JC.g ?_)
    refine J.o (oa (.t rfl) (.tail _ (.head _)) ag28 (cTs_ldV (g := polT) (y := (ofS (normS o))) (polT_eq (ofS (normS o))).symm rfl)) rfl ?_
    refine J.o (oa (.t rfl) (.tail _ (.tail _ (.head _))) ag28 (cTs_ldV (g := polT) (y := (ofS (normS q))) (polT_eq (ofS (normS q))).symm rfl)) rfl ?_
    refine J.o (oc fn28 (pExact_c (ofS (normS o)) (ofS (normS q)) hO.pg hQ.pg hQ.ng (Rm.down (by decide) (by decide) (by decide) rm_small : Rm 4 4 4 5 5)) (.cons (.t rfl) (.cons (.t rfl) .nil))) rfl (J.M rfl rfl ?_)
    refine J.o (ot_extract (.t rfl) rfl) rfl ?_
    refine J.o (ot_extract (.t rfl) rfl) rfl ?_
    refine J.alloc (R := cTs zP) zr28 (fun _ => ⟨rfl, rfl, rfl, rfl, slP_nil _ _, rfl, slP_nil _ _, rfl, trivial⟩) (ltN rfl) fun b12 => ?_
    refine J.store (.t rfl) (.eq (.t rfl) (tV_F (Ts := [tIs (.int .i64 ((exQ (ofS (normS o)) (ofS (normS q))).lv)), tIs (.bool (((exQ (ofS (normS o)) (ofS (normS q))).c).neg)), tSl encD (((exQ (ofS (normS o)) (ofS (normS q))).c).abs), tSl encP ((exQ (ofS (normS o)) (ofS (normS q))).cs)]) (polT_eq _))) .here sz28 (st_agg (Ts' := [tIs (.int .i64 ((exQ (ofS (normS o)) (ofS (normS q))).lv)), tIs (.bool (((exQ (ofS (normS o)) (ofS (normS q))).c).neg)), tSl encD (((exQ (ofS (normS o)) (ofS (normS q))).c).abs), tSl encP ((exQ (ofS (normS o)) (ofS (normS q))).cs)]) (o := 0) rfl) (J.A rfl rfl (J.e (JC.seq (JC.g ?_))))
    refine J.o (oa (.t rfl) (.tail _ (.tail _ (.tail _ (.head _)))) ag28 (cTs_ldV (g := polT) (y := (ofS (normS q))) (polT_eq (ofS (normS q))).symm rfl)) rfl ?_
    refine J.o (oc fn30 (isZeroK_c (ofS (normS q)) hQ.pg ⟨by decide, by decide⟩) (.cons (.t rfl) .nil)) rfl (J.e ?_)
    refine JC.cond (.t rfl) (fun hc2 => ?_) (fun hc2 => ?_)
    ·try simp only [bsx] at hc2
     have hs50 := hc2
     have hz : zeroP (ofS (normS q)) = true := by simpa using hs50
     obtain ⟨x1, x2⟩ := ex_by0 (f := mulF 4 (ofS (normS p)) (ofS (normS q))) hz
     obtain ⟨y1, y2⟩ := ex_by0 (f := (ofS (normS o))) hz
     refine (JC.g (J.M rfl rfl ?_))
     refine J.o (ot_eql (.t rfl) .is) rfl (J.M rfl rfl ?_)
     refine J.opg rfl rfl rfl (ltN rfl) (fun hg => ot_move (.t rfl)) rfl (ltN rfl) ?_
     refine J.opg rfl rfl rfl (ltN rfl) (fun hg => ot_eql (.iff hg (.t rfl)) .is) rfl (ltN rfl) ?_
     refine J.o (ot_and2 (.t rfl) (.t rfl) .is) rfl (J.M rfl rfl ?_)
     refine J.opg rfl rfl rfl (ltN rfl) (fun hg => oa (.t rfl) (.tail _ (.head _)) ag28 (cTs_ldV (g := polT) (y := (exQ (mulF 4 (ofS (normS p)) (ofS (normS q))) (ofS (normS q)))) (polT_eq (exQ (mulF 4 (ofS (normS p)) (ofS (normS q))) (ofS (normS q)))).symm rfl)) rfl (ltN rfl) ?_
     refine J.opg rfl rfl rfl (ltN rfl) (fun hg => oc fn30 (isZeroK_c (exQ (mulF 4 (ofS (normS p)) (ofS (normS q))) (ofS (normS q))) (by rw [x1]; exact (pg_p0 : Pg 4 5 p0)) ⟨by decide, by decide⟩) (.cons (.iff hg (.t rfl)) .nil)) rfl (ltN rfl) ?_
     refine J.o (ot_and2 (.t rfl) (.t rfl) .is) rfl (J.M rfl rfl ?_)
     refine J.opg rfl rfl rfl (ltN rfl) (fun hg => oa (.t rfl) (.head _) ag28 (cTs_ldV (g := polT) (y := (exQ (ofS (normS o)) (ofS (normS q)))) (polT_eq (exQ (ofS (normS o)) (ofS (normS q)))).symm rfl)) rfl (ltN rfl) ?_
     refine J.opg rfl rfl rfl (ltN rfl) (fun hg => oc fn30 (isZeroK_c (exQ (ofS (normS o)) (ofS (normS q))) (by rw [y1]; exact (pg_p0 : Pg 4 5 p0)) ⟨by decide, by decide⟩) (.cons (.iff hg (.t rfl)) .nil)) rfl (ltN rfl) ?_
     refine J.o (ot_and2 (.t rfl) (.t rfl) .is) rfl (J.A rfl rfl (J.e (JC.ret (JQ.then_ret ?_))))
     exact JQ.ret1 rfl (.tmp (.eq (.t rfl) (by rw [x1, x2, y1, y2, zeroP_p0]; rfl)))
    ·try simp only [bsx] at hc2
     have hs50 := hc2
     have hz : zeroP (ofS (normS q)) = false := by simpa using hs50
     obtain ⟨x1, x2⟩ := ex_some hz (exact_mul hP.pg.can hQ.pg.can hz)
     refine JC.skip (JQ.then_normal (JC.seq (JC.g (J.M rfl rfl ?_))))
     refine J.o (ot_neq (.t rfl) .is) rfl (J.M rfl rfl ?_)
     refine J.opg rfl rfl rfl (ltN rfl) (fun hg => oa (.t rfl) (.tail _ (.head _)) ag28 (cTs_ldV (g := polT) (y := (exQ (mulF 4 (ofS (normS p)) (ofS (normS q))) (ofS (normS q)))) (polT_eq (exQ (mulF 4 (ofS (normS p)) (ofS (normS q))) (ofS (normS q)))).symm rfl)) rfl (ltN rfl) ?_
     refine J.opg rfl rfl rfl (ltN rfl) (fun hg => oa (.t rfl) (.tail _ (.tail _ (.tail _ (.tail _ (.head _))))) ag28 (cTs_ldV (g := polT) (y := (ofS (normS p))) (polT_eq (ofS (normS p))).symm rfl)) rfl (ltN rfl) ?_
     refine J.opg rfl rfl rfl (ltN rfl) (fun hg => oc fn31 (sameK_c (exQ (mulF 4 (ofS (normS p)) (ofS (normS q))) (ofS (normS q))) (ofS (normS p)) (by rw [x1]; exact hP.pg) ⟨by decide, by decide⟩ x1) (.cons (.iff hg (.t rfl)) (.cons (.iff hg (.t rfl)) .nil))) rfl (ltN rfl) ?_
     refine J.opg rfl rfl rfl (ltN rfl) (fun hg => ot_not (.iff hg (.t rfl))) rfl (ltN rfl) ?_
     refine J.o (ot_or2 (.t rfl) .is (.t rfl)) rfl (J.M rfl rfl ?_)
     refine J.opg rfl rfl rfl (ltN rfl) (fun hg => oa (.t rfl) (.tail _ (.head _)) ag28 (cTs_ldV (g := polT) (y := (exQ (mulF 4 (ofS (normS p)) (ofS (normS q))) (ofS (normS q)))) (polT_eq (exQ (mulF 4 (ofS (normS p)) (ofS (normS q))) (ofS (normS q)))).symm rfl)) rfl (ltN rfl) ?_
     refine J.opg rfl rfl rfl (ltN rfl) (fun hg => oc fn32 (canon24_c (exQ (mulF 4 (ofS (normS p)) (ofS (normS q))) (ofS (normS q))) (by rw [x1]; exact hP.pg) ⟨by decide, by decide⟩) (.cons (.iff hg (.t rfl)) .nil)) rfl (ltN rfl) ?_
     refine J.opg rfl rfl rfl (ltN rfl) (fun hg => ot_not (.iff hg (.t rfl))) rfl (ltN rfl) ?_
     refine J.o (ot_or2 (.t rfl) .is (.t rfl)) rfl (J.M rfl rfl ?_)
     refine J.opg rfl rfl rfl (ltN rfl) (fun hg => oa (.t rfl) (.head _) ag28 (cTs_ldV (g := polT) (y := (exQ (ofS (normS o)) (ofS (normS q)))) (polT_eq (exQ (ofS (normS o)) (ofS (normS q)))).symm rfl)) rfl (ltN rfl) ?_
     refine J.opg rfl rfl rfl (ltN rfl) (fun hg => (by have hg' := hg; (try simp only [bsx] at hg'); exact oc fn32 (canon24_c (exQ (ofS (normS o)) (ofS (normS q))) hY ⟨by decide, by omega⟩) (.cons (.iff hg (.t rfl)) .nil))) rfl (ltN rfl) ?_
     refine J.opg rfl rfl rfl (ltN rfl) (fun hg => ot_not (.iff hg (.t rfl))) rfl (ltN rfl) ?_
     refine J.o (ot_or2 (.t rfl) .is (.t rfl)) rfl (J.e ?_)
     refine JC.cond_false (.eq (.t rfl) (by rw [x2]; rfl)) (JC.skip (JQ.then_normal (JC.seq (JC.g (J.M rfl rfl ?_)))))
     refine J.o (ot_eql (.t rfl) .is) rfl (J.e ?_)
     refine JC.cond (.t rfl) (fun hc4 => ?_) (fun hc4 => ?_)
     ·try simp only [bsx] at hc4
      have hs84 := hc4
      have hsome := exE_zero hz (by simpa using hs84)
      have hq := quF hO.pg hQ.pg hQ.ng (by decide) (by decide) hz hsome
      refine JC.seq ?_
      refine JC.draw (Γ' := ?g2) mo (by kernel_rfl) ?tw2 ?k2
      case tw2 =>
       refine TW.o (oa (.t rfl) (.head _) ag28 (cTs_ldV (g := polT) (y := (exQ (ofS (normS o)) (ofS (normS q)))) (polT_eq (exQ (ofS (normS o)) (ofS (normS q)))).symm rfl)) rfl ?_
       refine TW.o (oa (.t rfl) (.tail _ (.tail _ (.tail _ (.head _)))) ag28 (cTs_ldV (g := polT) (y := (ofS (normS q))) (polT_eq (ofS (normS q))).symm rfl)) rfl ?_
       refine TW.o (oc fn29 (mulK_c (exQ (ofS (normS o)) (ofS (normS q))) (ofS (normS q)) hq.pg hQ.pg ⟨⟨by decide, by decide, by decide⟩, by omega⟩) (.cons (.t rfl) (.cons (.t rfl) .nil))) rfl ?_
       refine TW.o (oa (.t rfl) (.tail _ (.tail _ (.head _))) ag28 (cTs_ldV (g := polT) (y := (ofS (normS o))) (polT_eq (ofS (normS o))).symm rfl)) rfl ?_
       refine TW.o (oc fn31 (sameK_c (mulF 4 (exQ (ofS (normS o)) (ofS (normS q))) (ofS (normS q))) (ofS (normS o)) (by rw [hq.eq]; exact hO.pg) ⟨by decide, by decide⟩ hq.eq) (.cons (.t rfl) (.cons (.t rfl) .nil))) rfl (TW.M rfl rfl ?_)
       refine TW.opg rfl rfl rfl (ltN rfl) (fun hg => oa (.t rfl) (.tail _ (.tail _ (.tail _ (.head _)))) ag28 (cTs_ldV (g := polT) (y := (ofS (normS q))) (polT_eq (ofS (normS q))).symm rfl)) rfl (ltN rfl) ?_
       refine TW.opg rfl rfl rfl (ltN rfl) (fun hg => oa (.t rfl) (.tail _ (.tail _ (.head _))) ag28 (cTs_ldV (g := polT) (y := (ofS (normS o))) (polT_eq (ofS (normS o))).symm rfl)) rfl (ltN rfl) ?_
       refine TW.opg rfl rfl rfl (ltN rfl) (fun hg => ot_eqt (T' := tIs (.bool true)) (oc fn33 (divides_c (ofS (normS q)) (ofS (normS o)) hO.pg hQ.pg hQ.ng (Rm.down (by decide) (by decide) (by decide) rm_small : Rm 4 4 4 5 5) (by decide)) (.cons (.iff hg (.t rfl)) (.cons (.iff hg (.t rfl)) .nil))) (by rw [dv_of hO.pg.can hQ.pg.can hq.pg.can hz hq.vl])) rfl (ltN rfl) ?_
       refine TW.o (ot_and2 (.t rfl) (.t rfl) .is) rfl ?_
       refine TW.o (ot_assign (.t rfl)) rfl ?_
       exact TW.nil
      refine JQ.then_normal (JC.ret (JQ.then_ret ?_))
      exact JQ.ret1 rfl (.tmp (.eq (.t rfl) (by first | rfl | (congr 3; omega) | (congr 2; omega) | simp [*])))
     ·try simp only [bsx] at hc4
      have hs84 := hc4
      obtain ⟨z1, z2, z3, _⟩ := exE_three hz (by simpa using hs84)
      refine JC.skip (JQ.then_normal (JC.g (J.M rfl rfl ?_)))
      refine J.o (ot_eql (.t rfl) .is) rfl (J.M rfl rfl ?_)
      refine J.opg rfl rfl rfl (ltN rfl) (fun hg => oa (.t rfl) (.head _) ag28 (cTs_ldV (g := polT) (y := (exQ (ofS (normS o)) (ofS (normS q)))) (polT_eq (exQ (ofS (normS o)) (ofS (normS q)))).symm rfl)) rfl (ltN rfl) ?_
      refine J.opg rfl rfl rfl (ltN rfl) (fun hg => oc fn30 (isZeroK_c (exQ (ofS (normS o)) (ofS (normS q))) (by rw [z2]; exact (pg_p0 : Pg 4 5 p0)) ⟨by decide, by decide⟩) (.cons (.iff hg (.t rfl)) .nil)) rfl (ltN rfl) ?_
      refine J.o (ot_and2 (.t rfl) (.t rfl) .is) rfl (J.M rfl rfl ?_)
      refine J.opg rfl rfl rfl (ltN rfl) (fun hg => oa (.t rfl) (.tail _ (.tail _ (.head _))) ag28 (cTs_ldV (g := polT) (y := (ofS (normS o))) (polT_eq (ofS (normS o))).symm rfl)) rfl (ltN rfl) ?_
      refine J.opg rfl rfl rfl (ltN rfl) (fun hg => oc fn30 (isZeroK_c (ofS (normS o)) hO.pg ⟨by decide, by decide⟩) (.cons (.iff hg (.t rfl)) .nil)) rfl (ltN rfl) ?_
      refine J.opg rfl rfl rfl (ltN rfl) (fun hg => ot_not (.iff hg (.t rfl))) rfl (ltN rfl) ?_
      refine J.o (ot_and2 (.t rfl) (.t rfl) .is) rfl (J.A rfl rfl (J.e (JC.ret ?_)))
      exact JQ.ret1 rfl (.tmp (.eq (.t rfl) (by rw [z1, z2, z3, zeroP_p0]; rfl)))

end Go.Proofs.Ytcbnpddeiaccbaa
