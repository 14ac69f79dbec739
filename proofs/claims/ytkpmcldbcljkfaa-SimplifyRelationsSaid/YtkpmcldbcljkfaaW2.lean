/- Walks through the program: each function called at values of the kinds that its contract names returns what the contract says. Conditions: those in the contracts. Written by the program wip/gen. -/
import Derived.Test.YtkpmcldbcljkfaaW1
set_option linter.unusedVariables false
set_option linter.unusedSimpArgs false
set_option maxRecDepth 100000
namespace Go.Proofs.Ytkpmcldbcljkfaa
open Go Go.RowKit Go.Rt
theorem scale_c {B : Nat} (p : Pol) (z : Z) (hf : Fit B p) (hz : Digs z.abs) (hb : B + z.abs.length ≤ 1099511627776) : Ctr Try.prog 36 [tV encP (p), tV encI (z)] (tV encP (scaleP p (zval z))) := by
  induction p using Pol.ind
  rename_i p ih
  have hc := hf.c
  have hcs := hf.cs
  refine Ctr.of Try.func36 rfl Try.ntmps36 (Nat.le_of_ble_eq_true rfl) fun w0 M0 => ?_
  refine JC.seq ?_
  refine JC.region ?_
  refine J.boxF (Ts := [tIs (.int .i64 (p.lv)), tIs (.bool (p.c.neg)), tSl encD (p.c.abs), tSl encP (p.cs)]) (.tmp rfl) (polT_eq _) (ltN rfl) fun b2 => ?_
  refine J.boxF (Ts := [tIs (.bool (z.neg)), tSl encD (z.abs)]) (.tmp rfl) rfl (ltN rfl) fun b3 => ?_
  refine J.alloc (R := cTs [tIs (.int .i64 (0)), tIs (.bool (false)), tSl encD ([]), tSl encP ([])]) zr28 (fun _ => ⟨rfl, rfl, rfl, rfl, slP_nil _ _, rfl, slP_nil _ _, rfl, trivial⟩) (ltN rfl) fun b4 => ?_
  refine J.nil ?_
  refine JQ.then_normal ?_
  refine JC.seq ?_
  refine JC.seq ?_
  refine JC.region ?_
  refine J.op (ot_fieldAddr_own (.tmp rfl) fd28_0) rfl (ltN rfl) rfl ?_
  refine J.op (ot_load_own (.tmp rfl) (.tail _ (.tail _ (.head _))) sc3 (cTs_ld rfl)) rfl (ltN rfl) rfl ?_
  refine J.op (ot_eql (.tmp rfl) .is) rfl (ltN rfl) rfl ?_
  refine J.nil ?_
  refine JQ.then_normal ?_
  -- cond0: tIs (.bool (decide (p.lv = 0)))
  refine JC.cond (.tmp rfl) (fun hc0 => ?_) (fun hc0 => ?_)
  · try simp only [Bool.and_eq_true, Bool.or_eq_true, Bool.not_eq_true', Bool.not_eq_false', Bool.and_eq_false_iff, Bool.or_eq_false_iff, Bool.not_true, Bool.not_false, decide_eq_true_eq, decide_eq_false_iff_not, beq_iff_eq, beq_eq_false_iff_ne, Bool.not_eq_eq_eq_not] at hc0
    have hs10 := hc0
    refine JC.seq ?_
    refine JC.region ?_
    refine J.op (ot_fieldAddr_own (.tmp rfl) fd28_1) rfl (ltN rfl) rfl ?_
    refine J.op (ot_load_own_agg (.tmp rfl) (.tail _ (.tail _ (.head _))) ag25 (cTs_ldV (g := zT) (y := p.c) rfl rfl)) rfl (ltN rfl) rfl ?_
    refine J.op (ot_load_own_agg (.tmp rfl) (.tail _ (.head _)) ag25 (cTs_ldV (g := zT) (y := z) rfl rfl)) rfl (ltN rfl) rfl ?_
    refine J.op (ot_call fn49 (intMul_c p.c z (by omega) (by omega)) (.cons (.tmp rfl) (.cons (.tmp rfl) .nil))) rfl (ltN rfl) rfl ?_
    refine J.op (ot_eqt (T' := tV encP (Pol.mk (0) (ofI (zval p.c * zval z)) ([]))) (ot_build (Ts := [tIs (.int .i64 (0)), tIs (.bool (false)), tSl encD ([]), tSl encP ([])]) pl28 (fun _ => ⟨rfl, rfl, rfl, rfl, slP_nil _ _, rfl, slP_nil _ _, rfl, trivial⟩) ((.agg (off := 1) rfl (.eq (.tmp rfl) (tV_F (Ts := [tIs (.bool ((ofI (zval p.c * zval z)).neg)), tSl encD ((ofI (zval p.c * zval z)).abs)]) rfl)) (Ts' := [tIs (.int .i64 (0)), tIs (.bool ((ofI (zval p.c * zval z)).neg)), tSl encD ((ofI (zval p.c * zval z)).abs), tSl encP ([])]) rfl rfl .nil)) rfl) (tV_F' (polT_eq _))) rfl (ltN rfl) rfl ?_
    refine J.store (.tmp rfl) (.eq (.tmp rfl) (tV_F (Ts := [tIs (.int .i64 (0)), tIs (.bool ((ofI (zval p.c * zval z)).neg)), tSl encD ((ofI (zval p.c * zval z)).abs), tSl encP ([])]) (polT_eq _))) .here sz28 (st_agg (Ts' := [tIs (.int .i64 (0)), tIs (.bool ((ofI (zval p.c * zval z)).neg)), tSl encD ((ofI (zval p.c * zval z)).abs), tSl encP ([])]) (o := 0) rfl) ?_
    refine J.nil ?_
    refine JQ.then_normal ?_
    refine JC.ret ?_
    refine JQ.then_ret ?_
    -- ret0
    exact JQ.ret1 rfl (.agg (.tmp rfl) (.head _) ag28 (agg_eq (T := tV encP (Pol.mk (0) (ofI (zval p.c * zval z)) ([]))) (T' := tV encP (scaleP p (zval z))) (by rw [scaleP_eq, if_pos hc0]; rfl) (cTs_ldV (g := polT) (y := (Pol.mk (0) (ofI (zval p.c * zval z)) ([]))) (polT_eq (Pol.mk (0) (ofI (zval p.c * zval z)) ([]))).symm rfl)))
  · try simp only [Bool.and_eq_true, Bool.or_eq_true, Bool.not_eq_true', Bool.not_eq_false', Bool.and_eq_false_iff, Bool.or_eq_false_iff, Bool.not_true, Bool.not_false, decide_eq_true_eq, decide_eq_false_iff_not, beq_iff_eq, beq_eq_false_iff_ne, Bool.not_eq_eq_eq_not] at hc0
    have hs10 := hc0
    refine JC.skip ?_
    refine JQ.then_normal ?_
    refine JC.seq ?_
    refine JC.region ?_
    refine J.op (ot_fieldAddr_own (.tmp rfl) fd28_2) rfl (ltN rfl) rfl ?_
    refine J.op (ot_load_own (.tmp rfl) (.tail _ (.tail _ (.head _))) sc26 (cTs_ld rfl)) rfl (ltN rfl) rfl ?_
    refine J.op (ot_len (.tmp rfl) sl26 rfl) rfl (ltN rfl) rfl ?_
    refine J.make (E := encP) (z := p0) (n := p.cs.length) sl26 (.eq (.tmp rfl) rfl) (.eq (.tmp rfl) rfl) zr28 (fun _ => encP_zero) (by decide) (by omega) (by omega) (ltN rfl) fun b19 => ?_
    refine J.op (ot_assign (.tmp rfl)) rfl (ltN rfl) rfl ?_
    refine J.nil ?_
    refine JQ.then_normal ?_
    refine JC.seq ?_
    refine JC.seq ?_
    refine JC.region ?_
    refine J.op (ot_fieldAddr_own (.tmp rfl) fd28_2) rfl (ltN rfl) rfl ?_
    refine J.op (ot_load_own (.tmp rfl) (.tail _ (.tail _ (.tail _ (.head _)))) sc26 (cTs_ld rfl)) rfl (ltN rfl) rfl ?_
    refine J.op (ot_len (.tmp rfl) sl26 rfl) rfl (ltN rfl) rfl ?_
    refine J.op (ot_move .is) rfl (ltN rfl) rfl ?_
    refine J.nil ?_
    refine JQ.then_normal ?_
    refine JC.block ?_
    refine JC.loop (ι := Nat) (fun k => [(2, pOwn b2 (0)), (3, pOwn b3 (0)), (4, pOwn b4 (0)), (5, sIs b19 0 (p.cs.length) (p.cs.length)), (21, tSl encP (p.cs)), (22, tIs (.int .i64 (((p.cs).length : Int)))), (23, tIs (.int .i64 (((k : Nat) : Int))))]) (fun k => [⟨b19, 28, cRow encP (fillP (scaleP · (zval z)) p.cs k) (p.cs.length)⟩, ⟨b4, 28, cTs [tIs (.int .i64 (0)), tIs (.bool (false)), tSl encD ([]), tSl encP ([])]⟩, ⟨b3, 25, cTs [tIs (.bool (z.neg)), tSl encD (z.abs)]⟩, ⟨b2, 28, cTs [tIs (.int .i64 (p.lv)), tIs (.bool (p.c.neg)), tSl encD (p.c.abs), tSl encP (p.cs)]⟩]) (fun k => k ≤ p.cs.length) (fun k => p.cs.length - k) 0 (by omega) ?lsub0 ?round0
    case lsub0 => exact sub_trans (sub_heap (.keep (cRow_eq fillP_zero) (.keep (fun _ _ h => h) (.keep (fun _ _ h => h) (.keep (fun _ _ h => h) .nil))))) (sub_cons (.tmp rfl) (sub_cons (.tmp rfl) (sub_cons (.tmp rfl) (sub_cons (.tmp rfl) (sub_cons (.tmp rfl) (sub_cons (.tmp rfl) (sub_cons (.eq (.tmp rfl) (by first | rfl | (congr 3; omega) | (congr 2; omega))) (sub_nil))))))))
    intro k hinv
    have hfl := fillP_len (f := (scaleP · (zval z))) hinv
    refine JC.seq ?_
    refine JC.region ?_
    refine J.op (ot_lss (.tmp rfl) (.tmp rfl)) rfl (ltN rfl) rfl ?_
    refine J.nil ?_
    refine JQ.then_normal ?_
    refine JC.seq ?_
    -- cond1: tIs (.bool (decide (((k : Nat) : Int) < ((p.cs).length : Int))))
    refine JC.cond (.tmp rfl) (fun hc1 => ?_) (fun hc1 => ?_)
    · try simp only [Bool.and_eq_true, Bool.or_eq_true, Bool.not_eq_true', Bool.not_eq_false', Bool.and_eq_false_iff, Bool.or_eq_false_iff, Bool.not_true, Bool.not_false, decide_eq_true_eq, decide_eq_false_iff_not, beq_iff_eq, beq_eq_false_iff_ne, Bool.not_eq_eq_eq_not] at hc1
      have hs24 := hc1
      refine JC.skip ?_
      refine JQ.then_normal ?_
      refine JC.seq ?_
      refine JC.block ?_
      refine JC.seq ?_
      refine JC.region ?_
      refine J.op (ot_move (.tmp rfl)) rfl (ltN rfl) rfl ?_
      refine J.op (ot_index (z := atP p.cs k) (.tmp rfl) (.tmp rfl) sl26 (by omega) (atP_at (by omega) (by omega))) rfl (ltN rfl) rfl ?_
      refine J.op (ot_load_agg (.tmp rfl) ag28 ldp_whole) rfl (ltN rfl) rfl ?_
      refine J.alloc (R := cTs [tIs (.int .i64 (0)), tIs (.bool (false)), tSl encD ([]), tSl encP ([])]) zr28 (fun _ => ⟨rfl, rfl, rfl, rfl, slP_nil _ _, rfl, slP_nil _ _, rfl, trivial⟩) (ltN rfl) fun b7 => ?_
      refine J.op (ot_assign (.tmp rfl)) rfl (ltN rfl) rfl ?_
      refine J.store (.tmp rfl) (.eq (.tmp rfl) (tV_F (Ts := [tIs (.int .i64 ((atP p.cs k).lv)), tIs (.bool (((atP p.cs k).c).neg)), tSl encD (((atP p.cs k).c).abs), tSl encP ((atP p.cs k).cs)]) (polT_eq _))) .here sz28 (st_agg (Ts' := [tIs (.int .i64 ((atP p.cs k).lv)), tIs (.bool (((atP p.cs k).c).neg)), tSl encD (((atP p.cs k).c).abs), tSl encP ((atP p.cs k).cs)]) (o := 0) rfl) ?_
      refine J.nil ?_
      refine JQ.then_normal ?_
      refine JC.region ?_
      refine J.op (ot_move (.tmp rfl)) rfl (ltN rfl) rfl ?_
      refine J.op (ot_move (.tmp rfl)) rfl (ltN rfl) rfl ?_
      refine J.op (ot_load_own_agg (.tmp rfl) (.head _) ag28 (cTs_ldV (g := polT) (y := (atP p.cs k)) (polT_eq (atP p.cs k)).symm rfl)) rfl (ltN rfl) rfl ?_
      refine J.op (ot_load_own_agg (.tmp rfl) (.tail _ (.tail _ (.tail _ (.head _)))) ag25 (cTs_ldV (g := zT) (y := z) rfl rfl)) rfl (ltN rfl) rfl ?_
      refine J.op (ot_call fn36 (ih (atP p.cs k) (atP_mem (by omega)) (hf.at (by omega))) (.cons (.tmp rfl) (.cons (.tmp rfl) .nil))) rfl (ltN rfl) rfl ?_
      refine J.op (ot_eqt (T' := pOwn b19 (0 + k * 4)) (ot_index_own (.tmp rfl) (.tmp rfl) sl26 (by omega) (by omega)) (own_off2 (by omega))) rfl (ltN rfl) rfl ?_
      refine J.store (.tmp rfl) (.tmp rfl) (.there .here) sz28 (row_set (by omega)) ?_
      refine J.nil ?_
      refine JQ.block_normal ?_
      refine JQ.then_normal ?_
      refine JC.region ?_
      refine J.op (ot_add (.tmp rfl) .is (w64 (by omega) (by omega))) rfl (ltN rfl) rfl ?_
      refine J.op (ot_move (.tmp rfl)) rfl (ltN rfl) rfl ?_
      refine J.nil ?_
      exact JQ.round (k + 1) (by omega) (by omega) (sub_trans (sub_heap (.drop (.keep (cRow_eq (fillP_set (by omega))) (.keep (fun _ _ h => h) (.keep (fun _ _ h => h) (.keep (fun _ _ h => h) .nil)))))) (sub_cons (.tmp rfl) (sub_cons (.tmp rfl) (sub_cons (.tmp rfl) (sub_cons (.tmp rfl) (sub_cons (.tmp rfl) (sub_cons (.tmp rfl) (sub_cons (.eq (.tmp rfl) (by first | rfl | (congr 3; omega) | (congr 2; omega))) (sub_nil)))))))))
    · try simp only [Bool.and_eq_true, Bool.or_eq_true, Bool.not_eq_true', Bool.not_eq_false', Bool.and_eq_false_iff, Bool.or_eq_false_iff, Bool.not_true, Bool.not_false, decide_eq_true_eq, decide_eq_false_iff_not, beq_iff_eq, beq_eq_false_iff_ne, Bool.not_eq_eq_eq_not] at hc1
      have hs24 := hc1
      refine JC.exit ?_
      refine JQ.then_exit ?_
      refine JQ.then_exit ?_
      refine JQ.block_exit ?_
      refine JQ.then_normal ?_
      refine JC.seq ?_
      refine JC.weak (sub_freeze0 (E := encP) (xs := fillP (scaleP · (zval z)) p.cs k) (n := p.cs.length) (c := p.cs.length) [5] ⟨rfl, trivial⟩ .here (by omega) (by omega)) ?_
      refine JC.region ?_
      refine J.op (ot_fieldAddr_own (.tmp rfl) fd28_0) rfl (ltN rfl) rfl ?_
      refine J.op (ot_load_own (.tmp rfl) (.tail _ (.tail _ (.head _))) sc3 (cTs_ld rfl)) rfl (ltN rfl) rfl ?_
      refine J.op (ot_move (.tmp rfl)) rfl (ltN rfl) rfl ?_
      refine J.op (ot_call fn55 (join_c p.lv (fillP (scaleP · (zval z)) p.cs k) (by omega) (by rw [fillP_full (by omega)]; intro q hq; obtain ⟨x, hx, rfl⟩ := List.mem_map.1 hq; exact Nat.le_trans (scaleP_fit (hf.sub x hx) (dig_zval hz)).c hb)) (.cons (.tmp rfl) (.cons (.tmp rfl) .nil))) rfl (ltN rfl) rfl ?_
      refine J.store (.tmp rfl) (.eq (.tmp rfl) (tV_F (Ts := [tIs (.int .i64 ((joinP p.lv (fillP (scaleP · (zval z)) p.cs k)).lv)), tIs (.bool (((joinP p.lv (fillP (scaleP · (zval z)) p.cs k)).c).neg)), tSl encD (((joinP p.lv (fillP (scaleP · (zval z)) p.cs k)).c).abs), tSl encP ((joinP p.lv (fillP (scaleP · (zval z)) p.cs k)).cs)]) (polT_eq _))) .here sz28 (st_agg (Ts' := [tIs (.int .i64 ((joinP p.lv (fillP (scaleP · (zval z)) p.cs k)).lv)), tIs (.bool (((joinP p.lv (fillP (scaleP · (zval z)) p.cs k)).c).neg)), tSl encD (((joinP p.lv (fillP (scaleP · (zval z)) p.cs k)).c).abs), tSl encP ((joinP p.lv (fillP (scaleP · (zval z)) p.cs k)).cs)]) (o := 0) rfl) ?_
      refine J.nil ?_
      refine JQ.then_normal ?_
      refine JC.ret ?_
      -- ret1
      exact JQ.ret1 rfl (.agg (.tmp rfl) (.head _) ag28 (agg_eq (T := tV encP (joinP p.lv (fillP (scaleP · (zval z)) p.cs k))) (T' := tV encP (scaleP p (zval z))) (by rw [scaleP_eq, if_neg hc0, fillP_full (by omega)]) (cTs_ldV (g := polT) (y := (joinP p.lv (fillP (scaleP · (zval z)) p.cs k))) (polT_eq (joinP p.lv (fillP (scaleP · (zval z)) p.cs k))).symm rfl)))

theorem copied_c {B : Nat} (p : Pol) (hf : Fit B p) (hb : B ≤ 1000000000000) : Ctr Try.prog 45 [tV encP (p)] (tV encP (scaleP p 1)) := by
  refine Ctr.of Try.func45 rfl Try.ntmps45 (Nat.le_of_ble_eq_true rfl) fun w0 M0 => ?_
  refine JC.seq ?_
  refine JC.region ?_
  refine J.boxF (Ts := [tIs (.int .i64 (p.lv)), tIs (.bool (p.c.neg)), tSl encD (p.c.abs), tSl encP (p.cs)]) (.tmp rfl) (polT_eq _) (ltN rfl) fun b1 => ?_
  refine J.alloc (R := cTs [tIs (.int .i64 (0)), tIs (.bool (false)), tSl encD ([]), tSl encP ([])]) zr28 (fun _ => ⟨rfl, rfl, rfl, rfl, slP_nil _ _, rfl, slP_nil _ _, rfl, trivial⟩) (ltN rfl) fun b2 => ?_
  refine J.nil ?_
  refine JQ.then_normal ?_
  refine JC.seq ?_
  refine JC.drawAt (Γ' := ?g1) 3 mo (by kernel_rfl) ?tw1 ?k1
  case tw1 =>
    refine TW.op (ot_load_own_agg (.tmp rfl) (.tail _ (.head _)) ag28 (cTs_ldV (g := polT) (y := p) (polT_eq p).symm rfl)) rfl (ltN rfl) rfl ?_
    refine TW.op (ot_call fn28 (intOf_c 1 (by omega)) (.cons .is .nil)) rfl (ltN rfl) rfl ?_
    refine TW.op (ot_eqt (T' := tV encP (scaleP p 1)) (ot_call fn36 (scale_c p (ofI 1) (by assumption) (digs_dig _) (by rw [ofI1_len]; omega)) (.cons (.tmp rfl) (.cons (.tmp rfl) .nil))) ((by rw [zval_ofI]))) rfl (ltN rfl) rfl ?_
    exact TW.nil
  refine J.store (.tmp rfl) (.eq (.tmp rfl) (tV_F (Ts := [tIs (.int .i64 ((scaleP p 1).lv)), tIs (.bool (((scaleP p 1).c).neg)), tSl encD (((scaleP p 1).c).abs), tSl encP ((scaleP p 1).cs)]) (polT_eq _))) .here sz28 (st_agg (Ts' := [tIs (.int .i64 ((scaleP p 1).lv)), tIs (.bool (((scaleP p 1).c).neg)), tSl encD (((scaleP p 1).c).abs), tSl encP ((scaleP p 1).cs)]) (o := 0) rfl) ?_
  refine J.nil ?_
  refine JQ.then_normal ?_
  refine JC.ret ?_
  -- ret0
  exact JQ.ret1 rfl (.agg (.tmp rfl) (.head _) ag28 (cTs_ldV (g := polT) (y := (scaleP p 1)) (polT_eq (scaleP p 1)).symm rfl))

theorem canonical_c {B : Nat} (p : Pol) (b : Int) (hf : Fit B p) (hb : B ≤ 1099511627776) : Ctr Try.prog 44 [tV encP (p), tIs (.int .i64 (b))] (tIs (.bool (canonB p b))) := by
  induction p using Pol.ind generalizing b
  rename_i p ih
  have hc := hf.c
  have hcs := hf.cs
  refine Ctr.of Try.func44 rfl Try.ntmps44 (Nat.le_of_ble_eq_true rfl) fun w0 M0 => ?_
  refine JC.seq ?_
  refine JC.region ?_
  refine J.boxF (Ts := [tIs (.int .i64 (p.lv)), tIs (.bool (p.c.neg)), tSl encD (p.c.abs), tSl encP (p.cs)]) (.tmp rfl) (polT_eq _) (ltN rfl) fun b2 => ?_
  refine J.op (ot_assign .is) rfl (ltN rfl) rfl ?_
  refine J.nil ?_
  refine JQ.then_normal ?_
  refine JC.seq ?_
  refine JC.seq ?_
  refine JC.region ?_
  refine J.op (ot_fieldAddr_own (.tmp rfl) fd28_0) rfl (ltN rfl) rfl ?_
  refine J.op (ot_load_own (.tmp rfl) (.head _) sc3 (cTs_ld rfl)) rfl (ltN rfl) rfl ?_
  refine J.op (ot_eql (.tmp rfl) .is) rfl (ltN rfl) rfl ?_
  refine J.nil ?_
  refine JQ.then_normal ?_
  -- cond0: tIs (.bool (decide (p.lv = 0)))
  refine JC.cond (.tmp rfl) (fun hc0 => ?_) (fun hc0 => ?_)
  · try simp only [Bool.and_eq_true, Bool.or_eq_true, Bool.not_eq_true', Bool.not_eq_false', Bool.and_eq_false_iff, Bool.or_eq_false_iff, Bool.not_true, Bool.not_false, decide_eq_true_eq, decide_eq_false_iff_not, beq_iff_eq, beq_eq_false_iff_ne, Bool.not_eq_eq_eq_not] at hc0
    have hs9 := hc0
    refine JC.seq ?_
    refine JC.region ?_
    refine J.op (ot_fieldAddr_own (.tmp rfl) fd28_2) rfl (ltN rfl) rfl ?_
    refine J.op (ot_load_own (.tmp rfl) (.head _) sc26 (cTs_ld rfl)) rfl (ltN rfl) rfl ?_
    refine J.op (ot_len (.tmp rfl) sl26 rfl) rfl (ltN rfl) rfl ?_
    refine J.op (ot_eql (.tmp rfl) .is) rfl (ltN rfl) rfl ?_
    refine J.op (ot_move (.tmp rfl)) rfl (ltN rfl) rfl ?_
    refine J.opg rfl rfl rfl (ltN rfl) (fun hg => ot_fieldAddr_own (.tmp rfl) fd28_1) rfl (ltN rfl) ?_
    refine J.opg rfl rfl rfl (ltN rfl) (fun hg => ot_fieldAddr_own (.iff hg (.tmp rfl)) fd25_0) rfl (ltN rfl) ?_
    refine J.opg rfl rfl rfl (ltN rfl) (fun hg => ot_load_own (.iff hg (.tmp rfl)) (.head _) sc4 (cTs_ld rfl)) rfl (ltN rfl) ?_
    refine J.opg rfl rfl rfl (ltN rfl) (fun hg => ot_not (.iff hg (.tmp rfl))) rfl (ltN rfl) ?_
    refine J.opg rfl rfl rfl (ltN rfl) (fun hg => ot_move (.iff hg (.tmp rfl))) rfl (ltN rfl) ?_
    refine J.opgg rfl rfl rfl (ltN rfl) (fun hg => ot_fieldAddr_own (.tmp rfl) fd28_1) rfl (ltN rfl) ?_
    refine J.opgg rfl rfl rfl (ltN rfl) (fun hg => ot_load_own_agg (.iff hg (.tmp rfl)) (.head _) ag25 (cTs_ldV (g := zT) (y := p.c) rfl rfl)) rfl (ltN rfl) ?_
    refine J.opgg rfl rfl rfl (ltN rfl) (fun hg => (by have hg' := hg; simp only [Bool.and_eq_true, Bool.or_eq_true, Bool.not_eq_true', Bool.not_eq_false', Bool.and_eq_false_iff, Bool.or_eq_false_iff, Bool.not_true, Bool.not_false, decide_eq_true_eq, decide_eq_false_iff_not, beq_iff_eq, beq_eq_false_iff_ne, Bool.not_eq_eq_eq_not] at hg'; exact ot_call fn25 (intSign_c p.c (by omega)) (.cons (.iff hg (.tmp rfl)) .nil))) rfl (ltN rfl) ?_
    refine J.opgg rfl rfl rfl (ltN rfl) (fun hg => ot_neq (.iff hg (.tmp rfl)) .is) rfl (ltN rfl) ?_
    refine J.opg rfl rfl rfl (ltN rfl) (fun hg => ot_or2 (.iff hg (.tmp rfl)) .is (.iffr hg (.tmp rfl))) rfl (ltN rfl) ?_
    refine J.op (ot_and2 (.tmp rfl) (.tmp rfl) .is) rfl (ltN rfl) rfl ?_
    refine J.op (ot_assign (.tmp rfl)) rfl (ltN rfl) rfl ?_
    refine J.nil ?_
    refine JQ.then_normal ?_
    refine JC.ret ?_
    refine JQ.then_ret ?_
    -- ret0
    exact JQ.ret1 rfl (.tmp (.eq (.tmp rfl) (by rw [canon_0 hc0])))
  · try simp only [Bool.and_eq_true, Bool.or_eq_true, Bool.not_eq_true', Bool.not_eq_false', Bool.and_eq_false_iff, Bool.or_eq_false_iff, Bool.not_true, Bool.not_false, decide_eq_true_eq, decide_eq_false_iff_not, beq_iff_eq, beq_eq_false_iff_ne, Bool.not_eq_eq_eq_not] at hc0
    have hs9 := hc0
    refine JC.skip ?_
    refine JQ.then_normal ?_
    refine JC.seq ?_
    refine JC.seq ?_
    refine JC.region ?_
    refine J.op (ot_fieldAddr_own (.tmp rfl) fd28_0) rfl (ltN rfl) rfl ?_
    refine J.op (ot_load_own (.tmp rfl) (.head _) sc3 (cTs_ld rfl)) rfl (ltN rfl) rfl ?_
    refine J.op (ot_lss (.tmp rfl) .is) rfl (ltN rfl) rfl ?_
    refine J.op (ot_move (.tmp rfl)) rfl (ltN rfl) rfl ?_
    refine J.opg rfl rfl rfl (ltN rfl) (fun hg => ot_fieldAddr_own (.tmp rfl) fd28_0) rfl (ltN rfl) ?_
    refine J.opg rfl rfl rfl (ltN rfl) (fun hg => ot_load_own (.iff hg (.tmp rfl)) (.head _) sc3 (cTs_ld rfl)) rfl (ltN rfl) ?_
    refine J.opg rfl rfl rfl (ltN rfl) (fun hg => ot_move (.tmp rfl)) rfl (ltN rfl) ?_
    refine J.opg rfl rfl rfl (ltN rfl) (fun hg => ot_geq (.iff hg (.tmp rfl)) (.iff hg (.tmp rfl))) rfl (ltN rfl) ?_
    refine J.op (ot_or2 (.tmp rfl) .is (.tmp rfl)) rfl (ltN rfl) rfl ?_
    refine J.op (ot_move (.tmp rfl)) rfl (ltN rfl) rfl ?_
    refine J.opg rfl rfl rfl (ltN rfl) (fun hg => ot_fieldAddr_own (.tmp rfl) fd28_2) rfl (ltN rfl) ?_
    refine J.opg rfl rfl rfl (ltN rfl) (fun hg => ot_load_own (.iff hg (.tmp rfl)) (.head _) sc26 (cTs_ld rfl)) rfl (ltN rfl) ?_
    refine J.opg rfl rfl rfl (ltN rfl) (fun hg => ot_len (.iff hg (.tmp rfl)) sl26 rfl) rfl (ltN rfl) ?_
    refine J.opg rfl rfl rfl (ltN rfl) (fun hg => ot_lss (.iff hg (.tmp rfl)) .is) rfl (ltN rfl) ?_
    refine J.op (ot_or2 (.tmp rfl) .is (.tmp rfl)) rfl (ltN rfl) rfl ?_
    refine J.op (ot_move (.tmp rfl)) rfl (ltN rfl) rfl ?_
    refine J.opg rfl rfl rfl (ltN rfl) (fun hg => ot_fieldAddr_own (.tmp rfl) fd28_1) rfl (ltN rfl) ?_
    refine J.opg rfl rfl rfl (ltN rfl) (fun hg => ot_load_own_agg (.iff hg (.tmp rfl)) (.head _) ag25 (cTs_ldV (g := zT) (y := p.c) rfl rfl)) rfl (ltN rfl) ?_
    refine J.opg rfl rfl rfl (ltN rfl) (fun hg => (by have hg' := hg; simp only [Bool.and_eq_true, Bool.or_eq_true, Bool.not_eq_true', Bool.not_eq_false', Bool.and_eq_false_iff, Bool.or_eq_false_iff, Bool.not_true, Bool.not_false, decide_eq_true_eq, decide_eq_false_iff_not, beq_iff_eq, beq_eq_false_iff_ne, Bool.not_eq_eq_eq_not] at hg'; exact ot_call fn25 (intSign_c p.c (by omega)) (.cons (.iff hg (.tmp rfl)) .nil))) rfl (ltN rfl) ?_
    refine J.opg rfl rfl rfl (ltN rfl) (fun hg => ot_neq (.iff hg (.tmp rfl)) .is) rfl (ltN rfl) ?_
    refine J.op (ot_or2 (.tmp rfl) .is (.tmp rfl)) rfl (ltN rfl) rfl ?_
    refine J.nil ?_
    refine JQ.then_normal ?_
    -- cond1: tIs (.bool ((((decide (p.lv < 0)) || (decide (b ≤ p.lv))) || (decide (((p.cs).length : Int) < 2))) || (!decide ((sgn (zval p.c)) = 0))))
    refine JC.cond (.tmp rfl) (fun hc1 => ?_) (fun hc1 => ?_)
    · try simp only [Bool.and_eq_true, Bool.or_eq_true, Bool.not_eq_true', Bool.not_eq_false', Bool.and_eq_false_iff, Bool.or_eq_false_iff, Bool.not_true, Bool.not_false, decide_eq_true_eq, decide_eq_false_iff_not, beq_iff_eq, beq_eq_false_iff_ne, Bool.not_eq_eq_eq_not] at hc1
      have hs46 := hc1
      refine JC.seq ?_
      refine JC.region ?_
      refine J.op (ot_assign .is) rfl (ltN rfl) rfl ?_
      refine J.nil ?_
      refine JQ.then_normal ?_
      refine JC.ret ?_
      refine JQ.then_ret ?_
      -- ret1
      exact JQ.ret1 rfl (.tmp (.eq (.tmp rfl) (by rw [canon_no hc0 (by simpa using hc1)])))
    · try simp only [Bool.and_eq_true, Bool.or_eq_true, Bool.not_eq_true', Bool.not_eq_false', Bool.and_eq_false_iff, Bool.or_eq_false_iff, Bool.not_true, Bool.not_false, decide_eq_true_eq, decide_eq_false_iff_not, beq_iff_eq, beq_eq_false_iff_ne, Bool.not_eq_eq_eq_not] at hc1
      have hs46 := hc1
      refine JC.skip ?_
      refine JQ.then_normal ?_
      refine JC.seq ?_
      refine JC.seq ?_
      refine JC.region ?_
      refine J.op (ot_fieldAddr_own (.tmp rfl) fd28_2) rfl (ltN rfl) rfl ?_
      refine J.op (ot_load_own (.tmp rfl) (.head _) sc26 (cTs_ld rfl)) rfl (ltN rfl) rfl ?_
      refine J.op (ot_len (.tmp rfl) sl26 rfl) rfl (ltN rfl) rfl ?_
      refine J.op (ot_move .is) rfl (ltN rfl) rfl ?_
      refine J.nil ?_
      refine JQ.then_normal ?_
      refine JC.block ?_
      refine JC.loop (ι := Nat) (fun k => [(2, pOwn b2 (0)), (48, tSl encP (p.cs)), (49, tIs (.int .i64 (((p.cs).length : Int)))), (50, tIs (.int .i64 (((k : Nat) : Int))))]) (fun k => [⟨b2, 28, cTs [tIs (.int .i64 (p.lv)), tIs (.bool (p.c.neg)), tSl encD (p.c.abs), tSl encP (p.cs)]⟩]) (fun k => k ≤ p.cs.length ∧ (p.cs.take k).all (canonB · p.lv) = true) (fun k => p.cs.length - k) 0 ⟨by omega, by simp⟩ ?lsub0 ?round0
      case lsub0 => exact sub_trans (sub_heap (.keep (fun _ _ h => h) .nil)) (sub_cons (.tmp rfl) (sub_cons (.tmp rfl) (sub_cons (.tmp rfl) (sub_cons (.eq (.tmp rfl) (by first | rfl | (congr 3; omega) | (congr 2; omega))) (sub_nil)))))
      intro k hinv
      obtain ⟨hk, hall⟩ := hinv
      refine JC.seq ?_
      refine JC.region ?_
      refine J.op (ot_lss (.tmp rfl) (.tmp rfl)) rfl (ltN rfl) rfl ?_
      refine J.nil ?_
      refine JQ.then_normal ?_
      refine JC.seq ?_
      -- cond2: tIs (.bool (decide (((k : Nat) : Int) < ((p.cs).length : Int))))
      refine JC.cond (.tmp rfl) (fun hc2 => ?_) (fun hc2 => ?_)
      · try simp only [Bool.and_eq_true, Bool.or_eq_true, Bool.not_eq_true', Bool.not_eq_false', Bool.and_eq_false_iff, Bool.or_eq_false_iff, Bool.not_true, Bool.not_false, decide_eq_true_eq, decide_eq_false_iff_not, beq_iff_eq, beq_eq_false_iff_ne, Bool.not_eq_eq_eq_not] at hc2
        have hs51 := hc2
        refine JC.skip ?_
        refine JQ.then_normal ?_
        refine JC.seq ?_
        refine JC.block ?_
        refine JC.seq ?_
        refine JC.region ?_
        refine J.op (ot_index (z := atP p.cs k) (.tmp rfl) (.tmp rfl) sl26 (by omega) (atP_at (by omega) (by omega))) rfl (ltN rfl) rfl ?_
        refine J.op (ot_load_agg (.tmp rfl) ag28 ldp_whole) rfl (ltN rfl) rfl ?_
        refine J.alloc (R := cTs [tIs (.int .i64 (0)), tIs (.bool (false)), tSl encD ([]), tSl encP ([])]) zr28 (fun _ => ⟨rfl, rfl, rfl, rfl, slP_nil _ _, rfl, slP_nil _ _, rfl, trivial⟩) (ltN rfl) fun b6 => ?_
        refine J.store (.tmp rfl) (.eq (.tmp rfl) (tV_F (Ts := [tIs (.int .i64 ((atP p.cs k).lv)), tIs (.bool (((atP p.cs k).c).neg)), tSl encD (((atP p.cs k).c).abs), tSl encP ((atP p.cs k).cs)]) (polT_eq _))) .here sz28 (st_agg (Ts' := [tIs (.int .i64 ((atP p.cs k).lv)), tIs (.bool (((atP p.cs k).c).neg)), tSl encD (((atP p.cs k).c).abs), tSl encP ((atP p.cs k).cs)]) (o := 0) rfl) ?_
        refine J.nil ?_
        refine JQ.then_normal ?_
        refine JC.seq ?_
        refine JC.region ?_
        refine J.op (ot_load_own_agg (.tmp rfl) (.head _) ag28 (cTs_ldV (g := polT) (y := (atP p.cs k)) (polT_eq (atP p.cs k)).symm rfl)) rfl (ltN rfl) rfl ?_
        refine J.op (ot_fieldAddr_own (.tmp rfl) fd28_0) rfl (ltN rfl) rfl ?_
        refine J.op (ot_load_own (.tmp rfl) (.tail _ (.head _)) sc3 (cTs_ld rfl)) rfl (ltN rfl) rfl ?_
        refine J.op (ot_call fn44 (ih (atP p.cs k) (atP_mem (by omega)) p.lv (hf.at (by omega))) (.cons (.tmp rfl) (.cons (.tmp rfl) .nil))) rfl (ltN rfl) rfl ?_
        refine J.op (ot_not (.tmp rfl)) rfl (ltN rfl) rfl ?_
        refine J.nil ?_
        refine JQ.then_normal ?_
        -- cond3: tIs (.bool (!(canonB (atP p.cs k) p.lv)))
        refine JC.cond (.tmp rfl) (fun hc3 => ?_) (fun hc3 => ?_)
        · try simp only [Bool.and_eq_true, Bool.or_eq_true, Bool.not_eq_true', Bool.not_eq_false', Bool.and_eq_false_iff, Bool.or_eq_false_iff, Bool.not_true, Bool.not_false, decide_eq_true_eq, decide_eq_false_iff_not, beq_iff_eq, beq_eq_false_iff_ne, Bool.not_eq_eq_eq_not] at hc3
          have hs58 := hc3
          refine JC.seq ?_
          refine JC.region ?_
          refine J.op (ot_assign .is) rfl (ltN rfl) rfl ?_
          refine J.nil ?_
          refine JQ.then_normal ?_
          refine JC.ret ?_
          refine JQ.block_ret ?_
          refine JQ.then_ret ?_
          refine JQ.then_ret ?_
          refine JQ.block_ret ?_
          refine JQ.then_ret ?_
          -- ret2
          exact JQ.ret1 rfl (.tmp (.eq (.tmp rfl) (by rw [canon_sub (k := k) hc0 (by omega) (by simpa using hc3)])))
        · try simp only [Bool.and_eq_true, Bool.or_eq_true, Bool.not_eq_true', Bool.not_eq_false', Bool.and_eq_false_iff, Bool.or_eq_false_iff, Bool.not_true, Bool.not_false, decide_eq_true_eq, decide_eq_false_iff_not, beq_iff_eq, beq_eq_false_iff_ne, Bool.not_eq_eq_eq_not] at hc3
          have hs58 := hc3
          refine JC.skip ?_
          refine JQ.block_normal ?_
          refine JQ.then_normal ?_
          refine JC.region ?_
          refine J.op (ot_add (.tmp rfl) .is (w64 (by omega) (by omega))) rfl (ltN rfl) rfl ?_
          refine J.op (ot_move (.tmp rfl)) rfl (ltN rfl) rfl ?_
          refine J.nil ?_
          exact JQ.round (k + 1) ⟨by omega, all_take (by omega) hall (by simpa using hc3)⟩ (by omega) (sub_trans (sub_heap (.drop (.keep (fun _ _ h => h) .nil))) (sub_cons (.tmp rfl) (sub_cons (.tmp rfl) (sub_cons (.tmp rfl) (sub_cons (.eq (.tmp rfl) (by first | rfl | (congr 3; omega) | (congr 2; omega))) (sub_nil))))))
      · try simp only [Bool.and_eq_true, Bool.or_eq_true, Bool.not_eq_true', Bool.not_eq_false', Bool.and_eq_false_iff, Bool.or_eq_false_iff, Bool.not_true, Bool.not_false, decide_eq_true_eq, decide_eq_false_iff_not, beq_iff_eq, beq_eq_false_iff_ne, Bool.not_eq_eq_eq_not] at hc2
        have hs51 := hc2
        have hcn : ((¬ p.lv < 0 ∧ ¬ b ≤ p.lv) ∧ ¬ (p.cs.length : Int) < 2) ∧ sgn (zval p.c) = 0 := by simpa using hc1
        refine JC.exit ?_
        refine JQ.then_exit ?_
        refine JQ.then_exit ?_
        refine JQ.block_exit ?_
        refine JQ.then_normal ?_
        refine JC.seq ?_
        refine JC.region ?_
        refine J.op (ot_fieldAddr_own (.tmp rfl) fd28_2) rfl (ltN rfl) rfl ?_
        refine J.op (ot_load_own (.tmp rfl) (.head _) sc26 (cTs_ld rfl)) rfl (ltN rfl) rfl ?_
        refine J.op (ot_fieldAddr_own (.tmp rfl) fd28_2) rfl (ltN rfl) rfl ?_
        refine J.op (ot_load_own (.tmp rfl) (.head _) sc26 (cTs_ld rfl)) rfl (ltN rfl) rfl ?_
        refine J.op (ot_len (.tmp rfl) sl26 rfl) rfl (ltN rfl) rfl ?_
        refine J.op (ot_sub (.tmp rfl) .is (w64 (by omega) (by omega))) rfl (ltN rfl) rfl ?_
        refine J.op (ot_index (z := atP p.cs (p.cs.length - 1)) (.tmp rfl) (.tmp rfl) sl26 (by omega) (atP_at (by omega) (by omega))) rfl (ltN rfl) rfl ?_
        refine J.op (ot_load_agg (.tmp rfl) ag28 ldp_whole) rfl (ltN rfl) rfl ?_
        refine J.op (ot_call fn63 (pzero_c (atP p.cs (p.cs.length - 1)) (Nat.le_trans (hf.at (i := p.cs.length - 1) (by omega)).c hb)) (.cons (.tmp rfl) .nil)) rfl (ltN rfl) rfl ?_
        refine J.op (ot_not (.tmp rfl)) rfl (ltN rfl) rfl ?_
        refine J.op (ot_assign (.tmp rfl)) rfl (ltN rfl) rfl ?_
        refine J.nil ?_
        refine JQ.then_normal ?_
        refine JC.ret ?_
        -- ret3
        exact JQ.ret1 rfl (.tmp (.eq (.tmp rfl) (by rw [canon_end hc0 hcn (by omega) hall])))

theorem rnormal_c {B : Nat} (p : Pol) (hf : Fit B p) (hb : B ≤ 1000000000000) (hn : p.lv ≤ 0 ∨ 4 < p.lv ∨ canonB p 5 = true) : Ctr Try.prog 29 [tV encP (p)] (tV encP (normC p)) := by
  have hc := hf.c
  refine Ctr.of Try.func29 rfl Try.ntmps29 (Nat.le_of_ble_eq_true rfl) fun w0 M0 => ?_
  refine JC.seq ?_
  refine JC.region ?_
  refine J.boxF (Ts := [tIs (.int .i64 (p.lv)), tIs (.bool (p.c.neg)), tSl encD (p.c.abs), tSl encP (p.cs)]) (.tmp rfl) (polT_eq _) (ltN rfl) fun b1 => ?_
  refine J.alloc (R := cTs [tIs (.int .i64 (0)), tIs (.bool (false)), tSl encD ([]), tSl encP ([])]) zr28 (fun _ => ⟨rfl, rfl, rfl, rfl, slP_nil _ _, rfl, slP_nil _ _, rfl, trivial⟩) (ltN rfl) fun b2 => ?_
  refine J.nil ?_
  refine JQ.then_normal ?_
  refine JC.seq ?_
  refine JC.seq ?_
  refine JC.region ?_
  refine J.op (ot_fieldAddr_own (.tmp rfl) fd28_0) rfl (ltN rfl) rfl ?_
  refine J.op (ot_load_own (.tmp rfl) (.tail _ (.head _)) sc3 (cTs_ld rfl)) rfl (ltN rfl) rfl ?_
  refine J.op (ot_leq (.tmp rfl) .is) rfl (ltN rfl) rfl ?_
  refine J.nil ?_
  refine JQ.then_normal ?_
  -- cond0: tIs (.bool (decide (p.lv ≤ 0)))
  refine JC.cond (.tmp rfl) (fun hc0 => ?_) (fun hc0 => ?_)
  · try simp only [Bool.and_eq_true, Bool.or_eq_true, Bool.not_eq_true', Bool.not_eq_false', Bool.and_eq_false_iff, Bool.or_eq_false_iff, Bool.not_true, Bool.not_false, decide_eq_true_eq, decide_eq_false_iff_not, beq_iff_eq, beq_eq_false_iff_ne, Bool.not_eq_eq_eq_not] at hc0
    have hs8 := hc0
    refine JC.seq ?_
    refine JC.region ?_
    refine J.op (ot_fieldAddr_own (.tmp rfl) fd28_1) rfl (ltN rfl) rfl ?_
    refine J.op (ot_load_own_agg (.tmp rfl) (.tail _ (.head _)) ag25 (cTs_ldV (g := zT) (y := p.c) rfl rfl)) rfl (ltN rfl) rfl ?_
    refine J.op (ot_call fn43 (intNormal_c p.c (by omega)) (.cons (.tmp rfl) .nil)) rfl (ltN rfl) rfl ?_
    refine J.op (ot_eqt (T' := tV encP (Pol.mk (0) (ofI (zval p.c)) ([]))) (ot_build (Ts := [tIs (.int .i64 (0)), tIs (.bool (false)), tSl encD ([]), tSl encP ([])]) pl28 (fun _ => ⟨rfl, rfl, rfl, rfl, slP_nil _ _, rfl, slP_nil _ _, rfl, trivial⟩) ((.agg (off := 1) rfl (.eq (.tmp rfl) (tV_F (Ts := [tIs (.bool ((ofI (zval p.c)).neg)), tSl encD ((ofI (zval p.c)).abs)]) rfl)) (Ts' := [tIs (.int .i64 (0)), tIs (.bool ((ofI (zval p.c)).neg)), tSl encD ((ofI (zval p.c)).abs), tSl encP ([])]) rfl rfl .nil)) rfl) (tV_F' (polT_eq _))) rfl (ltN rfl) rfl ?_
    refine J.store (.tmp rfl) (.eq (.tmp rfl) (tV_F (Ts := [tIs (.int .i64 (0)), tIs (.bool ((ofI (zval p.c)).neg)), tSl encD ((ofI (zval p.c)).abs), tSl encP ([])]) (polT_eq _))) .here sz28 (st_agg (Ts' := [tIs (.int .i64 (0)), tIs (.bool ((ofI (zval p.c)).neg)), tSl encD ((ofI (zval p.c)).abs), tSl encP ([])]) (o := 0) rfl) ?_
    refine J.nil ?_
    refine JQ.then_normal ?_
    refine JC.ret ?_
    refine JQ.then_ret ?_
    -- ret0
    exact JQ.ret1 rfl (.agg (.tmp rfl) (.head _) ag28 (agg_eq (T := tV encP (Pol.mk (0) (ofI (zval p.c)) ([]))) (T' := tV encP (normC p)) (by rw [normC, if_pos hc0]; rfl) (cTs_ldV (g := polT) (y := (Pol.mk (0) (ofI (zval p.c)) ([]))) (polT_eq (Pol.mk (0) (ofI (zval p.c)) ([]))).symm rfl)))
  · try simp only [Bool.and_eq_true, Bool.or_eq_true, Bool.not_eq_true', Bool.not_eq_false', Bool.and_eq_false_iff, Bool.or_eq_false_iff, Bool.not_true, Bool.not_false, decide_eq_true_eq, decide_eq_false_iff_not, beq_iff_eq, beq_eq_false_iff_ne, Bool.not_eq_eq_eq_not] at hc0
    have hs8 := hc0
    refine JC.skip ?_
    refine JQ.then_normal ?_
    refine JC.seq ?_
    refine JC.seq ?_
    refine JC.region ?_
    refine J.op (ot_fieldAddr_own (.tmp rfl) fd28_0) rfl (ltN rfl) rfl ?_
    refine J.op (ot_load_own (.tmp rfl) (.tail _ (.head _)) sc3 (cTs_ld rfl)) rfl (ltN rfl) rfl ?_
    refine J.op (ot_gtr (.tmp rfl) .is) rfl (ltN rfl) rfl ?_
    refine J.nil ?_
    refine JQ.then_normal ?_
    -- cond1: tIs (.bool (decide (4 < p.lv)))
    refine JC.cond (.tmp rfl) (fun hc1 => ?_) (fun hc1 => ?_)
    · try simp only [Bool.and_eq_true, Bool.or_eq_true, Bool.not_eq_true', Bool.not_eq_false', Bool.and_eq_false_iff, Bool.or_eq_false_iff, Bool.not_true, Bool.not_false, decide_eq_true_eq, decide_eq_false_iff_not, beq_iff_eq, beq_eq_false_iff_ne, Bool.not_eq_eq_eq_not] at hc1
      have hs15 := hc1
      refine JC.seq ?_
      refine JC.region ?_
      refine J.op (ot_eqt (T' := tV encP (Pol.mk (0) (Z.mk (false) ([])) ([]))) (ot_build (Ts := [tIs (.int .i64 (0)), tIs (.bool (false)), tSl encD ([]), tSl encP ([])]) pl28 (fun _ => ⟨rfl, rfl, rfl, rfl, slP_nil _ _, rfl, slP_nil _ _, rfl, trivial⟩) (.nil) rfl) (tV_F' (polT_eq _))) rfl (ltN rfl) rfl ?_
      refine J.store (.tmp rfl) (.eq (.tmp rfl) (tV_F (Ts := [tIs (.int .i64 (0)), tIs (.bool (false)), tSl encD ([]), tSl encP ([])]) (polT_eq _))) .here sz28 (st_agg (Ts' := [tIs (.int .i64 (0)), tIs (.bool (false)), tSl encD ([]), tSl encP ([])]) (o := 0) rfl) ?_
      refine J.nil ?_
      refine JQ.then_normal ?_
      refine JC.ret ?_
      refine JQ.then_ret ?_
      -- ret1
      exact JQ.ret1 rfl (.agg (.tmp rfl) (.head _) ag28 (agg_eq (T := tV encP (Pol.mk (0) (Z.mk (false) ([])) ([]))) (T' := tV encP (normC p)) (by rw [normC, if_neg hc0, if_pos hc1]; rfl) (cTs_ldV (g := polT) (y := (Pol.mk (0) (Z.mk (false) ([])) ([]))) (polT_eq (Pol.mk (0) (Z.mk (false) ([])) ([]))).symm rfl)))
    · try simp only [Bool.and_eq_true, Bool.or_eq_true, Bool.not_eq_true', Bool.not_eq_false', Bool.and_eq_false_iff, Bool.or_eq_false_iff, Bool.not_true, Bool.not_false, decide_eq_true_eq, decide_eq_false_iff_not, beq_iff_eq, beq_eq_false_iff_ne, Bool.not_eq_eq_eq_not] at hc1
      have hs15 := hc1
      refine JC.skip ?_
      refine JQ.then_normal ?_
      refine JC.seq ?_
      refine JC.seq ?_
      refine JC.region ?_
      refine J.op (ot_load_own_agg (.tmp rfl) (.tail _ (.head _)) ag28 (cTs_ldV (g := polT) (y := p) (polT_eq p).symm rfl)) rfl (ltN rfl) rfl ?_
      refine J.op (ot_call fn44 (canonical_c p 5 (by assumption) (by omega)) (.cons (.tmp rfl) (.cons .is .nil))) rfl (ltN rfl) rfl ?_
      refine J.nil ?_
      refine JQ.then_normal ?_
      refine JC.cond_true (.eq (.tmp rfl) (by rcases hn with h | h | h <;> first | omega | rw [h])) ?_
      refine JC.seq ?_
      refine JC.region ?_
      refine J.op (ot_load_own_agg (.tmp rfl) (.tail _ (.head _)) ag28 (cTs_ldV (g := polT) (y := p) (polT_eq p).symm rfl)) rfl (ltN rfl) rfl ?_
      refine J.op (ot_call fn45 (copied_c p (by assumption) (by assumption)) (.cons (.tmp rfl) .nil)) rfl (ltN rfl) rfl ?_
      refine J.store (.tmp rfl) (.eq (.tmp rfl) (tV_F (Ts := [tIs (.int .i64 ((scaleP p 1).lv)), tIs (.bool (((scaleP p 1).c).neg)), tSl encD (((scaleP p 1).c).abs), tSl encP ((scaleP p 1).cs)]) (polT_eq _))) .here sz28 (st_agg (Ts' := [tIs (.int .i64 ((scaleP p 1).lv)), tIs (.bool (((scaleP p 1).c).neg)), tSl encD (((scaleP p 1).c).abs), tSl encP ((scaleP p 1).cs)]) (o := 0) rfl) ?_
      refine J.nil ?_
      refine JQ.then_normal ?_
      refine JC.ret ?_
      refine JQ.then_ret ?_
      -- ret2
      exact JQ.ret1 rfl (.agg (.tmp rfl) (.head _) ag28 (agg_eq (T := tV encP (scaleP p 1)) (T' := tV encP (normC p)) (by rw [normC, if_neg hc0, if_neg hc1]) (cTs_ldV (g := polT) (y := (scaleP p 1)) (polT_eq (scaleP p 1)).symm rfl)))

theorem constant_c {B : Nat} (p : Pol) (hf : Fit B p) (hb : B ≤ 1000000000000) (hn : p.lv ≤ 0 ∨ 4 < p.lv ∨ canonB p 5 = true) : Ctr Try.prog 11 [tV encP (p)] (tTup [tV encI (if 0 < (normC p).lv then z0 else (normC p).c), tIs (.bool (!decide (0 < (normC p).lv)))]) := by
  refine Ctr.of Try.func11 rfl Try.ntmps11 (Nat.le_of_ble_eq_true rfl) fun w0 M0 => ?_
  refine JC.seq ?_
  refine JC.region ?_
  refine J.boxF (Ts := [tIs (.int .i64 (p.lv)), tIs (.bool (p.c.neg)), tSl encD (p.c.abs), tSl encP (p.cs)]) (.tmp rfl) (polT_eq _) (ltN rfl) fun b1 => ?_
  refine J.alloc (R := cTs [tIs (.bool (false)), tSl encD ([])]) zr25 (fun _ => ⟨rfl, rfl, slP_nil _ _, rfl, trivial⟩) (ltN rfl) fun b2 => ?_
  refine J.op (ot_assign .is) rfl (ltN rfl) rfl ?_
  refine J.nil ?_
  refine JQ.then_normal ?_
  refine JC.seq ?_
  refine JC.region ?_
  refine J.op (ot_load_own_agg (.tmp rfl) (.tail _ (.head _)) ag28 (cTs_ldV (g := polT) (y := p) (polT_eq p).symm rfl)) rfl (ltN rfl) rfl ?_
  refine J.op (ot_call fn29 (rnormal_c p (by assumption) (by assumption) (by assumption)) (.cons (.tmp rfl) .nil)) rfl (ltN rfl) rfl ?_
  refine J.alloc (R := cTs [tIs (.int .i64 (0)), tIs (.bool (false)), tSl encD ([]), tSl encP ([])]) zr28 (fun _ => ⟨rfl, rfl, rfl, rfl, slP_nil _ _, rfl, slP_nil _ _, rfl, trivial⟩) (ltN rfl) fun b4 => ?_
  refine J.store (.tmp rfl) (.eq (.tmp rfl) (tV_F (Ts := [tIs (.int .i64 ((normC p).lv)), tIs (.bool (((normC p).c).neg)), tSl encD (((normC p).c).abs), tSl encP ((normC p).cs)]) (polT_eq _))) .here sz28 (st_agg (Ts' := [tIs (.int .i64 ((normC p).lv)), tIs (.bool (((normC p).c).neg)), tSl encD (((normC p).c).abs), tSl encP ((normC p).cs)]) (o := 0) rfl) ?_
  refine J.nil ?_
  refine JQ.then_normal ?_
  refine JC.seq ?_
  refine JC.seq ?_
  refine JC.region ?_
  refine J.op (ot_fieldAddr_own (.tmp rfl) fd28_0) rfl (ltN rfl) rfl ?_
  refine J.op (ot_load_own (.tmp rfl) (.head _) sc3 (cTs_ld rfl)) rfl (ltN rfl) rfl ?_
  refine J.op (ot_gtr (.tmp rfl) .is) rfl (ltN rfl) rfl ?_
  refine J.nil ?_
  refine JQ.then_normal ?_
  -- cond0: tIs (.bool (decide (0 < ((normC p).lv))))
  refine JC.cond (.tmp rfl) (fun hc0 => ?_) (fun hc0 => ?_)
  · try simp only [Bool.and_eq_true, Bool.or_eq_true, Bool.not_eq_true', Bool.not_eq_false', Bool.and_eq_false_iff, Bool.or_eq_false_iff, Bool.not_true, Bool.not_false, decide_eq_true_eq, decide_eq_false_iff_not, beq_iff_eq, beq_eq_false_iff_ne, Bool.not_eq_eq_eq_not] at hc0
    have hs9 := hc0
    refine JC.seq ?_
    refine JC.region ?_
    refine J.op (ot_eqt (T' := tV encI (Z.mk (false) ([]))) (ot_build (Ts := [tIs (.bool (false)), tSl encD ([])]) pl25 (fun _ => ⟨rfl, rfl, slP_nil _ _, rfl, trivial⟩) (.nil) rfl) (tV_F' rfl)) rfl (ltN rfl) rfl ?_
    refine J.store (.tmp rfl) (.eq (.tmp rfl) (tV_F (Ts := [tIs (.bool (false)), tSl encD ([])]) rfl)) (.there .here) sz25 (st_agg (Ts' := [tIs (.bool (false)), tSl encD ([])]) (o := 0) rfl) ?_
    refine J.op (ot_assign .is) rfl (ltN rfl) rfl ?_
    refine J.nil ?_
    refine JQ.then_normal ?_
    refine JC.ret ?_
    refine JQ.then_ret ?_
    -- ret0
    exact JQ.ret2 rfl (.agg (.tmp rfl) (.tail _ (.head _)) ag25 (agg_eq (T := tV encI (Z.mk (false) ([]))) (T' := tV encI (if 0 < (normC p).lv then z0 else (normC p).c)) (by rw [if_pos hc0]; rfl) (cTs_ldV (g := zT) (y := (Z.mk (false) ([]))) rfl rfl))) (.tmp (.eq (.tmp rfl) (by rw [decide_eq_true hc0]; rfl)))
  · try simp only [Bool.and_eq_true, Bool.or_eq_true, Bool.not_eq_true', Bool.not_eq_false', Bool.and_eq_false_iff, Bool.or_eq_false_iff, Bool.not_true, Bool.not_false, decide_eq_true_eq, decide_eq_false_iff_not, beq_iff_eq, beq_eq_false_iff_ne, Bool.not_eq_eq_eq_not] at hc0
    have hs9 := hc0
    refine JC.skip ?_
    refine JQ.then_normal ?_
    refine JC.seq ?_
    refine JC.region ?_
    refine J.op (ot_fieldAddr_own (.tmp rfl) fd28_1) rfl (ltN rfl) rfl ?_
    refine J.op (ot_load_own_agg (.tmp rfl) (.head _) ag25 (cTs_ldV (g := zT) (y := ((normC p).c)) rfl rfl)) rfl (ltN rfl) rfl ?_
    refine J.store (.tmp rfl) (.eq (.tmp rfl) (tV_F (Ts := [tIs (.bool (((normC p).c).neg)), tSl encD (((normC p).c).abs)]) rfl)) (.there .here) sz25 (st_agg (Ts' := [tIs (.bool (((normC p).c).neg)), tSl encD (((normC p).c).abs)]) (o := 0) rfl) ?_
    refine J.op (ot_assign .is) rfl (ltN rfl) rfl ?_
    refine J.nil ?_
    refine JQ.then_normal ?_
    refine JC.ret ?_
    -- ret1
    exact JQ.ret2 rfl (.agg (.tmp rfl) (.tail _ (.head _)) ag25 (agg_eq (T := tV encI ((normC p).c)) (T' := tV encI (if 0 < (normC p).lv then z0 else (normC p).c)) (by rw [if_neg hc0]) (cTs_ldV (g := zT) (y := ((normC p).c)) rfl rfl))) (.tmp (.eq (.tmp rfl) (by rw [decide_eq_false hc0]; rfl)))

theorem var_c (l : Int) : Ctr Try.prog 19 [tIs (.int .i64 (l))] (tV encP (varP l)) := by
  refine Ctr.of Try.func19 rfl Try.ntmps19 (Nat.le_of_ble_eq_true rfl) fun w0 M0 => ?_
  refine JC.seq ?_
  refine JC.region ?_
  refine J.alloc (R := cTs [tIs (.int .i64 (0)), tIs (.bool (false)), tSl encD ([]), tSl encP ([])]) zr28 (fun _ => ⟨rfl, rfl, rfl, rfl, slP_nil _ _, rfl, slP_nil _ _, rfl, trivial⟩) (ltN rfl) fun b2 => ?_
  refine J.nil ?_
  refine JQ.then_normal ?_
  refine JC.seq ?_
  refine JC.seq ?_
  refine JC.region ?_
  refine J.op (ot_move (.tmp rfl)) rfl (ltN rfl) rfl ?_
  refine J.op (ot_lss (.tmp rfl) .is) rfl (ltN rfl) rfl ?_
  refine J.op (ot_move (.tmp rfl)) rfl (ltN rfl) rfl ?_
  refine J.opg rfl rfl rfl (ltN rfl) (fun hg => ot_move (.tmp rfl)) rfl (ltN rfl) ?_
  refine J.opg rfl rfl rfl (ltN rfl) (fun hg => ot_gtr (.iff hg (.tmp rfl)) .is) rfl (ltN rfl) ?_
  refine J.op (ot_or2 (.tmp rfl) .is (.tmp rfl)) rfl (ltN rfl) rfl ?_
  refine J.nil ?_
  refine JQ.then_normal ?_
  -- cond0: tIs (.bool ((decide (l < 1)) || (decide (4 < l))))
  refine JC.cond (.tmp rfl) (fun hc0 => ?_) (fun hc0 => ?_)
  · try simp only [Bool.and_eq_true, Bool.or_eq_true, Bool.not_eq_true', Bool.not_eq_false', Bool.and_eq_false_iff, Bool.or_eq_false_iff, Bool.not_true, Bool.not_false, decide_eq_true_eq, decide_eq_false_iff_not, beq_iff_eq, beq_eq_false_iff_ne, Bool.not_eq_eq_eq_not] at hc0
    have hs8 := hc0
    refine JC.seq ?_
    refine JC.region ?_
    refine J.op (ot_eqt (T' := tV encP (Pol.mk (0) (Z.mk (false) ([])) ([]))) (ot_build (Ts := [tIs (.int .i64 (0)), tIs (.bool (false)), tSl encD ([]), tSl encP ([])]) pl28 (fun _ => ⟨rfl, rfl, rfl, rfl, slP_nil _ _, rfl, slP_nil _ _, rfl, trivial⟩) (.nil) rfl) (tV_F' (polT_eq _))) rfl (ltN rfl) rfl ?_
    refine J.store (.tmp rfl) (.eq (.tmp rfl) (tV_F (Ts := [tIs (.int .i64 (0)), tIs (.bool (false)), tSl encD ([]), tSl encP ([])]) (polT_eq _))) .here sz28 (st_agg (Ts' := [tIs (.int .i64 (0)), tIs (.bool (false)), tSl encD ([]), tSl encP ([])]) (o := 0) rfl) ?_
    refine J.nil ?_
    refine JQ.then_normal ?_
    refine JC.ret ?_
    refine JQ.then_ret ?_
    -- ret0
    exact JQ.ret1 rfl (.agg (.tmp rfl) (.head _) ag28 (agg_eq (T := tV encP (Pol.mk (0) (Z.mk (false) ([])) ([]))) (T' := tV encP (varP l)) (by rw [varP, if_pos hc0]; rfl) (cTs_ldV (g := polT) (y := (Pol.mk (0) (Z.mk (false) ([])) ([]))) (polT_eq (Pol.mk (0) (Z.mk (false) ([])) ([]))).symm rfl)))
  · try simp only [Bool.and_eq_true, Bool.or_eq_true, Bool.not_eq_true', Bool.not_eq_false', Bool.and_eq_false_iff, Bool.or_eq_false_iff, Bool.not_true, Bool.not_false, decide_eq_true_eq, decide_eq_false_iff_not, beq_iff_eq, beq_eq_false_iff_ne, Bool.not_eq_eq_eq_not] at hc0
    have hs8 := hc0
    refine JC.skip ?_
    refine JQ.then_normal ?_
    refine JC.seq ?_
    refine JC.region ?_
    refine J.op (ot_move (.tmp rfl)) rfl (ltN rfl) rfl ?_
    refine J.op (ot_eqt (T' := tV encP (Pol.mk (0) (Z.mk (false) ([])) ([]))) (ot_build (Ts := [tIs (.int .i64 (0)), tIs (.bool (false)), tSl encD ([]), tSl encP ([])]) pl28 (fun _ => ⟨rfl, rfl, rfl, rfl, slP_nil _ _, rfl, slP_nil _ _, rfl, trivial⟩) (.nil) rfl) (tV_F' (polT_eq _))) rfl (ltN rfl) rfl ?_
    refine J.op (ot_call fn28 (intOf_c 1 (by omega)) (.cons .is .nil)) rfl (ltN rfl) rfl ?_
    refine J.op (ot_eqt (T' := tV encP (Pol.mk (0) (ofI 1) ([]))) (ot_build (Ts := [tIs (.int .i64 (0)), tIs (.bool (false)), tSl encD ([]), tSl encP ([])]) pl28 (fun _ => ⟨rfl, rfl, rfl, rfl, slP_nil _ _, rfl, slP_nil _ _, rfl, trivial⟩) ((.agg (off := 1) rfl (.eq (.tmp rfl) (tV_F (Ts := [tIs (.bool ((ofI 1).neg)), tSl encD ((ofI 1).abs)]) rfl)) (Ts' := [tIs (.int .i64 (0)), tIs (.bool ((ofI 1).neg)), tSl encD ((ofI 1).abs), tSl encP ([])]) rfl rfl .nil)) rfl) (tV_F' (polT_eq _))) rfl (ltN rfl) rfl ?_
    refine J.op (ot_buildSlice (E := encP) (zs := [Pol.mk (0) (Z.mk (false) ([])) ([]), Pol.mk (0) (ofI 1) ([])]) sl26 (.cons (.tmp rfl) (.cons (.tmp rfl) .nil)) rfl zr28 rfl (by decide) (by decide)) rfl (ltN rfl) rfl ?_
    refine J.op (ot_eqt (T' := tV encP (Pol.mk (l) (Z.mk (false) ([])) ([Pol.mk (0) (Z.mk (false) ([])) ([]), Pol.mk (0) (ofI 1) ([])]))) (ot_build (Ts := [tIs (.int .i64 (0)), tIs (.bool (false)), tSl encD ([]), tSl encP ([])]) pl28 (fun _ => ⟨rfl, rfl, rfl, rfl, slP_nil _ _, rfl, slP_nil _ _, rfl, trivial⟩) ((.one (off := 0) rfl (.tmp rfl) (one_is rfl rfl) (Ts' := [tIs (.int .i64 (l)), tIs (.bool (false)), tSl encD ([]), tSl encP ([])]) rfl rfl (.one (off := 3) rfl (.tmp rfl) (one_sl) (Ts' := [tIs (.int .i64 (l)), tIs (.bool (false)), tSl encD ([]), tSl encP ([Pol.mk (0) (Z.mk (false) ([])) ([]), Pol.mk (0) (ofI 1) ([])])]) rfl rfl .nil))) rfl) (tV_F' (polT_eq _))) rfl (ltN rfl) rfl ?_
    refine J.store (.tmp rfl) (.eq (.tmp rfl) (tV_F (Ts := [tIs (.int .i64 (l)), tIs (.bool (false)), tSl encD ([]), tSl encP ([Pol.mk (0) (Z.mk (false) ([])) ([]), Pol.mk (0) (ofI 1) ([])])]) (polT_eq _))) .here sz28 (st_agg (Ts' := [tIs (.int .i64 (l)), tIs (.bool (false)), tSl encD ([]), tSl encP ([Pol.mk (0) (Z.mk (false) ([])) ([]), Pol.mk (0) (ofI 1) ([])])]) (o := 0) rfl) ?_
    refine J.nil ?_
    refine JQ.then_normal ?_
    refine JC.ret ?_
    -- ret1
    exact JQ.ret1 rfl (.agg (.tmp rfl) (.head _) ag28 (agg_eq (T := tV encP (Pol.mk (l) (Z.mk (false) ([])) ([Pol.mk (0) (Z.mk (false) ([])) ([]), Pol.mk (0) (ofI 1) ([])]))) (T' := tV encP (varP l)) (by rw [varP, if_neg (by omega)]; rfl) (cTs_ldV (g := polT) (y := (Pol.mk (l) (Z.mk (false) ([])) ([Pol.mk (0) (Z.mk (false) ([])) ([]), Pol.mk (0) (ofI 1) ([])]))) (polT_eq (Pol.mk (l) (Z.mk (false) ([])) ([Pol.mk (0) (Z.mk (false) ([])) ([]), Pol.mk (0) (ofI 1) ([])]))).symm rfl)))

theorem rneg_c {B : Nat} (p : Pol) (hf : Fit B p) (hb : B ≤ 1000000000000) (hn : p.lv ≤ 0 ∨ 4 < p.lv ∨ canonB p 5 = true) : Ctr Try.prog 18 [tV encP (p)] (tV encP (scaleP (normC p) (-1))) := by
  refine Ctr.of Try.func18 rfl Try.ntmps18 (Nat.le_of_ble_eq_true rfl) fun w0 M0 => ?_
  refine JC.seq ?_
  refine JC.region ?_
  refine J.boxF (Ts := [tIs (.int .i64 (p.lv)), tIs (.bool (p.c.neg)), tSl encD (p.c.abs), tSl encP (p.cs)]) (.tmp rfl) (polT_eq _) (ltN rfl) fun b1 => ?_
  refine J.alloc (R := cTs [tIs (.int .i64 (0)), tIs (.bool (false)), tSl encD ([]), tSl encP ([])]) zr28 (fun _ => ⟨rfl, rfl, rfl, rfl, slP_nil _ _, rfl, slP_nil _ _, rfl, trivial⟩) (ltN rfl) fun b2 => ?_
  refine J.nil ?_
  refine JQ.then_normal ?_
  refine JC.seq ?_
  refine JC.region ?_
  refine J.op (ot_load_own_agg (.tmp rfl) (.tail _ (.head _)) ag28 (cTs_ldV (g := polT) (y := p) (polT_eq p).symm rfl)) rfl (ltN rfl) rfl ?_
  refine J.op (ot_call fn29 (rnormal_c p (by assumption) (by assumption) (by assumption)) (.cons (.tmp rfl) .nil)) rfl (ltN rfl) rfl ?_
  refine J.op (ot_call fn28 (intOf_c (-1) (by omega)) (.cons .is .nil)) rfl (ltN rfl) rfl ?_
  refine J.op (ot_eqt (T' := tV encP (scaleP (normC p) (-1))) (ot_call fn36 (scale_c (normC p) (ofI (-1)) (normC_fit hf) (digs_dig _) (by rw [ofIm1_len]; omega)) (.cons (.tmp rfl) (.cons (.tmp rfl) .nil))) ((by rw [zval_ofI]))) rfl (ltN rfl) rfl ?_
  refine J.store (.tmp rfl) (.eq (.tmp rfl) (tV_F (Ts := [tIs (.int .i64 ((scaleP (normC p) (-1)).lv)), tIs (.bool (((scaleP (normC p) (-1)).c).neg)), tSl encD (((scaleP (normC p) (-1)).c).abs), tSl encP ((scaleP (normC p) (-1)).cs)]) (polT_eq _))) .here sz28 (st_agg (Ts' := [tIs (.int .i64 ((scaleP (normC p) (-1)).lv)), tIs (.bool (((scaleP (normC p) (-1)).c).neg)), tSl encD (((scaleP (normC p) (-1)).c).abs), tSl encP ((scaleP (normC p) (-1)).cs)]) (o := 0) rfl) ?_
  refine J.nil ?_
  refine JQ.then_normal ?_
  refine JC.ret ?_
  -- ret0
  exact JQ.ret1 rfl (.agg (.tmp rfl) (.head _) ag28 (cTs_ldV (g := polT) (y := (scaleP (normC p) (-1))) (polT_eq (scaleP (normC p) (-1))).symm rfl))

theorem sum_c (f : Pol → Pol → Pol) (xs ys : List Pol) (hadd : ∀ x ∈ xs, ∀ y ∈ ys, Ctr Try.prog 46 [tV encP (x), tV encP (y)] (tV encP (f x y))) (hx : 0 < xs.length ∧ xs.length ≤ 4294967296) (hy : ys.length ≤ 4294967296) : Ctr Try.prog 64 [tSl (encSl encP) ([xs, ys])] (tSl encP (zipP f xs ys)) := by
  have hl2 : ([xs, ys] : List (List Pol)).length = 2 := rfl
  refine Ctr.of Try.func64 rfl Try.ntmps64 (Nat.le_of_ble_eq_true rfl) fun w0 M0 => ?_
  refine JC.seq ?_
  refine JC.region ?_
  refine J.op (ot_assign (.nil (E := encP))) rfl (ltN rfl) rfl ?_
  refine J.nil ?_
  refine JQ.then_normal ?_
  refine JC.seq ?_
  refine JC.region ?_
  refine J.op (ot_assign .is) rfl (ltN rfl) rfl ?_
  refine J.nil ?_
  refine JQ.then_normal ?_
  refine JC.seq ?_
  refine JC.seq ?_
  refine JC.region ?_
  refine J.op (ot_move (.tmp rfl)) rfl (ltN rfl) rfl ?_
  refine J.op (ot_len (.tmp rfl) sl112 rfl) rfl (ltN rfl) rfl ?_
  refine J.op (ot_move .is) rfl (ltN rfl) rfl ?_
  refine J.nil ?_
  refine JQ.then_normal ?_
  refine JC.block ?_
  refine JC.peel4 (α := Nat) (β := List Pol) (γ := Nat) (δ := Nat) (fun j O b c => [(2, tSl encP ([])), (3, sIs b 0 (O.length) (c)), (8, tSl (encSl encP) ([xs, ys])), (9, tIs (.int .i64 ((([xs, ys]).length : Int)))), (10, tIs (.int .i64 (((j : Nat) : Int))))]) (fun j O b c => [⟨b, 28, cRow encP (O) (c)⟩]) (fun j O b c => (j = 1 ∧ O = xs) ∨ (j = 2 ∧ O = zipP f xs ys)) (fun j O b c => 2 - j) 2 ?first0 ?round0
  case first0 =>
    refine JC.seq ?_
    refine JC.region ?_
    refine J.op (ot_lss (.tmp rfl) (.tmp rfl)) rfl (ltN rfl) rfl ?_
    refine J.nil ?_
    refine JQ.then_normal ?_
    refine JC.seq ?_
    refine JC.cond_true (.eq (.tmp rfl) (by rfl)) ?_
    refine JC.skip ?_
    refine JQ.then_normal ?_
    refine JC.seq ?_
    refine JC.block ?_
    refine JC.seq ?_
    refine JC.region ?_
    refine J.op (ot_index (z := xs) (.tmp rfl) (.tmp rfl) sl112 (by omega) (two_at0 (by omega))) rfl (ltN rfl) rfl ?_
    refine J.op (ot_load (.tmp rfl) sc26 encSl_ld) rfl (ltN rfl) rfl ?_
    refine J.op (ot_assign (.tmp rfl)) rfl (ltN rfl) rfl ?_
    refine J.nil ?_
    refine JQ.then_normal ?_
    refine JC.seq ?_
    refine JC.region ?_
    refine J.op (ot_move (.tmp rfl)) rfl (ltN rfl) rfl ?_
    refine J.op (ot_len (.tmp rfl) sl26 rfl) rfl (ltN rfl) rfl ?_
    refine J.op (ot_move .is) rfl (ltN rfl) rfl ?_
    refine J.nil ?_
    refine JQ.then_normal ?_
    refine JC.block ?_
    refine JC.peel3 (α := Nat) (β := Nat) (γ := Nat) (fun k b c => [(2, tSl encP ([])), (3, sIs b 0 (k) (c)), (5, tSl encP (xs)), (8, tSl (encSl encP) ([xs, ys])), (9, tIs (.int .i64 ((([xs, ys]).length : Int)))), (10, tIs (.int .i64 (0))), (11, tIs (.bool (decide (0 < (([xs, ys]).length : Int))))), (12, tPtr (cEnc (encSl encP) (xs))), (13, tSl encP (xs)), (14, tSl encP (xs)), (15, tIs (.int .i64 (((xs).length : Int)))), (16, tIs (.int .i64 (((k : Nat) : Int))))]) (fun k b c => [⟨b, 28, cRow encP (xs.take k) (c)⟩]) (fun k b c => 1 ≤ k ∧ k ≤ xs.length) (fun k b c => xs.length - k) xs.length ?first1 ?round1
    case first1 =>
      refine JC.seq ?_
      refine JC.region ?_
      refine J.op (ot_lss (.tmp rfl) (.tmp rfl)) rfl (ltN rfl) rfl ?_
      refine J.nil ?_
      refine JQ.then_normal ?_
      refine JC.seq ?_
      refine JC.cond_true (.eq (.tmp rfl) (by rw [decide_eq_true (by omega)])) ?_
      refine JC.skip ?_
      refine JQ.then_normal ?_
      refine JC.seq ?_
      refine JC.block ?_
      refine JC.seq ?_
      refine JC.region ?_
      refine J.op (ot_move (.tmp rfl)) rfl (ltN rfl) rfl ?_
      refine J.op (ot_index (z := atP xs 0) (.tmp rfl) (.tmp rfl) sl26 (by omega) (atP_at (by omega) (by omega))) rfl (ltN rfl) rfl ?_
      refine J.op (ot_load_agg (.tmp rfl) ag28 ldp_whole) rfl (ltN rfl) rfl ?_
      refine J.alloc (R := cTs [tIs (.int .i64 (0)), tIs (.bool (false)), tSl encD ([]), tSl encP ([])]) zr28 (fun _ => ⟨rfl, rfl, rfl, rfl, slP_nil _ _, rfl, slP_nil _ _, rfl, trivial⟩) (ltN rfl) fun b7 => ?_
      refine J.op (ot_assign (.tmp rfl)) rfl (ltN rfl) rfl ?_
      refine J.store (.tmp rfl) (.eq (.tmp rfl) (tV_F (Ts := [tIs (.int .i64 ((atP xs 0).lv)), tIs (.bool (((atP xs 0).c).neg)), tSl encD (((atP xs 0).c).abs), tSl encP ((atP xs 0).cs)]) (polT_eq _))) .here sz28 (st_agg (Ts' := [tIs (.int .i64 ((atP xs 0).lv)), tIs (.bool (((atP xs 0).c).neg)), tSl encD (((atP xs 0).c).abs), tSl encP ((atP xs 0).cs)]) (o := 0) rfl) ?_
      refine J.nil ?_
      refine JQ.then_normal ?_
      refine JC.seq ?_
      refine JC.region ?_
      refine J.op (ot_move (.tmp rfl)) rfl (ltN rfl) rfl ?_
      refine J.op (ot_move (.tmp rfl)) rfl (ltN rfl) rfl ?_
      refine J.op (ot_len_nil (.tmp rfl) sl26 rfl) rfl (ltN rfl) rfl ?_
      refine J.op (ot_lss (.tmp rfl) (.tmp rfl)) rfl (ltN rfl) rfl ?_
      refine J.nil ?_
      refine JQ.then_normal ?_
      refine JC.cond_false (.eq (.tmp rfl) (by rfl)) ?_
      refine JC.region ?_
      refine J.op (ot_move (.tmp rfl)) rfl (ltN rfl) rfl ?_
      refine J.op (ot_load_own_agg (.tmp rfl) (.head _) ag28 (cTs_ldV (g := polT) (y := (atP xs 0)) (polT_eq (atP xs 0)).symm rfl)) rfl (ltN rfl) rfl ?_
      refine J.op (ot_buildSlice (E := encP) (zs := [atP xs 0]) sl26 (.cons (.tmp rfl) .nil) rfl zr28 rfl (by decide) (by decide)) rfl (ltN rfl) rfl ?_
      refine J.append0 (E := encP) (ys := [atP xs 0]) (.sub (.tmp rfl) nil_z) (.tmp rfl) (by simp) sl26 rfl zr28 rfl (by simp <;> omega) (by simp <;> omega) (ltN rfl) fun b37 c37 => ?_
      refine J.op (ot_assign (.tmp rfl)) rfl (ltN rfl) rfl ?_
      refine J.nil ?_
      refine JQ.block_normal ?_
      refine JQ.then_normal ?_
      refine JC.region ?_
      refine J.op (ot_add (.tmp rfl) .is (w64 (by omega) (by omega))) rfl (ltN rfl) rfl ?_
      refine J.op (ot_move (.tmp rfl)) rfl (ltN rfl) rfl ?_
      refine J.nil ?_
      exact JQ.first3 1 b37 c37 ⟨by omega, by omega⟩ (by omega) (sub_trans (sub_heap (.keep (cRow_eq (takeP_one (by omega))) (.drop .nil))) (sub_cons (.tmp rfl) (sub_cons (.eq (.tmp rfl) (by first | rfl | (congr 3; omega) | (congr 2; omega))) (sub_cons (.tmp rfl) (sub_cons (.tmp rfl) (sub_cons (.tmp rfl) (sub_cons (.tmp rfl) (sub_cons (.tmp rfl) (sub_cons (.tmp rfl) (sub_cons (.tmp rfl) (sub_cons (.tmp rfl) (sub_cons (.tmp rfl) (sub_cons (.eq (.tmp rfl) (by first | rfl | (congr 3; omega) | (congr 2; omega))) (sub_nil))))))))))))))
    intro k b c hinv
    refine JC.seq ?_
    refine JC.region ?_
    refine J.op (ot_lss (.tmp rfl) (.tmp rfl)) rfl (ltN rfl) rfl ?_
    refine J.nil ?_
    refine JQ.then_normal ?_
    refine JC.seq ?_
    -- cond3: tIs (.bool (decide (((k : Nat) : Int) < ((xs).length : Int))))
    refine JC.cond (.tmp rfl) (fun hc3 => ?_) (fun hc3 => ?_)
    · try simp only [Bool.and_eq_true, Bool.or_eq_true, Bool.not_eq_true', Bool.not_eq_false', Bool.and_eq_false_iff, Bool.or_eq_false_iff, Bool.not_true, Bool.not_false, decide_eq_true_eq, decide_eq_false_iff_not, beq_iff_eq, beq_eq_false_iff_ne, Bool.not_eq_eq_eq_not] at hc3
      have hs17 := hc3
      refine JC.skip ?_
      refine JQ.then_normal ?_
      refine JC.seq ?_
      refine JC.block ?_
      refine JC.seq ?_
      refine JC.region ?_
      refine J.op (ot_move (.tmp rfl)) rfl (ltN rfl) rfl ?_
      refine J.op (ot_index (z := atP xs k) (.tmp rfl) (.tmp rfl) sl26 (by omega) (atP_at (by omega) (by omega))) rfl (ltN rfl) rfl ?_
      refine J.op (ot_load_agg (.tmp rfl) ag28 ldp_whole) rfl (ltN rfl) rfl ?_
      refine J.alloc (R := cTs [tIs (.int .i64 (0)), tIs (.bool (false)), tSl encD ([]), tSl encP ([])]) zr28 (fun _ => ⟨rfl, rfl, rfl, rfl, slP_nil _ _, rfl, slP_nil _ _, rfl, trivial⟩) (ltN rfl) fun b7 => ?_
      refine J.op (ot_assign (.tmp rfl)) rfl (ltN rfl) rfl ?_
      refine J.store (.tmp rfl) (.eq (.tmp rfl) (tV_F (Ts := [tIs (.int .i64 ((atP xs k).lv)), tIs (.bool (((atP xs k).c).neg)), tSl encD (((atP xs k).c).abs), tSl encP ((atP xs k).cs)]) (polT_eq _))) .here sz28 (st_agg (Ts' := [tIs (.int .i64 ((atP xs k).lv)), tIs (.bool (((atP xs k).c).neg)), tSl encD (((atP xs k).c).abs), tSl encP ((atP xs k).cs)]) (o := 0) rfl) ?_
      refine J.nil ?_
      refine JQ.then_normal ?_
      refine JC.seq ?_
      refine JC.region ?_
      refine J.op (ot_move (.tmp rfl)) rfl (ltN rfl) rfl ?_
      refine J.op (ot_move (.tmp rfl)) rfl (ltN rfl) rfl ?_
      refine J.op (ot_len_own (.tmp rfl) sl26 rfl) rfl (ltN rfl) rfl ?_
      refine J.op (ot_lss (.tmp rfl) (.tmp rfl)) rfl (ltN rfl) rfl ?_
      refine J.nil ?_
      refine JQ.then_normal ?_
      refine JC.cond_false (.eq (.tmp rfl) (by rw [decide_eq_false (by omega)])) ?_
      refine JC.region ?_
      refine J.op (ot_move (.tmp rfl)) rfl (ltN rfl) rfl ?_
      refine J.op (ot_load_own_agg (.tmp rfl) (.head _) ag28 (cTs_ldV (g := polT) (y := (atP xs k)) (polT_eq (atP xs k)).symm rfl)) rfl (ltN rfl) rfl ?_
      refine J.op (ot_buildSlice (E := encP) (zs := [atP xs k]) sl26 (.cons (.tmp rfl) .nil) rfl zr28 rfl (by decide) (by decide)) rfl (ltN rfl) rfl ?_
      refine J.append (E := encP) (xs := xs.take k) (ys := [atP xs k]) (.tmp rfl) (by simp <;> omega) (.tmp rfl) sl26 rfl zr28 rfl (.there .here) (by simp <;> omega) (by simp <;> omega) (ltN rfl) fun b37 c37 => ?_
      refine J.op (ot_assign (.tmp rfl)) rfl (ltN rfl) rfl ?_
      refine J.nil ?_
      refine JQ.block_normal ?_
      refine JQ.then_normal ?_
      refine JC.region ?_
      refine J.op (ot_add (.tmp rfl) .is (w64 (by omega) (by omega))) rfl (ltN rfl) rfl ?_
      refine J.op (ot_move (.tmp rfl)) rfl (ltN rfl) rfl ?_
      refine J.nil ?_
      exact JQ.round3 (i := k) (i2 := b) (i3 := c) (k + 1) b37 c37 ⟨by omega, by omega⟩ (by omega) (sub_trans (sub_heap (.keep (cRow_eq (takeP_snoc (by omega))) (.drop .nil))) (sub_cons (.tmp rfl) (sub_cons (.eq (.tmp rfl) (by congr 1; simp; omega)) (sub_cons (.tmp rfl) (sub_cons (.tmp rfl) (sub_cons (.tmp rfl) (sub_cons (.tmp rfl) (sub_cons (.tmp rfl) (sub_cons (.tmp rfl) (sub_cons (.tmp rfl) (sub_cons (.tmp rfl) (sub_cons (.tmp rfl) (sub_cons (.eq (.tmp rfl) (by first | rfl | (congr 3; omega) | (congr 2; omega))) (sub_nil))))))))))))))
    · try simp only [Bool.and_eq_true, Bool.or_eq_true, Bool.not_eq_true', Bool.not_eq_false', Bool.and_eq_false_iff, Bool.or_eq_false_iff, Bool.not_true, Bool.not_false, decide_eq_true_eq, decide_eq_false_iff_not, beq_iff_eq, beq_eq_false_iff_ne, Bool.not_eq_eq_eq_not] at hc3
      have hs17 := hc3
      refine JC.exit ?_
      refine JQ.then_exit ?_
      refine JQ.then_exit ?_
      refine JQ.block_exit ?_
      refine JQ.block_normal ?_
      refine JQ.then_normal ?_
      refine JC.region ?_
      refine J.op (ot_add (.tmp rfl) .is (w64 (by omega) (by omega))) rfl (ltN rfl) rfl ?_
      refine J.op (ot_move (.tmp rfl)) rfl (ltN rfl) rfl ?_
      refine J.nil ?_
      exact JQ.first4 1 xs b c (.inl ⟨rfl, rfl⟩) (by omega) (sub_trans (sub_heap (.keep (cRow_eq (List.take_of_length_le (by omega))) .nil)) (sub_cons (.tmp rfl) (sub_cons (.eq (.tmp rfl) (by first | rfl | (congr 3; omega) | (congr 2; omega))) (sub_cons (.tmp rfl) (sub_cons (.tmp rfl) (sub_cons (.eq (.tmp rfl) (by first | rfl | (congr 3; omega) | (congr 2; omega))) (sub_nil)))))))
  intro j O b c hinv
  refine JC.seq ?_
  refine JC.region ?_
  refine J.op (ot_lss (.tmp rfl) (.tmp rfl)) rfl (ltN rfl) rfl ?_
  refine J.nil ?_
  refine JQ.then_normal ?_
  refine JC.seq ?_
  -- cond5: tIs (.bool (decide (((j : Nat) : Int) < (([xs, ys]).length : Int))))
  refine JC.cond (.tmp rfl) (fun hc5 => ?_) (fun hc5 => ?_)
  · try simp only [Bool.and_eq_true, Bool.or_eq_true, Bool.not_eq_true', Bool.not_eq_false', Bool.and_eq_false_iff, Bool.or_eq_false_iff, Bool.not_true, Bool.not_false, decide_eq_true_eq, decide_eq_false_iff_not, beq_iff_eq, beq_eq_false_iff_ne, Bool.not_eq_eq_eq_not] at hc5
    have hs11 := hc5
    have hO : O = xs := by rcases hinv with h | h; exact h.2; exact absurd h.1 (by omega)
    refine JC.skip ?_
    refine JQ.then_normal ?_
    refine JC.seq ?_
    refine JC.block ?_
    refine JC.seq ?_
    refine JC.region ?_
    refine J.op (ot_index (z := ys) (.tmp rfl) (.tmp rfl) sl112 (by omega) (two_at1 (by omega))) rfl (ltN rfl) rfl ?_
    refine J.op (ot_load (.tmp rfl) sc26 encSl_ld) rfl (ltN rfl) rfl ?_
    refine J.op (ot_assign (.tmp rfl)) rfl (ltN rfl) rfl ?_
    refine J.nil ?_
    refine JQ.then_normal ?_
    refine JC.seq ?_
    refine JC.region ?_
    refine J.op (ot_move (.tmp rfl)) rfl (ltN rfl) rfl ?_
    refine J.op (ot_len (.tmp rfl) sl26 rfl) rfl (ltN rfl) rfl ?_
    refine J.op (ot_move .is) rfl (ltN rfl) rfl ?_
    refine J.nil ?_
    refine JQ.then_normal ?_
    refine JC.block ?_
    refine JC.loop3 (α := Nat) (β := Nat) (γ := Nat) (fun k b c => [(2, tSl encP ([])), (3, sIs b 0 ((zipP f xs (ys.take k)).length) (c)), (5, tSl encP (ys)), (8, tSl (encSl encP) ([xs, ys])), (9, tIs (.int .i64 ((([xs, ys]).length : Int)))), (10, tIs (.int .i64 (((j : Nat) : Int)))), (11, tIs (.bool (decide (((j : Nat) : Int) < (([xs, ys]).length : Int))))), (12, tPtr (cEnc (encSl encP) (ys))), (13, tSl encP (ys)), (14, tSl encP (ys)), (15, tIs (.int .i64 (((ys).length : Int)))), (16, tIs (.int .i64 (((k : Nat) : Int))))]) (fun k b c => [⟨b, 28, cRow encP (zipP f xs (ys.take k)) (c)⟩]) (fun k b c => k ≤ ys.length) (fun k b c => ys.length - k) 0 b c (by omega) ?lsub2 ?round2
    case lsub2 => exact sub_trans (sub_heap (.keep (cRow_eq (by rw [hO]; simp [zipP_nil])) .nil)) (sub_cons (.tmp rfl) (sub_cons (.eq (.tmp rfl) (by rw [hO]; simp [zipP_nil])) (sub_cons (.tmp rfl) (sub_cons (.tmp rfl) (sub_cons (.tmp rfl) (sub_cons (.tmp rfl) (sub_cons (.tmp rfl) (sub_cons (.tmp rfl) (sub_cons (.tmp rfl) (sub_cons (.tmp rfl) (sub_cons (.tmp rfl) (sub_cons (.eq (.tmp rfl) (by first | rfl | (congr 3; omega) | (congr 2; omega))) (sub_nil)))))))))))))
    intro k b c hinv
    have hzl := zipP_l3 (f := f) (xs := xs) k hinv
    refine JC.seq ?_
    refine JC.region ?_
    refine J.op (ot_lss (.tmp rfl) (.tmp rfl)) rfl (ltN rfl) rfl ?_
    refine J.nil ?_
    refine JQ.then_normal ?_
    refine JC.seq ?_
    -- cond6: tIs (.bool (decide (((k : Nat) : Int) < ((ys).length : Int))))
    refine JC.cond (.tmp rfl) (fun hc6 => ?_) (fun hc6 => ?_)
    · try simp only [Bool.and_eq_true, Bool.or_eq_true, Bool.not_eq_true', Bool.not_eq_false', Bool.and_eq_false_iff, Bool.or_eq_false_iff, Bool.not_true, Bool.not_false, decide_eq_true_eq, decide_eq_false_iff_not, beq_iff_eq, beq_eq_false_iff_ne, Bool.not_eq_eq_eq_not] at hc6
      have hs17 := hc6
      refine JC.skip ?_
      refine JQ.then_normal ?_
      refine JC.seq ?_
      refine JC.block ?_
      refine JC.seq ?_
      refine JC.region ?_
      refine J.op (ot_move (.tmp rfl)) rfl (ltN rfl) rfl ?_
      refine J.op (ot_index (z := atP ys k) (.tmp rfl) (.tmp rfl) sl26 (by omega) (atP_at (by omega) (by omega))) rfl (ltN rfl) rfl ?_
      refine J.op (ot_load_agg (.tmp rfl) ag28 ldp_whole) rfl (ltN rfl) rfl ?_
      refine J.alloc (R := cTs [tIs (.int .i64 (0)), tIs (.bool (false)), tSl encD ([]), tSl encP ([])]) zr28 (fun _ => ⟨rfl, rfl, rfl, rfl, slP_nil _ _, rfl, slP_nil _ _, rfl, trivial⟩) (ltN rfl) fun b7 => ?_
      refine J.op (ot_assign (.tmp rfl)) rfl (ltN rfl) rfl ?_
      refine J.store (.tmp rfl) (.eq (.tmp rfl) (tV_F (Ts := [tIs (.int .i64 ((atP ys k).lv)), tIs (.bool (((atP ys k).c).neg)), tSl encD (((atP ys k).c).abs), tSl encP ((atP ys k).cs)]) (polT_eq _))) .here sz28 (st_agg (Ts' := [tIs (.int .i64 ((atP ys k).lv)), tIs (.bool (((atP ys k).c).neg)), tSl encD (((atP ys k).c).abs), tSl encP ((atP ys k).cs)]) (o := 0) rfl) ?_
      refine J.nil ?_
      refine JQ.then_normal ?_
      refine JC.seq ?_
      refine JC.region ?_
      refine J.op (ot_move (.tmp rfl)) rfl (ltN rfl) rfl ?_
      refine J.op (ot_move (.tmp rfl)) rfl (ltN rfl) rfl ?_
      refine J.op (ot_len_own (.tmp rfl) sl26 rfl) rfl (ltN rfl) rfl ?_
      refine J.op (ot_lss (.tmp rfl) (.tmp rfl)) rfl (ltN rfl) rfl ?_
      refine J.nil ?_
      refine JQ.then_normal ?_
      -- cond7: tIs (.bool (decide (((k : Nat) : Int) < (((zipP f xs (ys.take k)).length : Nat) : Int))))
      refine JC.cond (.tmp rfl) (fun hc7 => ?_) (fun hc7 => ?_)
      · try simp only [Bool.and_eq_true, Bool.or_eq_true, Bool.not_eq_true', Bool.not_eq_false', Bool.and_eq_false_iff, Bool.or_eq_false_iff, Bool.not_true, Bool.not_false, decide_eq_true_eq, decide_eq_false_iff_not, beq_iff_eq, beq_eq_false_iff_ne, Bool.not_eq_eq_eq_not] at hc7
        have hs24 := hc7
        refine JC.drawAt (Γ' := ?g1) 9 mo (by kernel_rfl) ?tw1 ?k1
        case tw1 =>
          refine TW.op (ot_move (.tmp rfl)) rfl (ltN rfl) rfl ?_
          refine TW.op (ot_move (.tmp rfl)) rfl (ltN rfl) rfl ?_
          refine TW.op (ot_move (.tmp rfl)) rfl (ltN rfl) rfl ?_
          refine TW.op (ot_move (.tmp rfl)) rfl (ltN rfl) rfl ?_
          refine TW.op (ot_eqt (T' := pOwn b (0 + k * 4)) (ot_index_own (.tmp rfl) (.tmp rfl) sl26 (by omega) (by omega)) (own_off2 (by omega))) rfl (ltN rfl) rfl ?_
          refine TW.op (ot_load_own_agg (.tmp rfl) (.tail _ (.head _)) ag28 (row_agg rfl (zipP_el (by omega) (by omega)))) rfl (ltN rfl) rfl ?_
          refine TW.op (ot_load_own_agg (.tmp rfl) (.head _) ag28 (cTs_ldV (g := polT) (y := (atP ys k)) (polT_eq (atP ys k)).symm rfl)) rfl (ltN rfl) rfl ?_
          refine TW.op (ot_call fn46 (hadd (atP xs k) (atP_mem (by omega)) (atP ys k) (atP_mem (by omega)) ) (.cons (.tmp rfl) (.cons (.tmp rfl) .nil))) rfl (ltN rfl) rfl ?_
          refine TW.op (ot_eqt (T' := pOwn b (0 + k * 4)) (ot_index_own (.tmp rfl) (.tmp rfl) sl26 (by omega) (by omega)) (own_off2 (by omega))) rfl (ltN rfl) rfl ?_
          exact TW.nil
        refine J.store (.tmp rfl) (.tmp rfl) (.there .here) sz28 (row_set (by omega)) ?_
        refine J.nil ?_
        refine JQ.block_normal ?_
        refine JQ.then_normal ?_
        refine JC.region ?_
        refine J.op (ot_add (.tmp rfl) .is (w64 (by omega) (by omega))) rfl (ltN rfl) rfl ?_
        refine J.op (ot_move (.tmp rfl)) rfl (ltN rfl) rfl ?_
        refine J.nil ?_
        have hzl1 := zipP_l3 (f := f) (xs := xs) (ys := ys) (k + 1) (by omega)
        exact JQ.round3 (i := k) (i2 := b) (i3 := c) (k + 1) b c (by omega) (by omega) (sub_trans (sub_heap (.drop (.keep (cRow_eq (zipP_set f k xs ys (by omega) (by omega))) .nil))) (sub_cons (.tmp rfl) (sub_cons (.eq (.tmp rfl) (by congr 1; omega)) (sub_cons (.tmp rfl) (sub_cons (.tmp rfl) (sub_cons (.tmp rfl) (sub_cons (.tmp rfl) (sub_cons (.tmp rfl) (sub_cons (.tmp rfl) (sub_cons (.tmp rfl) (sub_cons (.tmp rfl) (sub_cons (.tmp rfl) (sub_cons (.eq (.tmp rfl) (by first | rfl | (congr 3; omega) | (congr 2; omega))) (sub_nil))))))))))))))
      · try simp only [Bool.and_eq_true, Bool.or_eq_true, Bool.not_eq_true', Bool.not_eq_false', Bool.and_eq_false_iff, Bool.or_eq_false_iff, Bool.not_true, Bool.not_false, decide_eq_true_eq, decide_eq_false_iff_not, beq_iff_eq, beq_eq_false_iff_ne, Bool.not_eq_eq_eq_not] at hc7
        have hs24 := hc7
        refine JC.region ?_
        refine J.op (ot_move (.tmp rfl)) rfl (ltN rfl) rfl ?_
        refine J.op (ot_load_own_agg (.tmp rfl) (.head _) ag28 (cTs_ldV (g := polT) (y := (atP ys k)) (polT_eq (atP ys k)).symm rfl)) rfl (ltN rfl) rfl ?_
        refine J.op (ot_buildSlice (E := encP) (zs := [atP ys k]) sl26 (.cons (.tmp rfl) .nil) rfl zr28 rfl (by decide) (by decide)) rfl (ltN rfl) rfl ?_
        refine J.append (E := encP) (xs := zipP f xs (ys.take k)) (ys := [atP ys k]) (.tmp rfl) rfl (.tmp rfl) sl26 rfl zr28 rfl (.there .here) (by simp <;> omega) (by simp <;> omega) (ltN rfl) fun b37 c37 => ?_
        refine J.op (ot_assign (.tmp rfl)) rfl (ltN rfl) rfl ?_
        refine J.nil ?_
        refine JQ.block_normal ?_
        refine JQ.then_normal ?_
        refine JC.region ?_
        refine J.op (ot_add (.tmp rfl) .is (w64 (by omega) (by omega))) rfl (ltN rfl) rfl ?_
        refine J.op (ot_move (.tmp rfl)) rfl (ltN rfl) rfl ?_
        refine J.nil ?_
        have hzl1 := zipP_l3 (f := f) (xs := xs) (ys := ys) (k + 1) (by omega)
        exact JQ.round3 (i := k) (i2 := b) (i3 := c) (k + 1) b37 c37 (by omega) (by omega) (sub_trans (sub_heap (.keep (cRow_eq (zipP_snoc f k xs ys (by omega) (by omega))) (.drop .nil))) (sub_cons (.tmp rfl) (sub_cons (.eq (.tmp rfl) (by congr 1; simp; omega)) (sub_cons (.tmp rfl) (sub_cons (.tmp rfl) (sub_cons (.tmp rfl) (sub_cons (.tmp rfl) (sub_cons (.tmp rfl) (sub_cons (.tmp rfl) (sub_cons (.tmp rfl) (sub_cons (.tmp rfl) (sub_cons (.tmp rfl) (sub_cons (.eq (.tmp rfl) (by first | rfl | (congr 3; omega) | (congr 2; omega))) (sub_nil))))))))))))))
    · try simp only [Bool.and_eq_true, Bool.or_eq_true, Bool.not_eq_true', Bool.not_eq_false', Bool.and_eq_false_iff, Bool.or_eq_false_iff, Bool.not_true, Bool.not_false, decide_eq_true_eq, decide_eq_false_iff_not, beq_iff_eq, beq_eq_false_iff_ne, Bool.not_eq_eq_eq_not] at hc6
      have hs17 := hc6
      refine JC.exit ?_
      refine JQ.then_exit ?_
      refine JQ.then_exit ?_
      refine JQ.block_exit ?_
      refine JQ.block_normal ?_
      refine JQ.then_normal ?_
      refine JC.region ?_
      refine J.op (ot_add (.tmp rfl) .is (w64 (by omega) (by omega))) rfl (ltN rfl) rfl ?_
      refine J.op (ot_move (.tmp rfl)) rfl (ltN rfl) rfl ?_
      refine J.nil ?_
      exact JQ.round4 (i := j) (i2 := O) (i3 := b) (i4 := c) 2 (zipP f xs ys) b c (.inr ⟨rfl, rfl⟩) (by omega) (sub_trans (sub_heap (.keep (cRow_eq (by rw [List.take_of_length_le (by omega)])) .nil)) (sub_cons (.tmp rfl) (sub_cons (.eq (.tmp rfl) (by rw [List.take_of_length_le (by omega)])) (sub_cons (.tmp rfl) (sub_cons (.tmp rfl) (sub_cons (.eq (.tmp rfl) (by first | rfl | (congr 3; omega) | (congr 2; omega))) (sub_nil)))))))
  · try simp only [Bool.and_eq_true, Bool.or_eq_true, Bool.not_eq_true', Bool.not_eq_false', Bool.and_eq_false_iff, Bool.or_eq_false_iff, Bool.not_true, Bool.not_false, decide_eq_true_eq, decide_eq_false_iff_not, beq_iff_eq, beq_eq_false_iff_ne, Bool.not_eq_eq_eq_not] at hc5
    have hs11 := hc5
    have hO : O = zipP f xs ys := by rcases hinv with h | h; exact absurd h.1 (by omega); exact h.2
    refine JC.exit ?_
    refine JQ.then_exit ?_
    refine JQ.then_exit ?_
    refine JQ.block_exit ?_
    refine JQ.then_normal ?_
    refine JC.seq ?_
    refine JC.weak (sub_freeze0 (E := encP) (xs := O) (n := O.length) (c := c) [3] ⟨rfl, trivial⟩ .here rfl (by omega)) ?_
    refine JC.region ?_
    refine J.op (ot_move (.tmp rfl)) rfl (ltN rfl) rfl ?_
    refine J.op (ot_assign (.tmp rfl)) rfl (ltN rfl) rfl ?_
    refine J.nil ?_
    refine JQ.then_normal ?_
    refine JC.ret ?_
    -- ret0
    exact JQ.ret1 rfl (.tmp (.eq (.tmp rfl) (by rw [hO])))

theorem add_c {B : Nat} (k : Nat) (p q : Pol) (lp : Lev k p) (lq : Lev k q) (hp : Fit B p) (hq : Fit B q) (hb : B ≤ 1000000000000) : Ctr Try.prog 46 [tV encP (p), tV encP (q)] (tV encP (addF k p q)) := by
  induction k using Nat.strongRecOn generalizing p q
  rename_i k ih
  have h1 := lp.lv
  have h2 := lq.lv
  have hpc := hp.c
  have hqc := hq.c
  have hps := hp.cs
  have hqs := hq.cs
  refine Ctr.of Try.func46 rfl Try.ntmps46 (Nat.le_of_ble_eq_true rfl) fun w0 M0 => ?_
  refine JC.seq ?_
  refine JC.region ?_
  refine J.boxF (Ts := [tIs (.int .i64 (p.lv)), tIs (.bool (p.c.neg)), tSl encD (p.c.abs), tSl encP (p.cs)]) (.tmp rfl) (polT_eq _) (ltN rfl) fun b2 => ?_
  refine J.boxF (Ts := [tIs (.int .i64 (q.lv)), tIs (.bool (q.c.neg)), tSl encD (q.c.abs), tSl encP (q.cs)]) (.tmp rfl) (polT_eq _) (ltN rfl) fun b3 => ?_
  refine J.alloc (R := cTs [tIs (.int .i64 (0)), tIs (.bool (false)), tSl encD ([]), tSl encP ([])]) zr28 (fun _ => ⟨rfl, rfl, rfl, rfl, slP_nil _ _, rfl, slP_nil _ _, rfl, trivial⟩) (ltN rfl) fun b4 => ?_
  refine J.nil ?_
  refine JQ.then_normal ?_
  refine JC.seq ?_
  refine JC.region ?_
  refine J.op (ot_fieldAddr_own (.tmp rfl) fd28_0) rfl (ltN rfl) rfl ?_
  refine J.op (ot_load_own (.tmp rfl) (.tail _ (.tail _ (.head _))) sc3 (cTs_ld rfl)) rfl (ltN rfl) rfl ?_
  refine J.op (ot_fieldAddr_own (.tmp rfl) fd28_0) rfl (ltN rfl) rfl ?_
  refine J.op (ot_load_own (.tmp rfl) (.tail _ (.head _)) sc3 (cTs_ld rfl)) rfl (ltN rfl) rfl ?_
  refine J.op (ot_max (.tmp rfl) (.tmp rfl)) rfl (ltN rfl) rfl ?_
  refine J.op (ot_assign (.tmp rfl)) rfl (ltN rfl) rfl ?_
  refine J.nil ?_
  refine JQ.then_normal ?_
  refine JC.seq ?_
  refine JC.seq ?_
  refine JC.region ?_
  refine J.op (ot_move (.tmp rfl)) rfl (ltN rfl) rfl ?_
  refine J.op (ot_eql (.tmp rfl) .is) rfl (ltN rfl) rfl ?_
  refine J.nil ?_
  refine JQ.then_normal ?_
  -- cond0: tIs (.bool (decide ((max (p.lv) (q.lv)) = 0)))
  refine JC.cond (.tmp rfl) (fun hc0 => ?_) (fun hc0 => ?_)
  · try simp only [Bool.and_eq_true, Bool.or_eq_true, Bool.not_eq_true', Bool.not_eq_false', Bool.and_eq_false_iff, Bool.or_eq_false_iff, Bool.not_true, Bool.not_false, decide_eq_true_eq, decide_eq_false_iff_not, beq_iff_eq, beq_eq_false_iff_ne, Bool.not_eq_eq_eq_not] at hc0
    have hs12 := hc0
    refine JC.seq ?_
    refine JC.region ?_
    refine J.op (ot_fieldAddr_own (.tmp rfl) fd28_1) rfl (ltN rfl) rfl ?_
    refine J.op (ot_load_own_agg (.tmp rfl) (.tail _ (.tail _ (.head _))) ag25 (cTs_ldV (g := zT) (y := p.c) rfl rfl)) rfl (ltN rfl) rfl ?_
    refine J.op (ot_fieldAddr_own (.tmp rfl) fd28_1) rfl (ltN rfl) rfl ?_
    refine J.op (ot_load_own_agg (.tmp rfl) (.tail _ (.head _)) ag25 (cTs_ldV (g := zT) (y := q.c) rfl rfl)) rfl (ltN rfl) rfl ?_
    refine J.op (ot_call fn48 (intAdd_c p.c q.c (by omega) (by omega)) (.cons (.tmp rfl) (.cons (.tmp rfl) .nil))) rfl (ltN rfl) rfl ?_
    refine J.op (ot_eqt (T' := tV encP (Pol.mk (0) (ofI (zval p.c + zval q.c)) ([]))) (ot_build (Ts := [tIs (.int .i64 (0)), tIs (.bool (false)), tSl encD ([]), tSl encP ([])]) pl28 (fun _ => ⟨rfl, rfl, rfl, rfl, slP_nil _ _, rfl, slP_nil _ _, rfl, trivial⟩) ((.agg (off := 1) rfl (.eq (.tmp rfl) (tV_F (Ts := [tIs (.bool ((ofI (zval p.c + zval q.c)).neg)), tSl encD ((ofI (zval p.c + zval q.c)).abs)]) rfl)) (Ts' := [tIs (.int .i64 (0)), tIs (.bool ((ofI (zval p.c + zval q.c)).neg)), tSl encD ((ofI (zval p.c + zval q.c)).abs), tSl encP ([])]) rfl rfl .nil)) rfl) (tV_F' (polT_eq _))) rfl (ltN rfl) rfl ?_
    refine J.store (.tmp rfl) (.eq (.tmp rfl) (tV_F (Ts := [tIs (.int .i64 (0)), tIs (.bool ((ofI (zval p.c + zval q.c)).neg)), tSl encD ((ofI (zval p.c + zval q.c)).abs), tSl encP ([])]) (polT_eq _))) .here sz28 (st_agg (Ts' := [tIs (.int .i64 (0)), tIs (.bool ((ofI (zval p.c + zval q.c)).neg)), tSl encD ((ofI (zval p.c + zval q.c)).abs), tSl encP ([])]) (o := 0) rfl) ?_
    refine J.nil ?_
    refine JQ.then_normal ?_
    refine JC.ret ?_
    refine JQ.then_ret ?_
    -- ret0
    exact JQ.ret1 rfl (.agg (.tmp rfl) (.head _) ag28 (agg_eq (T := tV encP (Pol.mk (0) (ofI (zval p.c + zval q.c)) ([]))) (T' := tV encP (addF k p q)) (by rw [← addF_const hc0]; rfl) (cTs_ldV (g := polT) (y := (Pol.mk (0) (ofI (zval p.c + zval q.c)) ([]))) (polT_eq (Pol.mk (0) (ofI (zval p.c + zval q.c)) ([]))).symm rfl)))
  · try simp only [Bool.and_eq_true, Bool.or_eq_true, Bool.not_eq_true', Bool.not_eq_false', Bool.and_eq_false_iff, Bool.or_eq_false_iff, Bool.not_true, Bool.not_false, decide_eq_true_eq, decide_eq_false_iff_not, beq_iff_eq, beq_eq_false_iff_ne, Bool.not_eq_eq_eq_not] at hc0
    have hs12 := hc0
    obtain ⟨m, hm⟩ : ∃ m, k = m + 1 := ⟨k - 1, by omega⟩
    obtain ⟨⟨a1, a2, a3⟩, a4, a5, a6, a7⟩ := add_parts (hm ▸ lp) (hm ▸ lq) hp hq hc0
    refine JC.skip ?_
    refine JQ.then_normal ?_
    refine JC.seq ?_
    refine JC.drawAt (Γ' := ?g1) 10 mo (by kernel_rfl) ?tw1 ?k1
    case tw1 =>
      refine TW.op (ot_move (.tmp rfl)) rfl (ltN rfl) rfl ?_
      refine TW.op (ot_load_own_agg (.tmp rfl) (.tail _ (.tail _ (.head _))) ag28 (cTs_ldV (g := polT) (y := p) (polT_eq p).symm rfl)) rfl (ltN rfl) rfl ?_
      refine TW.op (ot_move (.tmp rfl)) rfl (ltN rfl) rfl ?_
      refine TW.op (ot_call fn65 (coefs_c p (max (p.lv) (q.lv)) hps) (.cons (.tmp rfl) (.cons (.tmp rfl) .nil))) rfl (ltN rfl) rfl ?_
      refine TW.op (ot_load_own_agg (.tmp rfl) (.tail _ (.head _)) ag28 (cTs_ldV (g := polT) (y := q) (polT_eq q).symm rfl)) rfl (ltN rfl) rfl ?_
      refine TW.op (ot_move (.tmp rfl)) rfl (ltN rfl) rfl ?_
      refine TW.op (ot_call fn65 (coefs_c q (max (p.lv) (q.lv)) hqs) (.cons (.tmp rfl) (.cons (.tmp rfl) .nil))) rfl (ltN rfl) rfl ?_
      refine TW.op (ot_buildSlice (E := (encSl encP)) (zs := [coefsP p (max (p.lv) (q.lv)), coefsP q (max (p.lv) (q.lv))]) sl112 (.cons (.sub (.tmp rfl) encSl_in) (.cons (.sub (.tmp rfl) encSl_in) .nil)) rfl zr26 rfl (by decide) (by decide)) rfl (ltN rfl) rfl ?_
      refine TW.op (ot_call fn64 (sum_c (addF m) (coefsP p (max (p.lv) (q.lv))) (coefsP q (max (p.lv) (q.lv))) (fun x hx y hy => ih m (by omega) x y (a4 x hx).1 (a5 y hy).1 (a4 x hx).2 (a5 y hy).2) ⟨a1, a2⟩ a3) (.cons (.tmp rfl) .nil)) rfl (ltN rfl) rfl ?_
      refine TW.op (ot_call fn55 (join_c (max (p.lv) (q.lv)) (zipP (addF m) (coefsP p (max (p.lv) (q.lv))) (coefsP q (max (p.lv) (q.lv)))) a6 (fun z hz => Nat.le_trans (a7 z hz).c (by omega))) (.cons (.tmp rfl) (.cons (.tmp rfl) .nil))) rfl (ltN rfl) rfl ?_
      exact TW.nil
    refine J.store (.tmp rfl) (.eq (.tmp rfl) (tV_F (Ts := [tIs (.int .i64 ((joinP (max (p.lv) (q.lv)) (zipP (addF m) (coefsP p (max (p.lv) (q.lv))) (coefsP q (max (p.lv) (q.lv))))).lv)), tIs (.bool (((joinP (max (p.lv) (q.lv)) (zipP (addF m) (coefsP p (max (p.lv) (q.lv))) (coefsP q (max (p.lv) (q.lv))))).c).neg)), tSl encD (((joinP (max (p.lv) (q.lv)) (zipP (addF m) (coefsP p (max (p.lv) (q.lv))) (coefsP q (max (p.lv) (q.lv))))).c).abs), tSl encP ((joinP (max (p.lv) (q.lv)) (zipP (addF m) (coefsP p (max (p.lv) (q.lv))) (coefsP q (max (p.lv) (q.lv))))).cs)]) (polT_eq _))) .here sz28 (st_agg (Ts' := [tIs (.int .i64 ((joinP (max (p.lv) (q.lv)) (zipP (addF m) (coefsP p (max (p.lv) (q.lv))) (coefsP q (max (p.lv) (q.lv))))).lv)), tIs (.bool (((joinP (max (p.lv) (q.lv)) (zipP (addF m) (coefsP p (max (p.lv) (q.lv))) (coefsP q (max (p.lv) (q.lv))))).c).neg)), tSl encD (((joinP (max (p.lv) (q.lv)) (zipP (addF m) (coefsP p (max (p.lv) (q.lv))) (coefsP q (max (p.lv) (q.lv))))).c).abs), tSl encP ((joinP (max (p.lv) (q.lv)) (zipP (addF m) (coefsP p (max (p.lv) (q.lv))) (coefsP q (max (p.lv) (q.lv))))).cs)]) (o := 0) rfl) ?_
    refine J.nil ?_
    refine JQ.then_normal ?_
    refine JC.ret ?_
    -- ret1
    exact JQ.ret1 rfl (.agg (.tmp rfl) (.head _) ag28 (agg_eq (T := tV encP (joinP (max (p.lv) (q.lv)) (zipP (addF m) (coefsP p (max (p.lv) (q.lv))) (coefsP q (max (p.lv) (q.lv)))))) (T' := tV encP (addF k p q)) (by rw [hm, addF_join hc0]) (cTs_ldV (g := polT) (y := (joinP (max (p.lv) (q.lv)) (zipP (addF m) (coefsP p (max (p.lv) (q.lv))) (coefsP q (max (p.lv) (q.lv)))))) (polT_eq (joinP (max (p.lv) (q.lv)) (zipP (addF m) (coefsP p (max (p.lv) (q.lv))) (coefsP q (max (p.lv) (q.lv)))))).symm rfl)))

theorem cmpMono_c (m n : Mo) : Ctr Try.prog 60 [tV encMo (m), tV encMo (n)] (tIs (.int .i64 (cmpMo m n))) := by
  refine Ctr.of Try.func60 rfl Try.ntmps60 (Nat.le_of_ble_eq_true rfl) fun w0 M0 => ?_
  refine JC.seq ?_
  refine JC.region ?_
  refine J.boxF (Ts := [tIs (.int .i64 (m.a)), tIs (.int .i64 (m.b)), tIs (.int .i64 (m.c)), tIs (.int .i64 (m.d))]) (.tmp rfl) rfl (ltN rfl) fun b2 => ?_
  refine J.boxF (Ts := [tIs (.int .i64 (n.a)), tIs (.int .i64 (n.b)), tIs (.int .i64 (n.c)), tIs (.int .i64 (n.d))]) (.tmp rfl) rfl (ltN rfl) fun b3 => ?_
  refine J.op (ot_assign .is) rfl (ltN rfl) rfl ?_
  refine J.nil ?_
  refine JQ.then_normal ?_
  refine JC.seq ?_
  refine JC.seq ?_
  refine JC.region ?_
  refine J.op (ot_assign .is) rfl (ltN rfl) rfl ?_
  refine J.nil ?_
  refine JQ.then_normal ?_
  refine JC.block ?_
  refine JC.loop (ι := Nat) (fun k => [(2, pOwn b2 (0)), (3, pOwn b3 (0)), (5, tIs (.int .i64 (((k : Nat) : Int) - 1)))]) (fun k => [⟨b3, 61, cTs [tIs (.int .i64 (n.a)), tIs (.int .i64 (n.b)), tIs (.int .i64 (n.c)), tIs (.int .i64 (n.d))]⟩, ⟨b2, 61, cTs [tIs (.int .i64 (m.a)), tIs (.int .i64 (m.b)), tIs (.int .i64 (m.c)), tIs (.int .i64 (m.d))]⟩]) (fun k => k ≤ 4 ∧ cmpTo k m n = cmpMo m n) (fun k => k) 4 ⟨by omega, rfl⟩ ?lsub0 ?round0
  case lsub0 => exact sub_trans (sub_heap (.keep (fun _ _ h => h) (.keep (fun _ _ h => h) .nil))) (sub_cons (.tmp rfl) (sub_cons (.tmp rfl) (sub_cons (.eq (.tmp rfl) (by first | rfl | (congr 3; omega) | (congr 2; omega))) (sub_nil))))
  intro k hinv
  obtain ⟨hk, hv⟩ := hinv
  refine JC.seq ?_
  refine JC.seq ?_
  refine JC.region ?_
  refine J.op (ot_move (.tmp rfl)) rfl (ltN rfl) rfl ?_
  refine J.op (ot_geq (.tmp rfl) .is) rfl (ltN rfl) rfl ?_
  refine J.nil ?_
  refine JQ.then_normal ?_
  -- cond0: tIs (.bool (decide (0 ≤ (((k : Nat) : Int) - 1))))
  refine JC.cond (.tmp rfl) (fun hc0 => ?_) (fun hc0 => ?_)
  · try simp only [Bool.and_eq_true, Bool.or_eq_true, Bool.not_eq_true', Bool.not_eq_false', Bool.and_eq_false_iff, Bool.or_eq_false_iff, Bool.not_true, Bool.not_false, decide_eq_true_eq, decide_eq_false_iff_not, beq_iff_eq, beq_eq_false_iff_ne, Bool.not_eq_eq_eq_not] at hc0
    have hs7 := hc0
    refine JC.skip ?_
    refine JQ.then_normal ?_
    refine JC.seq ?_
    refine JC.block ?_
    refine JC.seq ?_
    refine JC.seq ?_
    refine JC.draw (Γ' := ?g1) mo (by kernel_rfl) ?tw1 ?k1
    case tw1 =>
      refine TW.op (ot_move (.tmp rfl)) rfl (ltN rfl) rfl ?_
      refine TW.op (ot_eqt (T' := pOwn b2 (k - 1)) (ot_indexAddrA (.tmp rfl) (.tmp rfl) ar4_61 (by omega) (by omega)) (own_off2 (by omega))) rfl (ltN rfl) rfl ?_
      refine TW.op (ot_load_own (.tmp rfl) (.tail _ (.head _)) sc3 (mo_ld (m := m) (by omega))) rfl (ltN rfl) rfl ?_
      refine TW.op (ot_move (.tmp rfl)) rfl (ltN rfl) rfl ?_
      refine TW.op (ot_eqt (T' := pOwn b3 (k - 1)) (ot_indexAddrA (.tmp rfl) (.tmp rfl) ar4_61 (by omega) (by omega)) (own_off2 (by omega))) rfl (ltN rfl) rfl ?_
      refine TW.op (ot_load_own (.tmp rfl) (.head _) sc3 (mo_ld (m := n) (by omega))) rfl (ltN rfl) rfl ?_
      refine TW.op (ot_lss (.tmp rfl) (.tmp rfl)) rfl (ltN rfl) rfl ?_
      exact TW.nil
    refine JQ.then_normal ?_
    -- cond1: tIs (.bool (decide ((m.at (k - 1)) < (n.at (k - 1)))))
    refine JC.cond (.tmp rfl) (fun hc1 => ?_) (fun hc1 => ?_)
    · try simp only [Bool.and_eq_true, Bool.or_eq_true, Bool.not_eq_true', Bool.not_eq_false', Bool.and_eq_false_iff, Bool.or_eq_false_iff, Bool.not_true, Bool.not_false, decide_eq_true_eq, decide_eq_false_iff_not, beq_iff_eq, beq_eq_false_iff_ne, Bool.not_eq_eq_eq_not] at hc1
      have hs16 := hc1
      refine JC.seq ?_
      refine JC.region ?_
      refine J.op (ot_assign .is) rfl (ltN rfl) rfl ?_
      refine J.nil ?_
      refine JQ.then_normal ?_
      refine JC.ret ?_
      refine JQ.then_ret ?_
      refine JQ.block_ret ?_
      refine JQ.then_ret ?_
      refine JQ.then_ret ?_
      refine JQ.block_ret ?_
      refine JQ.then_ret ?_
      -- ret0
      exact JQ.ret1 rfl (.tmp (.eq (.tmp rfl) (by rw [← hv, ← cmpTo_lt (by omega) hc1])))
    · try simp only [Bool.and_eq_true, Bool.or_eq_true, Bool.not_eq_true', Bool.not_eq_false', Bool.and_eq_false_iff, Bool.or_eq_false_iff, Bool.not_true, Bool.not_false, decide_eq_true_eq, decide_eq_false_iff_not, beq_iff_eq, beq_eq_false_iff_ne, Bool.not_eq_eq_eq_not] at hc1
      have hs16 := hc1
      refine JC.skip ?_
      refine JQ.then_normal ?_
      refine JC.seq ?_
      refine JC.draw (Γ' := ?g2) mo (by kernel_rfl) ?tw2 ?k2
      case tw2 =>
        refine TW.op (ot_move (.tmp rfl)) rfl (ltN rfl) rfl ?_
        refine TW.op (ot_eqt (T' := pOwn b2 (k - 1)) (ot_indexAddrA (.tmp rfl) (.tmp rfl) ar4_61 (by omega) (by omega)) (own_off2 (by omega))) rfl (ltN rfl) rfl ?_
        refine TW.op (ot_load_own (.tmp rfl) (.tail _ (.head _)) sc3 (mo_ld (m := m) (by omega))) rfl (ltN rfl) rfl ?_
        refine TW.op (ot_move (.tmp rfl)) rfl (ltN rfl) rfl ?_
        refine TW.op (ot_eqt (T' := pOwn b3 (k - 1)) (ot_indexAddrA (.tmp rfl) (.tmp rfl) ar4_61 (by omega) (by omega)) (own_off2 (by omega))) rfl (ltN rfl) rfl ?_
        refine TW.op (ot_load_own (.tmp rfl) (.head _) sc3 (mo_ld (m := n) (by omega))) rfl (ltN rfl) rfl ?_
        refine TW.op (ot_gtr (.tmp rfl) (.tmp rfl)) rfl (ltN rfl) rfl ?_
        exact TW.nil
      refine JQ.then_normal ?_
      -- cond2: tIs (.bool (decide ((n.at (k - 1)) < (m.at (k - 1)))))
      refine JC.cond (.tmp rfl) (fun hc2 => ?_) (fun hc2 => ?_)
      · try simp only [Bool.and_eq_true, Bool.or_eq_true, Bool.not_eq_true', Bool.not_eq_false', Bool.and_eq_false_iff, Bool.or_eq_false_iff, Bool.not_true, Bool.not_false, decide_eq_true_eq, decide_eq_false_iff_not, beq_iff_eq, beq_eq_false_iff_ne, Bool.not_eq_eq_eq_not] at hc2
        have hs23 := hc2
        refine JC.seq ?_
        refine JC.region ?_
        refine J.op (ot_assign .is) rfl (ltN rfl) rfl ?_
        refine J.nil ?_
        refine JQ.then_normal ?_
        refine JC.ret ?_
        refine JQ.block_ret ?_
        refine JQ.then_ret ?_
        refine JQ.then_ret ?_
        refine JQ.block_ret ?_
        refine JQ.then_ret ?_
        -- ret1
        exact JQ.ret1 rfl (.tmp (.eq (.tmp rfl) (by rw [← hv, ← cmpTo_gt (by omega) hc2])))
      · try simp only [Bool.and_eq_true, Bool.or_eq_true, Bool.not_eq_true', Bool.not_eq_false', Bool.and_eq_false_iff, Bool.or_eq_false_iff, Bool.not_true, Bool.not_false, decide_eq_true_eq, decide_eq_false_iff_not, beq_iff_eq, beq_eq_false_iff_ne, Bool.not_eq_eq_eq_not] at hc2
        have hs23 := hc2
        refine JC.skip ?_
        refine JQ.block_normal ?_
        refine JQ.then_normal ?_
        refine JC.region ?_
        refine J.op (ot_move (.tmp rfl)) rfl (ltN rfl) rfl ?_
        refine J.op (ot_sub (.tmp rfl) .is (w64 (by omega) (by omega))) rfl (ltN rfl) rfl ?_
        refine J.op (ot_assign (.tmp rfl)) rfl (ltN rfl) rfl ?_
        refine J.nil ?_
        exact JQ.round (k - 1) ⟨by omega, by rw [← hv]; exact cmpTo_eq (by omega) hc1 hc2⟩ (by omega) (sub_trans (sub_heap (.keep (fun _ _ h => h) (.keep (fun _ _ h => h) .nil))) (sub_cons (.tmp rfl) (sub_cons (.tmp rfl) (sub_cons (.eq (.tmp rfl) (by first | rfl | (congr 3; omega) | (congr 2; omega))) (sub_nil)))))
  · try simp only [Bool.and_eq_true, Bool.or_eq_true, Bool.not_eq_true', Bool.not_eq_false', Bool.and_eq_false_iff, Bool.or_eq_false_iff, Bool.not_true, Bool.not_false, decide_eq_true_eq, decide_eq_false_iff_not, beq_iff_eq, beq_eq_false_iff_ne, Bool.not_eq_eq_eq_not] at hc0
    have hs7 := hc0
    refine JC.exit ?_
    refine JQ.then_exit ?_
    refine JQ.then_exit ?_
    refine JQ.block_exit ?_
    refine JQ.then_normal ?_
    refine JC.seq ?_
    refine JC.region ?_
    refine J.op (ot_assign .is) rfl (ltN rfl) rfl ?_
    refine J.nil ?_
    refine JQ.then_normal ?_
    refine JC.ret ?_
    -- ret2
    exact JQ.ret1 rfl (.tmp (.eq (.tmp rfl) (by rw [← hv, show k = 0 by omega]; rfl)))

theorem min_c (l : List Int) (hl : 0 < l.length ∧ l.length ≤ 4294967296) : Ctr Try.prog 57 [tSl encN (l)] (tIs (.int .i64 (minL (atN l 0) (l.drop 1)))) := by
  refine Ctr.of Try.func57 rfl Try.ntmps57 (Nat.le_of_ble_eq_true rfl) fun w0 M0 => ?_
  refine JC.seq ?_
  refine JC.region ?_
  refine J.op (ot_assign .is) rfl (ltN rfl) rfl ?_
  refine J.nil ?_
  refine JQ.then_normal ?_
  refine JC.seq ?_
  refine JC.seq ?_
  refine JC.region ?_
  refine J.op (ot_move (.tmp rfl)) rfl (ltN rfl) rfl ?_
  refine J.op (ot_len (.tmp rfl) sl97 rfl) rfl (ltN rfl) rfl ?_
  refine J.op (ot_lss (.tmp rfl) .is) rfl (ltN rfl) rfl ?_
  refine J.nil ?_
  refine JQ.then_normal ?_
  refine JC.cond_false (.eq (.tmp rfl) (by rw [decide_eq_false (by omega)])) ?_
  refine JC.skip ?_
  refine JQ.then_normal ?_
  refine JC.seq ?_
  refine JC.region ?_
  refine J.op (ot_move (.tmp rfl)) rfl (ltN rfl) rfl ?_
  refine J.op (ot_index (z := atN l 0) (.tmp rfl) .is sl97 (by omega) (atN_at rfl (by omega))) rfl (ltN rfl) rfl ?_
  refine J.op (ot_load (.tmp rfl) sc3 encN_ld) rfl (ltN rfl) rfl ?_
  refine J.op (ot_assign (.tmp rfl)) rfl (ltN rfl) rfl ?_
  refine J.nil ?_
  refine JQ.then_normal ?_
  refine JC.seq ?_
  refine JC.seq ?_
  refine JC.region ?_
  refine J.op (ot_assign .is) rfl (ltN rfl) rfl ?_
  refine J.nil ?_
  refine JQ.then_normal ?_
  refine JC.block ?_
  refine JC.loop2 (α := Nat) (β := Int) (fun k m => [(0, tSl encN (l)), (2, tIs (.int .i64 (0))), (3, tIs (.int .i64 (m))), (4, tIs (.int .i64 (((k : Nat) : Int))))]) (fun k m => []) (fun k m => 1 ≤ k ∧ k ≤ l.length ∧ minL m (l.drop k) = minL (atN l 0) (l.drop 1)) (fun k m => l.length - k) 1 (atN l 0) ⟨by omega, by omega, rfl⟩ ?lsub0 ?round0
  case lsub0 => exact sub_trans (sub_heap .nil) (sub_cons (.tmp rfl) (sub_cons (.tmp rfl) (sub_cons (.eq (.tmp rfl) (by first | rfl | (congr 3; omega) | (congr 2; omega))) (sub_cons (.eq (.tmp rfl) (by first | rfl | (congr 3; omega) | (congr 2; omega))) (sub_nil)))))
  intro k m hinv
  obtain ⟨hk, hk1, hv⟩ := hinv
  refine JC.seq ?_
  refine JC.seq ?_
  refine JC.region ?_
  refine J.op (ot_move (.tmp rfl)) rfl (ltN rfl) rfl ?_
  refine J.op (ot_move (.tmp rfl)) rfl (ltN rfl) rfl ?_
  refine J.op (ot_len (.tmp rfl) sl97 rfl) rfl (ltN rfl) rfl ?_
  refine J.op (ot_lss (.tmp rfl) (.tmp rfl)) rfl (ltN rfl) rfl ?_
  refine J.nil ?_
  refine JQ.then_normal ?_
  -- cond1: tIs (.bool (decide (((k : Nat) : Int) < ((l).length : Int))))
  refine JC.cond (.tmp rfl) (fun hc1 => ?_) (fun hc1 => ?_)
  · try simp only [Bool.and_eq_true, Bool.or_eq_true, Bool.not_eq_true', Bool.not_eq_false', Bool.and_eq_false_iff, Bool.or_eq_false_iff, Bool.not_true, Bool.not_false, decide_eq_true_eq, decide_eq_false_iff_not, beq_iff_eq, beq_eq_false_iff_ne, Bool.not_eq_eq_eq_not] at hc1
    have hs15 := hc1
    refine JC.skip ?_
    refine JQ.then_normal ?_
    refine JC.seq ?_
    refine JC.block ?_
    refine JC.region ?_
    refine J.op (ot_move (.tmp rfl)) rfl (ltN rfl) rfl ?_
    refine J.op (ot_move (.tmp rfl)) rfl (ltN rfl) rfl ?_
    refine J.op (ot_move (.tmp rfl)) rfl (ltN rfl) rfl ?_
    refine J.op (ot_index (z := atN l k) (.tmp rfl) (.tmp rfl) sl97 (by omega) (atN_at (by omega) (by omega))) rfl (ltN rfl) rfl ?_
    refine J.op (ot_load (.tmp rfl) sc3 encN_ld) rfl (ltN rfl) rfl ?_
    refine J.op (ot_min (.tmp rfl) (.tmp rfl)) rfl (ltN rfl) rfl ?_
    refine J.op (ot_assign (.tmp rfl)) rfl (ltN rfl) rfl ?_
    refine J.nil ?_
    refine JQ.block_normal ?_
    refine JQ.then_normal ?_
    refine JC.region ?_
    refine J.op (ot_move (.tmp rfl)) rfl (ltN rfl) rfl ?_
    refine J.op (ot_add (.tmp rfl) .is (w64 (by omega) (by omega))) rfl (ltN rfl) rfl ?_
    refine J.op (ot_assign (.tmp rfl)) rfl (ltN rfl) rfl ?_
    refine J.nil ?_
    exact JQ.round2 (i := k) (i2 := m) (k + 1) (min m (atN l k)) ⟨by omega, by omega, by rw [← hv]; exact minL_step (by omega)⟩ (by omega) (sub_trans (sub_heap .nil) (sub_cons (.tmp rfl) (sub_cons (.tmp rfl) (sub_cons (.eq (.tmp rfl) (by first | rfl | (congr 3; omega) | (congr 2; omega))) (sub_cons (.eq (.tmp rfl) (by first | rfl | (congr 3; omega) | (congr 2; omega))) (sub_nil))))))
  · try simp only [Bool.and_eq_true, Bool.or_eq_true, Bool.not_eq_true', Bool.not_eq_false', Bool.and_eq_false_iff, Bool.or_eq_false_iff, Bool.not_true, Bool.not_false, decide_eq_true_eq, decide_eq_false_iff_not, beq_iff_eq, beq_eq_false_iff_ne, Bool.not_eq_eq_eq_not] at hc1
    have hs15 := hc1
    refine JC.exit ?_
    refine JQ.then_exit ?_
    refine JQ.then_exit ?_
    refine JQ.block_exit ?_
    refine JQ.then_normal ?_
    refine JC.seq ?_
    refine JC.region ?_
    refine J.op (ot_move (.tmp rfl)) rfl (ltN rfl) rfl ?_
    refine J.op (ot_assign (.tmp rfl)) rfl (ltN rfl) rfl ?_
    refine J.nil ?_
    refine JQ.then_normal ?_
    refine JC.ret ?_
    -- ret0
    exact JQ.ret1 rfl (.tmp (.eq (.tmp rfl) (by rw [← hv, minL_end (by omega)])))

theorem clip_c (ts : List Tm) (hl : ts.length ≤ 4294967296) : Ctr Try.prog 61 [tSl encTm (ts)] (tSl encTm (ts)) := by
  refine Ctr.of Try.func61 rfl Try.ntmps61 (Nat.le_of_ble_eq_true rfl) fun w0 M0 => ?_
  refine JC.seq ?_
  refine JC.region ?_
  refine J.op (ot_assign (.nil (E := encTm))) rfl (ltN rfl) rfl ?_
  refine J.nil ?_
  refine JQ.then_normal ?_
  refine JC.seq ?_
  refine JC.region ?_
  refine J.op (ot_move (.tmp rfl)) rfl (ltN rfl) rfl ?_
  refine J.op (ot_move (.tmp rfl)) rfl (ltN rfl) rfl ?_
  refine J.op (ot_len (.tmp rfl) sl65 rfl) rfl (ltN rfl) rfl ?_
  refine J.op (ot_move (.tmp rfl)) rfl (ltN rfl) rfl ?_
  refine J.op (ot_len (.tmp rfl) sl65 rfl) rfl (ltN rfl) rfl ?_
  refine J.op (ot_slice3 (E := encTm) (xs := ts) (h := ts.length) (m := ts.length) (kh := .i64) (km := .i64) (.tmp rfl) sl65 (.eq (.tmp rfl) rfl) (.eq (.tmp rfl) rfl) (Nat.le_refl _) (Nat.le_refl _)) rfl (ltN rfl) rfl ?_
  refine J.op (ot_assign (.tmp rfl)) rfl (ltN rfl) rfl ?_
  refine J.nil ?_
  refine JQ.then_normal ?_
  refine JC.ret ?_
  -- ret0
  exact JQ.ret1 rfl (.tmp (.eq (.tmp rfl) (by rw [List.take_length])))

theorem cmpT_c (x y : Tm) : Ctr Try.prog 59 [tV encTm (x), tV encTm (y)] (tIs (.int .i64 (cmpMo y.exp x.exp))) := by
  refine Ctr.of Try.func59 rfl Try.ntmps59 (Nat.le_of_ble_eq_true rfl) fun w0 M0 => ?_
  refine JC.seq ?_
  refine JC.region ?_
  refine J.boxF (Ts := [tIs (.bool (x.coef.neg)), tSl encD (x.coef.abs), tIs (.int .i64 (x.exp.a)), tIs (.int .i64 (x.exp.b)), tIs (.int .i64 (x.exp.c)), tIs (.int .i64 (x.exp.d))]) (.tmp rfl) rfl (ltN rfl) fun b2 => ?_
  refine J.boxF (Ts := [tIs (.bool (y.coef.neg)), tSl encD (y.coef.abs), tIs (.int .i64 (y.exp.a)), tIs (.int .i64 (y.exp.b)), tIs (.int .i64 (y.exp.c)), tIs (.int .i64 (y.exp.d))]) (.tmp rfl) rfl (ltN rfl) fun b3 => ?_
  refine J.op (ot_assign .is) rfl (ltN rfl) rfl ?_
  refine J.nil ?_
  refine JQ.then_normal ?_
  refine JC.seq ?_
  refine JC.region ?_
  refine J.op (ot_fieldAddr_own (.tmp rfl) fd63_1) rfl (ltN rfl) rfl ?_
  refine J.op (ot_load_own_agg (.tmp rfl) (.head _) ag61 (cTs_ldV (g := moT) (y := y.exp) rfl rfl)) rfl (ltN rfl) rfl ?_
  refine J.op (ot_fieldAddr_own (.tmp rfl) fd63_1) rfl (ltN rfl) rfl ?_
  refine J.op (ot_load_own_agg (.tmp rfl) (.tail _ (.head _)) ag61 (cTs_ldV (g := moT) (y := x.exp) rfl rfl)) rfl (ltN rfl) rfl ?_
  refine J.op (ot_call fn60 (cmpMono_c y.exp x.exp ) (.cons (.tmp rfl) (.cons (.tmp rfl) .nil))) rfl (ltN rfl) rfl ?_
  refine J.op (ot_assign (.tmp rfl)) rfl (ltN rfl) rfl ?_
  refine J.nil ?_
  refine JQ.then_normal ?_
  refine JC.ret ?_
  -- ret0
  exact JQ.ret1 rfl (.tmp (.tmp rfl))

theorem insert_c (b c a e : Nat) (xs : List Tm) (he : e ≤ xs.length) (ha : a ≤ e) (hl : xs.length ≤ 4294967296) : CtrL Try.prog 82 [sIs b 0 (xs.length) (c), tIs (.int .i64 (((a : Nat) : Int))), tIs (.int .i64 (((e : Nat) : Int))), tFn 59 []] b 63 (cRow encTm (xs) (c)) (cRow encTm (insT a (e - (a + 1)) (a + 1) xs) (c)) (tAny) := by
  refine CtrL.of Try.func82 rfl Try.ntmps82 (Nat.le_of_ble_eq_true rfl) fun w0 M0 => ?_
  refine JC.seq ?_
  refine JC.region ?_
  refine J.op (ot_move (.tmp rfl)) rfl (ltN rfl) rfl ?_
  refine J.op (ot_add (.tmp rfl) .is (w64 (by omega) (by omega))) rfl (ltN rfl) rfl ?_
  refine J.op (ot_assign (.tmp rfl)) rfl (ltN rfl) rfl ?_
  refine J.nil ?_
  refine JQ.then_normal ?_
  refine JC.block ?_
  refine JC.loop2 (α := Nat) (β := List Tm) (fun i ys => [(0, sIs b 0 (xs.length) (c)), (1, tIs (.int .i64 (((a : Nat) : Int)))), (2, tIs (.int .i64 (((e : Nat) : Int)))), (3, tFn 59 []), (8, tIs (.int .i64 (((i : Nat) : Int))))]) (fun i ys => [⟨b, 63, cRow encTm (ys) (c)⟩]) (fun i ys => a + 1 ≤ i ∧ ys.length = xs.length ∧ insT a (e - i) i ys = insT a (e - (a + 1)) (a + 1) xs) (fun i ys => e - i) (a + 1) xs ⟨by omega, rfl, rfl⟩ ?lsub0 ?round0
  case lsub0 => exact sub_trans (sub_heap (.keep (fun _ _ h => h) .nil)) (sub_cons (.tmp rfl) (sub_cons (.tmp rfl) (sub_cons (.tmp rfl) (sub_cons (.tmp rfl) (sub_cons (.eq (.tmp rfl) (by first | rfl | (congr 3; omega) | (congr 2; omega))) (sub_nil))))))
  intro i ys hinv
  obtain ⟨hi, hys, hv⟩ := hinv
  refine JC.seq ?_
  refine JC.seq ?_
  refine JC.region ?_
  refine J.op (ot_move (.tmp rfl)) rfl (ltN rfl) rfl ?_
  refine J.op (ot_move (.tmp rfl)) rfl (ltN rfl) rfl ?_
  refine J.op (ot_lss (.tmp rfl) (.tmp rfl)) rfl (ltN rfl) rfl ?_
  refine J.nil ?_
  refine JQ.then_normal ?_
  -- cond0: tIs (.bool (decide (((i : Nat) : Int) < ((e : Nat) : Int))))
  refine JC.cond (.tmp rfl) (fun hc0 => ?_) (fun hc0 => ?_)
  · try simp only [Bool.and_eq_true, Bool.or_eq_true, Bool.not_eq_true', Bool.not_eq_false', Bool.and_eq_false_iff, Bool.or_eq_false_iff, Bool.not_true, Bool.not_false, decide_eq_true_eq, decide_eq_false_iff_not, beq_iff_eq, beq_eq_false_iff_ne, Bool.not_eq_eq_eq_not] at hc0
    have hs14 := hc0
    refine JC.skip ?_
    refine JQ.then_normal ?_
    refine JC.seq ?_
    refine JC.block ?_
    refine JC.seq ?_
    refine JC.region ?_
    refine J.op (ot_move (.tmp rfl)) rfl (ltN rfl) rfl ?_
    refine J.op (ot_assign (.tmp rfl)) rfl (ltN rfl) rfl ?_
    refine J.nil ?_
    refine JQ.then_normal ?_
    refine JC.block ?_
    refine JC.loop2 (α := Nat) (β := List Tm) (fun j zs => [(0, sIs b 0 (xs.length) (c)), (1, tIs (.int .i64 (((a : Nat) : Int)))), (2, tIs (.int .i64 (((e : Nat) : Int)))), (3, tFn 59 []), (8, tIs (.int .i64 (((i : Nat) : Int)))), (9, tIs (.int .i64 (((j : Nat) : Int)))), (12, tIs (.int .i64 (((i : Nat) : Int)))), (13, tIs (.int .i64 (((e : Nat) : Int)))), (14, tIs (.bool (decide (((i : Nat) : Int) < ((e : Nat) : Int))))), (17, tIs (.int .i64 (((i : Nat) : Int))))]) (fun j zs => [⟨b, 63, cRow encTm (zs) (c)⟩]) (fun j zs => j ≤ i ∧ zs.length = xs.length ∧ siftT a j zs = siftT a i ys) (fun j zs => j) i ys ⟨by omega, hys, rfl⟩ ?lsub1 ?round1
    case lsub1 => exact sub_trans (sub_heap (.keep (fun _ _ h => h) .nil)) (sub_cons (.tmp rfl) (sub_cons (.tmp rfl) (sub_cons (.tmp rfl) (sub_cons (.tmp rfl) (sub_cons (.tmp rfl) (sub_cons (.tmp rfl) (sub_cons (.tmp rfl) (sub_cons (.tmp rfl) (sub_cons (.tmp rfl) (sub_cons (.tmp rfl) (sub_nil)))))))))))
    intro j zs hinv
    obtain ⟨hj, hzs, hw⟩ := hinv
    refine JC.seq ?_
    refine JC.seq ?_
    refine JC.draw (Γ' := ?g1) mo (by kernel_rfl) ?tw1 ?k1
    case tw1 =>
      refine TW.op (ot_move (.tmp rfl)) rfl (ltN rfl) rfl ?_
      refine TW.op (ot_move (.tmp rfl)) rfl (ltN rfl) rfl ?_
      refine TW.op (ot_gtr (.tmp rfl) (.tmp rfl)) rfl (ltN rfl) rfl ?_
      refine TW.op (ot_move (.tmp rfl)) rfl (ltN rfl) rfl ?_
      refine TW.opg rfl rfl rfl (ltN rfl) (fun hg => ot_move (.tmp rfl)) rfl (ltN rfl) ?_
      refine TW.opg rfl rfl rfl (ltN rfl) (fun hg => ot_move (.tmp rfl)) rfl (ltN rfl) ?_
      refine TW.opg rfl rfl rfl (ltN rfl) (fun hg => ot_move (.tmp rfl)) rfl (ltN rfl) ?_
      refine TW.opg rfl rfl rfl (ltN rfl) (fun hg => (by have hg' := hg; simp only [Bool.and_eq_true, Bool.or_eq_true, Bool.not_eq_true', Bool.not_eq_false', Bool.and_eq_false_iff, Bool.or_eq_false_iff, Bool.not_true, Bool.not_false, decide_eq_true_eq, decide_eq_false_iff_not, beq_iff_eq, beq_eq_false_iff_ne, Bool.not_eq_eq_eq_not] at hg'; exact ot_eqt (T' := pOwn b (0 + j * 6)) (ot_index_own (.iff hg (.tmp rfl)) (.iff hg (.tmp rfl)) sl64 (by omega) (by omega)) (own_off2 (by omega)))) rfl (ltN rfl) ?_
      refine TW.opg rfl rfl rfl (ltN rfl) (fun hg => (by have hg' := hg; simp only [Bool.and_eq_true, Bool.or_eq_true, Bool.not_eq_true', Bool.not_eq_false', Bool.and_eq_false_iff, Bool.or_eq_false_iff, Bool.not_true, Bool.not_false, decide_eq_true_eq, decide_eq_false_iff_not, beq_iff_eq, beq_eq_false_iff_ne, Bool.not_eq_eq_eq_not] at hg'; exact ot_load_own_agg (.iff hg (.tmp rfl)) (.head _) ag63 (row_agg rfl (atT_some (by omega))))) rfl (ltN rfl) ?_
      refine TW.opg rfl rfl rfl (ltN rfl) (fun hg => ot_move (.tmp rfl)) rfl (ltN rfl) ?_
      refine TW.opg rfl rfl rfl (ltN rfl) (fun hg => ot_move (.tmp rfl)) rfl (ltN rfl) ?_
      refine TW.opg rfl rfl rfl (ltN rfl) (fun hg => (by have hg' := hg; simp only [Bool.and_eq_true, Bool.or_eq_true, Bool.not_eq_true', Bool.not_eq_false', Bool.and_eq_false_iff, Bool.or_eq_false_iff, Bool.not_true, Bool.not_false, decide_eq_true_eq, decide_eq_false_iff_not, beq_iff_eq, beq_eq_false_iff_ne, Bool.not_eq_eq_eq_not] at hg'; exact ot_sub (.iff hg (.tmp rfl)) .is (w64 (by omega) (by omega)))) rfl (ltN rfl) ?_
      refine TW.opg rfl rfl rfl (ltN rfl) (fun hg => (by have hg' := hg; simp only [Bool.and_eq_true, Bool.or_eq_true, Bool.not_eq_true', Bool.not_eq_false', Bool.and_eq_false_iff, Bool.or_eq_false_iff, Bool.not_true, Bool.not_false, decide_eq_true_eq, decide_eq_false_iff_not, beq_iff_eq, beq_eq_false_iff_ne, Bool.not_eq_eq_eq_not] at hg'; exact ot_eqt (T' := pOwn b (0 + (j - 1) * 6)) (ot_index_own (.iff hg (.tmp rfl)) (.iff hg (.tmp rfl)) sl64 (by omega) (by omega)) (own_off2 (by omega)))) rfl (ltN rfl) ?_
      refine TW.opg rfl rfl rfl (ltN rfl) (fun hg => (by have hg' := hg; simp only [Bool.and_eq_true, Bool.or_eq_true, Bool.not_eq_true', Bool.not_eq_false', Bool.and_eq_false_iff, Bool.or_eq_false_iff, Bool.not_true, Bool.not_false, decide_eq_true_eq, decide_eq_false_iff_not, beq_iff_eq, beq_eq_false_iff_ne, Bool.not_eq_eq_eq_not] at hg'; exact ot_load_own_agg (.iff hg (.tmp rfl)) (.head _) ag63 (row_agg rfl (atT_some (by omega))))) rfl (ltN rfl) ?_
      refine TW.opg rfl rfl rfl (ltN rfl) (fun hg => ot_callv (Us := []) fn59 (.iff hg (.tmp rfl)) (cmpT_c (atT zs j) (atT zs (j - 1)) ) (.cons (.iff hg (.tmp rfl)) (.cons (.iff hg (.tmp rfl)) .nil)) (fun _ => trivial)) rfl (ltN rfl) ?_
      refine TW.opg rfl rfl rfl (ltN rfl) (fun hg => ot_lss (.iff hg (.tmp rfl)) .is) rfl (ltN rfl) ?_
      refine TW.op (ot_and2 (.tmp rfl) (.tmp rfl) .is) rfl (ltN rfl) rfl ?_
      exact TW.nil
    refine JQ.then_normal ?_
    -- cond1: tIs (.bool ((decide (((a : Nat) : Int) < ((j : Nat) : Int))) && (decide ((cmpMo (atT zs (j - 1)).exp (atT zs j).exp) < 0))))
    refine JC.cond (.tmp rfl) (fun hc1 => ?_) (fun hc1 => ?_)
    · try simp only [Bool.and_eq_true, Bool.or_eq_true, Bool.not_eq_true', Bool.not_eq_false', Bool.and_eq_false_iff, Bool.or_eq_false_iff, Bool.not_true, Bool.not_false, decide_eq_true_eq, decide_eq_false_iff_not, beq_iff_eq, beq_eq_false_iff_ne, Bool.not_eq_eq_eq_not] at hc1
      have hs34 := hc1
      refine JC.skip ?_
      refine JQ.then_normal ?_
      refine JC.seq ?_
      refine JC.block ?_
      refine JC.drawF (Γ' := ?g2) (Γf := ?f2) (L' := ?l2) 15 [2, 3, 4] mo (by kernel_rfl) (by kernel_rfl) (fun _ _ _ _ _ h => h) ?fl2 ?tk2 ?tw2 ?ag2 ?k2
      case fl2 =>
        refine FL.cons (i := 2) rfl rfl (ltN rfl) rfl (opv_move rfl) (by kernel_rfl) (by kernel_rfl) ?_
        refine FL.cons (i := 3) rfl rfl (ltN rfl) rfl (opv_move rfl) (by kernel_rfl) (by kernel_rfl) ?_
        refine FL.cons (i := 4) rfl rfl (ltN rfl) rfl (opv_sub rfl (w64 (by omega) (by omega))) (by kernel_rfl) (by kernel_rfl) ?_
        exact FL.nil
      case tk2 => kernel_rfl
      case tw2 =>
        refine TW.op (ot_move (.tmp rfl)) rfl (ltN rfl) rfl ?_
        refine TW.op (ot_move (.tmp rfl)) rfl (ltN rfl) rfl ?_
        refine TW.op (ot_move (.tmp rfl)) rfl (ltN rfl) rfl ?_
        refine TW.op (ot_move (.tmp rfl)) rfl (ltN rfl) rfl ?_
        refine TW.op (ot_sub (.tmp rfl) .is (w64 (by omega) (by omega))) rfl (ltN rfl) rfl ?_
        refine TW.op (ot_move (.tmp rfl)) rfl (ltN rfl) rfl ?_
        refine TW.op (ot_move (.tmp rfl)) rfl (ltN rfl) rfl ?_
        refine TW.op (ot_sub (.tmp rfl) .is (w64 (by omega) (by omega))) rfl (ltN rfl) rfl ?_
        refine TW.op (ot_eqt (T' := pOwn b (0 + (j - 1) * 6)) (ot_index_own (.tmp rfl) (.tmp rfl) sl64 (by omega) (by omega)) (own_off2 (by omega))) rfl (ltN rfl) rfl ?_
        refine TW.op (ot_load_own_agg (.tmp rfl) (.head _) ag63 (row_agg rfl (atT_some (by omega)))) rfl (ltN rfl) rfl ?_
        refine TW.op (ot_move (.tmp rfl)) rfl (ltN rfl) rfl ?_
        refine TW.op (ot_move (.tmp rfl)) rfl (ltN rfl) rfl ?_
        refine TW.op (ot_eqt (T' := pOwn b (0 + j * 6)) (ot_index_own (.tmp rfl) (.tmp rfl) sl64 (by omega) (by omega)) (own_off2 (by omega))) rfl (ltN rfl) rfl ?_
        refine TW.op (ot_load_own_agg (.tmp rfl) (.head _) ag63 (row_agg rfl (atT_some (by omega)))) rfl (ltN rfl) rfl ?_
        refine TW.op (ot_eqt (T' := pOwn b (0 + j * 6)) (ot_index_own (.tmp rfl) (.tmp rfl) sl64 (by omega) (by omega)) (own_off2 (by omega))) rfl (ltN rfl) rfl ?_
        exact TW.nil
      case ag2 => exact ⟨⟨_, rfl, rfl⟩, ⟨_, rfl, rfl⟩, ⟨_, rfl, rfl⟩, trivial⟩
      refine J.store (.tmp rfl) (.tmp rfl) .here sz63 (row_set (by omega)) ?_
      refine J.op (ot_eqt (T' := pOwn b (0 + (j - 1) * 6)) (ot_index_own (.tmp rfl) (.tmp rfl) sl64 (by omega) (by omega)) (own_off2 (by omega))) rfl (ltN rfl) rfl ?_
      refine J.store (.tmp rfl) (.tmp rfl) .here sz63 (row_set (by simp; omega)) ?_
      refine J.nil ?_
      refine JQ.block_normal ?_
      refine JQ.then_normal ?_
      refine JC.region ?_
      refine J.op (ot_move (.tmp rfl)) rfl (ltN rfl) rfl ?_
      refine J.op (ot_sub (.tmp rfl) .is (w64 (by omega) (by omega))) rfl (ltN rfl) rfl ?_
      refine J.op (ot_assign (.tmp rfl)) rfl (ltN rfl) rfl ?_
      refine J.nil ?_
      exact JQ.round2 (i := j) (i2 := zs) (j - 1) ((zs.set j (atT zs (j - 1))).set (j - 1) (atT zs j)) ⟨by omega, by simpa using hzs, by rw [← hw]; exact siftT_go (by omega) (by simpa [cmpT] using hc1.2)⟩ (by omega) (sub_trans (sub_heap (.keep (fun _ _ h => by first | exact h | simpa using h) .nil)) (sub_cons (.tmp rfl) (sub_cons (.tmp rfl) (sub_cons (.tmp rfl) (sub_cons (.tmp rfl) (sub_cons (.tmp rfl) (sub_cons (.eq (.tmp rfl) (by first | rfl | (congr 3; omega) | (congr 2; omega))) (sub_cons (.tmp rfl) (sub_cons (.tmp rfl) (sub_cons (.tmp rfl) (sub_cons (.tmp rfl) (sub_nil))))))))))))
    · try simp only [Bool.and_eq_true, Bool.or_eq_true, Bool.not_eq_true', Bool.not_eq_false', Bool.and_eq_false_iff, Bool.or_eq_false_iff, Bool.not_true, Bool.not_false, decide_eq_true_eq, decide_eq_false_iff_not, beq_iff_eq, beq_eq_false_iff_ne, Bool.not_eq_eq_eq_not] at hc1
      have hs34 := hc1
      have hst : ¬ a < j ∨ ¬ cmpT (atT zs j) (atT zs (j - 1)) < 0 := by rcases hc1 with h | h; exact .inl (by omega); exact .inr (by simpa [cmpT] using h)
      refine JC.exit ?_
      refine JQ.then_exit ?_
      refine JQ.then_exit ?_
      refine JQ.block_exit ?_
      refine JQ.block_normal ?_
      refine JQ.then_normal ?_
      refine JC.region ?_
      refine J.op (ot_move (.tmp rfl)) rfl (ltN rfl) rfl ?_
      refine J.op (ot_add (.tmp rfl) .is (w64 (by omega) (by omega))) rfl (ltN rfl) rfl ?_
      refine J.op (ot_assign (.tmp rfl)) rfl (ltN rfl) rfl ?_
      refine J.nil ?_
      exact JQ.round2 (i := i) (i2 := ys) (i + 1) (siftT a i ys) ⟨by omega, by rw [siftT_len]; exact hys, by rw [← hv]; exact insT_step (by omega)⟩ (by omega) (sub_trans (sub_heap (.keep (cRow_eq (by rw [← hw, siftT_stop hst])) .nil)) (sub_cons (.tmp rfl) (sub_cons (.tmp rfl) (sub_cons (.tmp rfl) (sub_cons (.tmp rfl) (sub_cons (.eq (.tmp rfl) (by first | rfl | (congr 3; omega) | (congr 2; omega))) (sub_nil)))))))
  · try simp only [Bool.and_eq_true, Bool.or_eq_true, Bool.not_eq_true', Bool.not_eq_false', Bool.and_eq_false_iff, Bool.or_eq_false_iff, Bool.not_true, Bool.not_false, decide_eq_true_eq, decide_eq_false_iff_not, beq_iff_eq, beq_eq_false_iff_ne, Bool.not_eq_eq_eq_not] at hc0
    have hs14 := hc0
    refine JC.exit ?_
    refine JQ.then_exit ?_
    refine JQ.then_exit ?_
    refine JQ.block_exit ?_
    -- ret0
    exact (JQ.retL0 rfl (.head _) (cRow_eq (by rw [← hv, insT_end (by omega)]))).2

theorem stable_c (b c : Nat) (xs : List Tm) (hl : xs.length < 20) : CtrL Try.prog 73 [sIs b 0 (xs.length) (c), tIs (.int .i64 ((xs.length : Int))), tFn 59 []] b 63 (cRow encTm (xs) (c)) (cRow encTm (sortT xs) (c)) (tAny) := by
  refine CtrL.of Try.func73 rfl Try.ntmps73 (Nat.le_of_ble_eq_true rfl) fun w0 M0 => ?_
  refine JC.seq ?_
  refine JC.region ?_
  refine J.op (ot_assign .is) rfl (ltN rfl) rfl ?_
  refine J.nil ?_
  refine JQ.then_normal ?_
  refine JC.seq ?_
  refine JC.region ?_
  refine J.op (ot_move (.tmp rfl)) rfl (ltN rfl) rfl ?_
  refine J.op (ot_assign .is) rfl (ltN rfl) rfl ?_
  refine J.op (ot_assign (.tmp rfl)) rfl (ltN rfl) rfl ?_
  refine J.nil ?_
  refine JQ.then_normal ?_
  refine JC.seq ?_
  refine JC.block ?_
  refine JC.loop (ι := Nat) (fun i => [(0, sIs b 0 (xs.length) (c)), (1, tIs (.int .i64 ((xs.length : Int)))), (2, tFn 59 []), (6, tIs (.int .i64 (20))), (7, tIs (.int .i64 (0))), (8, tIs (.int .i64 (20)))]) (fun i => [⟨b, 63, cRow encTm (xs) (c)⟩]) (fun i => i = 0) (fun i => i) 0 (by omega) ?lsub0 ?round0
  case lsub0 => exact sub_trans (sub_heap (.keep (fun _ _ h => h) .nil)) (sub_cons (.tmp rfl) (sub_cons (.tmp rfl) (sub_cons (.tmp rfl) (sub_cons (.tmp rfl) (sub_cons (.tmp rfl) (sub_cons (.tmp rfl) (sub_nil)))))))
  intro i hinv
  refine JC.seq ?_
  refine JC.seq ?_
  refine JC.region ?_
  refine J.op (ot_move (.tmp rfl)) rfl (ltN rfl) rfl ?_
  refine J.op (ot_move (.tmp rfl)) rfl (ltN rfl) rfl ?_
  refine J.op (ot_leq (.tmp rfl) (.tmp rfl)) rfl (ltN rfl) rfl ?_
  refine J.nil ?_
  refine JQ.then_normal ?_
  refine JC.cond_false (.eq (.tmp rfl) (by rw [decide_eq_false (by omega)])) ?_
  refine JC.exit ?_
  refine JQ.then_exit ?_
  refine JQ.then_exit ?_
  refine JQ.block_exit ?_
  refine JQ.then_normal ?_
  refine JC.seq ?_
  refine JC.region ?_
  refine J.op (ot_move (.tmp rfl)) rfl (ltN rfl) rfl ?_
  refine J.op (ot_move (.tmp rfl)) rfl (ltN rfl) rfl ?_
  refine J.op (ot_move (.tmp rfl)) rfl (ltN rfl) rfl ?_
  refine J.op (ot_move (.tmp rfl)) rfl (ltN rfl) rfl ?_
  refine J.callL (R' := cRow encTm (sortT xs) (c)) (Us := []) (cap := []) fn82 (.func (fun _ => rfl)) (insert_c b c 0 xs.length xs (Nat.le_refl _) (Nat.zero_le _) (by omega)) (.cons (.tmp rfl) (.cons (.eq (.tmp rfl) (by rfl)) (.cons (.tmp rfl) (.cons (.tmp rfl) .nil)))) (fun _ => trivial) .here (ltN rfl) ?_
  refine J.nil ?_
  refine JQ.then_normal ?_
  refine JC.block ?_
  refine JC.loop (ι := Nat) (fun i => [(0, sIs b 0 (xs.length) (c)), (1, tIs (.int .i64 ((xs.length : Int)))), (2, tFn 59 []), (6, tIs (.int .i64 (20)))]) (fun i => [⟨b, 63, cRow encTm (sortT xs) (c)⟩]) (fun i => i = 0) (fun i => i) 0 (by omega) ?lsub1 ?round1
  case lsub1 => exact sub_trans (sub_heap (.keep (fun _ _ h => h) .nil)) (sub_cons (.tmp rfl) (sub_cons (.tmp rfl) (sub_cons (.tmp rfl) (sub_cons (.tmp rfl) (sub_nil)))))
  intro i hinv
  refine JC.seq ?_
  refine JC.seq ?_
  refine JC.region ?_
  refine J.op (ot_move (.tmp rfl)) rfl (ltN rfl) rfl ?_
  refine J.op (ot_move (.tmp rfl)) rfl (ltN rfl) rfl ?_
  refine J.op (ot_lss (.tmp rfl) (.tmp rfl)) rfl (ltN rfl) rfl ?_
  refine J.nil ?_
  refine JQ.then_normal ?_
  refine JC.cond_false (.eq (.tmp rfl) (by rw [decide_eq_false (by omega)])) ?_
  refine JC.exit ?_
  refine JQ.then_exit ?_
  refine JQ.then_exit ?_
  refine JQ.block_exit ?_
  -- ret0
  exact (JQ.retL0 rfl (.head _) (fun _ _ h => h)).2

theorem sort_c (b c : Nat) (xs : List Tm) (hl : xs.length < 20) : CtrL Try.prog 58 [sIs b 0 (xs.length) (c), tFn 59 []] b 63 (cRow encTm (xs) (c)) (cRow encTm (sortT xs) (c)) (tAny) := by
  refine CtrL.of Try.func58 rfl Try.ntmps58 (Nat.le_of_ble_eq_true rfl) fun w0 M0 => ?_
  refine JC.region ?_
  refine J.op (ot_move (.tmp rfl)) rfl (ltN rfl) rfl ?_
  refine J.op (ot_move (.tmp rfl)) rfl (ltN rfl) rfl ?_
  refine J.op (ot_len_own (.tmp rfl) sl65 rfl) rfl (ltN rfl) rfl ?_
  refine J.op (ot_move (.tmp rfl)) rfl (ltN rfl) rfl ?_
  refine J.callL (R' := cRow encTm (sortT xs) (c)) (Us := []) (cap := []) fn73 (.func (fun _ => rfl)) (stable_c b c xs (by omega)) (.cons (.tmp rfl) (.cons (.tmp rfl) (.cons (.tmp rfl) .nil))) (fun _ => trivial) .here (ltN rfl) ?_
  refine J.nil ?_
  -- ret0
  exact (JQ.retL0 rfl (.head _) (fun _ _ h => h)).2

theorem insert0_c  : Ctr Try.prog 82 [tIs (.slice none 0 0), tIs (.int .i64 (0)), tIs (.int .i64 (0)), tFn 59 []] (tAny) := by
  refine Ctr.of Try.func82 rfl Try.ntmps82 (Nat.le_of_ble_eq_true rfl) fun w0 M0 => ?_
  refine JC.seq ?_
  refine JC.region ?_
  refine J.op (ot_move (.tmp rfl)) rfl (ltN rfl) rfl ?_
  refine J.op (ot_add (.tmp rfl) .is (w64 (by omega) (by omega))) rfl (ltN rfl) rfl ?_
  refine J.op (ot_assign (.tmp rfl)) rfl (ltN rfl) rfl ?_
  refine J.nil ?_
  refine JQ.then_normal ?_
  refine JC.block ?_
  refine JC.loop (ι := Nat) (fun i => [(0, tIs (.slice none 0 0)), (1, tIs (.int .i64 (0))), (2, tIs (.int .i64 (0))), (3, tFn 59 []), (8, tIs (.int .i64 (1)))]) (fun i => []) (fun i => i = 0) (fun i => i) 0 (by omega) ?lsub0 ?round0
  case lsub0 => exact sub_trans (sub_heap .nil) (sub_cons (.tmp rfl) (sub_cons (.tmp rfl) (sub_cons (.tmp rfl) (sub_cons (.tmp rfl) (sub_cons (.eq (.tmp rfl) (by rfl)) (sub_nil))))))
  intro i hinv
  refine JC.seq ?_
  refine JC.seq ?_
  refine JC.region ?_
  refine J.op (ot_move (.tmp rfl)) rfl (ltN rfl) rfl ?_
  refine J.op (ot_move (.tmp rfl)) rfl (ltN rfl) rfl ?_
  refine J.op (ot_lss (.tmp rfl) (.tmp rfl)) rfl (ltN rfl) rfl ?_
  refine J.nil ?_
  refine JQ.then_normal ?_
  refine JC.cond_false (.eq (.tmp rfl) (by rfl)) ?_
  refine JC.exit ?_
  refine JQ.then_exit ?_
  refine JQ.then_exit ?_
  refine JQ.block_exit ?_
  -- ret0
  exact (JQ.ret0 rfl).2

theorem stable0_c  : Ctr Try.prog 73 [tIs (.slice none 0 0), tIs (.int .i64 (0)), tFn 59 []] (tAny) := by
  refine Ctr.of Try.func73 rfl Try.ntmps73 (Nat.le_of_ble_eq_true rfl) fun w0 M0 => ?_
  refine JC.seq ?_
  refine JC.region ?_
  refine J.op (ot_assign .is) rfl (ltN rfl) rfl ?_
  refine J.nil ?_
  refine JQ.then_normal ?_
  refine JC.seq ?_
  refine JC.region ?_
  refine J.op (ot_move (.tmp rfl)) rfl (ltN rfl) rfl ?_
  refine J.op (ot_assign .is) rfl (ltN rfl) rfl ?_
  refine J.op (ot_assign (.tmp rfl)) rfl (ltN rfl) rfl ?_
  refine J.nil ?_
  refine JQ.then_normal ?_
  refine JC.seq ?_
  refine JC.block ?_
  refine JC.loop (ι := Nat) (fun i => [(0, tIs (.slice none 0 0)), (1, tIs (.int .i64 (0))), (2, tFn 59 []), (6, tIs (.int .i64 (20))), (7, tIs (.int .i64 (0))), (8, tIs (.int .i64 (20)))]) (fun i => []) (fun i => i = 0) (fun i => i) 0 (by omega) ?lsub0 ?round0
  case lsub0 => exact sub_trans (sub_heap .nil) (sub_cons (.tmp rfl) (sub_cons (.tmp rfl) (sub_cons (.tmp rfl) (sub_cons (.tmp rfl) (sub_cons (.tmp rfl) (sub_cons (.tmp rfl) (sub_nil)))))))
  intro i hinv
  refine JC.seq ?_
  refine JC.seq ?_
  refine JC.region ?_
  refine J.op (ot_move (.tmp rfl)) rfl (ltN rfl) rfl ?_
  refine J.op (ot_move (.tmp rfl)) rfl (ltN rfl) rfl ?_
  refine J.op (ot_leq (.tmp rfl) (.tmp rfl)) rfl (ltN rfl) rfl ?_
  refine J.nil ?_
  refine JQ.then_normal ?_
  refine JC.cond_false (.eq (.tmp rfl) (by rfl)) ?_
  refine JC.exit ?_
  refine JQ.then_exit ?_
  refine JQ.then_exit ?_
  refine JQ.block_exit ?_
  refine JQ.then_normal ?_
  refine JC.seq ?_
  refine JC.region ?_
  refine J.op (ot_move (.tmp rfl)) rfl (ltN rfl) rfl ?_
  refine J.op (ot_move (.tmp rfl)) rfl (ltN rfl) rfl ?_
  refine J.op (ot_move (.tmp rfl)) rfl (ltN rfl) rfl ?_
  refine J.op (ot_move (.tmp rfl)) rfl (ltN rfl) rfl ?_
  refine J.op (ot_call fn82 (insert0_c  ) (.cons (.tmp rfl) (.cons (.tmp rfl) (.cons (.tmp rfl) (.cons (.tmp rfl) .nil))))) rfl (ltN rfl) rfl ?_
  refine J.nil ?_
  refine JQ.then_normal ?_
  refine JC.block ?_
  refine JC.loop (ι := Nat) (fun i => [(0, tIs (.slice none 0 0)), (1, tIs (.int .i64 (0))), (2, tFn 59 []), (6, tIs (.int .i64 (20)))]) (fun i => []) (fun i => i = 0) (fun i => i) 0 (by omega) ?lsub1 ?round1
  case lsub1 => exact sub_trans (sub_heap .nil) (sub_cons (.tmp rfl) (sub_cons (.tmp rfl) (sub_cons (.tmp rfl) (sub_cons (.tmp rfl) (sub_nil)))))
  intro i hinv
  refine JC.seq ?_
  refine JC.seq ?_
  refine JC.region ?_
  refine J.op (ot_move (.tmp rfl)) rfl (ltN rfl) rfl ?_
  refine J.op (ot_move (.tmp rfl)) rfl (ltN rfl) rfl ?_
  refine J.op (ot_lss (.tmp rfl) (.tmp rfl)) rfl (ltN rfl) rfl ?_
  refine J.nil ?_
  refine JQ.then_normal ?_
  refine JC.cond_false (.eq (.tmp rfl) (by rfl)) ?_
  refine JC.exit ?_
  refine JQ.then_exit ?_
  refine JQ.then_exit ?_
  refine JQ.block_exit ?_
  -- ret0
  exact (JQ.ret0 rfl).2

theorem sort0_c  : Ctr Try.prog 58 [tIs (.slice none 0 0), tFn 59 []] (tAny) := by
  refine Ctr.of Try.func58 rfl Try.ntmps58 (Nat.le_of_ble_eq_true rfl) fun w0 M0 => ?_
  refine JC.region ?_
  refine J.op (ot_move (.tmp rfl)) rfl (ltN rfl) rfl ?_
  refine J.op (ot_move (.tmp rfl)) rfl (ltN rfl) rfl ?_
  refine J.op (ot_len_nil (.tmp rfl) sl65 rfl) rfl (ltN rfl) rfl ?_
  refine J.op (ot_move (.tmp rfl)) rfl (ltN rfl) rfl ?_
  refine J.op (ot_call fn73 (stable0_c  ) (.cons (.tmp rfl) (.cons (.tmp rfl) (.cons (.tmp rfl) .nil)))) rfl (ltN rfl) rfl ?_
  refine J.nil ?_
  -- ret0
  exact (JQ.ret0 rfl).2

end Go.Proofs.Ytkpmcldbcljkfaa
