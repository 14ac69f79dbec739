/- Walks through the program: each function called at values of the kinds that its contract names returns what the contract says. Conditions: those in the contracts. Written by the program wip/gen. -/
import Derived.Test.YtkpmcldbcljkfaaW4
set_option linter.unusedVariables false
set_option linter.unusedSimpArgs false
set_option maxRecDepth 100000
namespace Go.Proofs.Ytkpmcldbcljkfaa
open Go Go.RowKit Go.Rt
theorem of_c {B D : Nat} (ts : List Tm) (hl : ts.length < 20) (hd : ∀ t ∈ ts, Digs t.coef.abs) (hz : ∀ t ∈ ts, t.coef.abs.length ≤ B) (hb : B ≤ 1000000000000) (hm : ∀ t ∈ normS ts, ∀ i, i < 4 → t.exp.at i < 4294967295) (hc : ∀ t ∈ normS ts, t.coef.abs.length ≤ D) (hD : D ≤ 100000000000) : Ctr Try.prog 33 [tSl encTm (ts)] (tV encP (ofS (normS ts))) := by
  have hnl : (normS ts).length < 20 := Nat.lt_of_le_of_lt (normS_len ts) hl
  have hcf : ∀ t ∈ normS ts, (ofI (zval t.coef)).abs.length ≤ D := fun t h => by rw [← normS_ofI h]; exact hc t h
  have hm2 : ∀ t ∈ normS ts, ∀ i, i < 4 → t.exp.at i < 4294967296 := fun t h i hi => by have := hm t h i hi; omega
  refine Ctr.ofM Try.func33 rfl Try.ntmps33 (Nat.le_of_ble_eq_true rfl) fun w0 M0 => ?_
  refine JC.seq ?_
  refine JC.region ?_
  refine J.alloc (R := cTs [tIs (.int .i64 (0)), tIs (.bool (false)), tSl encD ([]), tSl encP ([])]) zr28 (fun _ => ⟨rfl, rfl, rfl, rfl, slP_nil _ _, rfl, slP_nil _ _, rfl, trivial⟩) (ltN rfl) fun b2 => ?_
  refine J.nil ?_
  refine JQ.then_normal ?_
  refine JC.seq ?_
  refine JC.region ?_
  refine J.op (ot_eqt (T' := tV encP (Pol.mk (0) (Z.mk (false) ([])) ([]))) (ot_build (Ts := [tIs (.int .i64 (0)), tIs (.bool (false)), tSl encD ([]), tSl encP ([])]) pl28 (fun _ => ⟨rfl, rfl, rfl, rfl, slP_nil _ _, rfl, slP_nil _ _, rfl, trivial⟩) (.nil) rfl) (tV_F' (polT_eq _))) rfl (ltN rfl) rfl ?_
  refine J.alloc (R := cTs [tIs (.int .i64 (0)), tIs (.bool (false)), tSl encD ([]), tSl encP ([])]) zr28 (fun _ => ⟨rfl, rfl, rfl, rfl, slP_nil _ _, rfl, slP_nil _ _, rfl, trivial⟩) (ltN rfl) fun b3 => ?_
  refine J.store (.tmp rfl) (.eq (.tmp rfl) (tV_F (Ts := [tIs (.int .i64 (0)), tIs (.bool (false)), tSl encD ([]), tSl encP ([])]) (polT_eq _))) .here sz28 (st_agg (Ts' := [tIs (.int .i64 (0)), tIs (.bool (false)), tSl encD ([]), tSl encP ([])]) (o := 0) rfl) ?_
  refine J.nil ?_
  refine JQ.then_normal ?_
  refine JC.seq ?_
  refine JC.seq ?_
  refine JC.region ?_
  refine J.op (ot_move (.tmp rfl)) rfl (ltN rfl) rfl ?_
  refine J.op (ot_call fn51 (spterms_c ts (by assumption) (by assumption) (by assumption) (by assumption)) (.cons (.tmp rfl) .nil)) rfl (ltN rfl) rfl ?_
  refine J.nil ?_
  refine JQ.then_normal ?_
  refine JC.block ?_
  refine JC.rangeFunc (ps := [13, 14]) (f := 69) (Us := [tPtr (cTs [tSl encTm (normS ts)])]) (n := (normS ts).length) (Ts := fun k => [tV encMo ((atT (normS ts) k).exp), tV encI (ofI (zval (atT (normS ts) k).coef))]) (Γ0 := [(2, pOwn b2 (0)), (3, pOwn b3 (0)), (12, tClo 69 [tPtr (cTs [tSl encTm (normS ts)])])]) (fun k => [⟨b3, 28, cTs [tIs (.int .i64 ((ofK (normS ts) k).lv)), tIs (.bool (((ofK (normS ts) k).c).neg)), tSl encD (((ofK (normS ts) k).c).abs), tSl encP ((ofK (normS ts) k).cs)]⟩, ⟨b2, 28, cTs [tIs (.int .i64 (0)), tIs (.bool (false)), tSl encD ([]), tSl encP ([])]⟩]) (.tmp rfl) fn69 (termsY (normS ts) (by omega) (fun t h => Nat.le_trans (hc t h) (by omega))) rfl ?rs0 (fun _ => rfl) rfl (fun _ => rfl) ?rr0 ?rd0
  case rs0 => exact sub_trans (sub_heap (.keep (fun _ _ h => h) (.keep (fun _ _ h => h) .nil))) (sub_cons (.tmp rfl) (sub_cons (.tmp rfl) (sub_cons (.tmp rfl) (sub_nil))))
  case rr0 =>
    intro k hk l w0 M0 L Q1 hend1
    have hmk := hm _ (atT_mem hk)
    have hck := hcf _ (atT_mem hk)
    have hft := ofK_fit hm2 hcf k (by omega)
    have htf := termP_fit (hm2 _ (atT_mem hk)) hck
    refine JCR.weak (Γ' := [(14, tV encI (ofI (zval (atT (normS ts) k).coef))), (13, tV encMo ((atT (normS ts) k).exp)), (2, pOwn b2 (0)), (3, pOwn b3 (0)), (12, tClo 69 [tPtr (cTs [tSl encTm (normS ts)])])]) (H' := [⟨b3, 28, cTs [tIs (.int .i64 ((ofK (normS ts) k).lv)), tIs (.bool (((ofK (normS ts) k).c).neg)), tSl encD (((ofK (normS ts) k).c).abs), tSl encP ((ofK (normS ts) k).cs)]⟩, ⟨b2, 28, cTs [tIs (.int .i64 (0)), tIs (.bool (false)), tSl encD ([]), tSl encP ([])]⟩]) (fun _ _ h => h) ?_
    refine JCR.seq ?_
    refine JCR.region ?_
    refine J.alloc (R := cTs [tIs (.int .i64 (0)), tIs (.int .i64 (0)), tIs (.int .i64 (0)), tIs (.int .i64 (0))]) zr61 (fun _ => ⟨rfl, rfl, rfl, rfl, rfl, rfl, rfl, rfl, trivial⟩) (ltN rfl) fun b4 => ?_
    refine J.store (.tmp rfl) (.eq (.tmp rfl) (tV_F (Ts := [tIs (.int .i64 (((atT (normS ts) k).exp).a)), tIs (.int .i64 (((atT (normS ts) k).exp).b)), tIs (.int .i64 (((atT (normS ts) k).exp).c)), tIs (.int .i64 (((atT (normS ts) k).exp).d))]) rfl)) .here sz61 (st_agg (Ts' := [tIs (.int .i64 (((atT (normS ts) k).exp).a)), tIs (.int .i64 (((atT (normS ts) k).exp).b)), tIs (.int .i64 (((atT (normS ts) k).exp).c)), tIs (.int .i64 (((atT (normS ts) k).exp).d))]) (o := 0) rfl) ?_
    refine J.nil ?_
    refine JQR.then_normal ?_
    refine JCR.region ?_
    refine J.alloc (R := cTs [tIs (.bool (false)), tSl encD ([])]) zr25 (fun _ => ⟨rfl, rfl, slP_nil _ _, rfl, trivial⟩) (ltN rfl) fun b5 => ?_
    refine J.store (.tmp rfl) (.eq (.tmp rfl) (tV_F (Ts := [tIs (.bool ((ofI (zval (atT (normS ts) k).coef)).neg)), tSl encD ((ofI (zval (atT (normS ts) k).coef)).abs)]) rfl)) .here sz25 (st_agg (Ts' := [tIs (.bool ((ofI (zval (atT (normS ts) k).coef)).neg)), tSl encD ((ofI (zval (atT (normS ts) k).coef)).abs)]) (o := 0) rfl) ?_
    refine J.nil ?_
    refine hend1 _ _ fun w1 M1 L1 Q2 hend2 => ?_
    refine JCR.block ?_
    refine JCR.seq ?_
    refine JCR.region ?_
    refine J.op (ot_load_own_agg (.tmp rfl) (.head _) ag25 (cTs_ldV (g := zT) (y := (ofI (zval (atT (normS ts) k).coef))) rfl rfl)) rfl (ltN rfl) rfl ?_
    refine J.op (ot_eqt (T' := tV encP (Pol.mk (0) (ofI (zval (atT (normS ts) k).coef)) ([]))) (ot_build (Ts := [tIs (.int .i64 (0)), tIs (.bool (false)), tSl encD ([]), tSl encP ([])]) pl28 (fun _ => ⟨rfl, rfl, rfl, rfl, slP_nil _ _, rfl, slP_nil _ _, rfl, trivial⟩) ((.agg (off := 1) rfl (.eq (.tmp rfl) (tV_F (Ts := [tIs (.bool ((ofI (zval (atT (normS ts) k).coef)).neg)), tSl encD ((ofI (zval (atT (normS ts) k).coef)).abs)]) rfl)) (Ts' := [tIs (.int .i64 (0)), tIs (.bool ((ofI (zval (atT (normS ts) k).coef)).neg)), tSl encD ((ofI (zval (atT (normS ts) k).coef)).abs), tSl encP ([])]) rfl rfl .nil)) rfl) (tV_F' (polT_eq _))) rfl (ltN rfl) rfl ?_
    refine J.alloc (R := cTs [tIs (.int .i64 (0)), tIs (.bool (false)), tSl encD ([]), tSl encP ([])]) zr28 (fun _ => ⟨rfl, rfl, rfl, rfl, slP_nil _ _, rfl, slP_nil _ _, rfl, trivial⟩) (ltN rfl) fun b6 => ?_
    refine J.store (.tmp rfl) (.eq (.tmp rfl) (tV_F (Ts := [tIs (.int .i64 (0)), tIs (.bool ((ofI (zval (atT (normS ts) k).coef)).neg)), tSl encD ((ofI (zval (atT (normS ts) k).coef)).abs), tSl encP ([])]) (polT_eq _))) .here sz28 (st_agg (Ts' := [tIs (.int .i64 (0)), tIs (.bool ((ofI (zval (atT (normS ts) k).coef)).neg)), tSl encD ((ofI (zval (atT (normS ts) k).coef)).abs), tSl encP ([])]) (o := 0) rfl) ?_
    refine J.nil ?_
    refine JQR.then_normal ?_
    refine JCR.seq ?_
    refine JCR.seq ?_
    refine JCR.region ?_
    refine J.op (ot_load_own_agg (.tmp rfl) (.tail _ (.tail _ (.head _))) ag61 (cTs_ldV (g := moT) (y := ((atT (normS ts) k).exp)) rfl rfl)) rfl (ltN rfl) rfl ?_
    refine J.op (ot_move .is) rfl (ltN rfl) rfl ?_
    refine J.nil ?_
    refine JQR.then_normal ?_
    refine JCR.block ?_
    refine JCR.loop (ι := Nat) (fun i => [(2, pOwn b2 (0)), (3, pOwn b3 (0)), (6, pOwn b6 (0)), (17, tV encMo ((atT (normS ts) k).exp)), (18, tIs (.int .i64 (((i : Nat) : Int))))]) (fun i => [⟨b6, 28, cTs [tIs (.int .i64 ((monoP (atT (normS ts) k).exp (Pol.mk 0 (ofI (zval (atT (normS ts) k).coef)) []) i).lv)), tIs (.bool (((monoP (atT (normS ts) k).exp (Pol.mk 0 (ofI (zval (atT (normS ts) k).coef)) []) i).c).neg)), tSl encD (((monoP (atT (normS ts) k).exp (Pol.mk 0 (ofI (zval (atT (normS ts) k).coef)) []) i).c).abs), tSl encP ((monoP (atT (normS ts) k).exp (Pol.mk 0 (ofI (zval (atT (normS ts) k).coef)) []) i).cs)]⟩, ⟨b5, 25, cTs [tIs (.bool ((ofI (zval (atT (normS ts) k).coef)).neg)), tSl encD ((ofI (zval (atT (normS ts) k).coef)).abs)]⟩, ⟨b4, 61, cTs [tIs (.int .i64 (((atT (normS ts) k).exp).a)), tIs (.int .i64 (((atT (normS ts) k).exp).b)), tIs (.int .i64 (((atT (normS ts) k).exp).c)), tIs (.int .i64 (((atT (normS ts) k).exp).d))]⟩, ⟨b3, 28, cTs [tIs (.int .i64 ((ofK (normS ts) k).lv)), tIs (.bool (((ofK (normS ts) k).c).neg)), tSl encD (((ofK (normS ts) k).c).abs), tSl encP ((ofK (normS ts) k).cs)]⟩, ⟨b2, 28, cTs [tIs (.int .i64 (0)), tIs (.bool (false)), tSl encD ([]), tSl encP ([])]⟩]) (fun i => i ≤ 4) (fun i => 4 - i) 0 (by omega) ?lsub0 ?round0
    case lsub0 => exact sub_trans (sub_heap (.keep (fun _ _ h => h) (.keep (fun _ _ h => h) (.keep (fun _ _ h => h) (.keep (fun _ _ h => h) (.keep (fun _ _ h => h) .nil)))))) (sub_cons (.tmp rfl) (sub_cons (.tmp rfl) (sub_cons (.tmp rfl) (sub_cons (.tmp rfl) (sub_cons (.eq (.tmp rfl) (by first | rfl | (congr 3; omega) | (congr 2; omega))) (sub_nil))))))
    intro i hinv
    refine JCR.seq ?_
    refine JCR.region ?_
    refine J.op (ot_lss (.tmp rfl) .is) rfl (ltN rfl) rfl ?_
    refine J.nil ?_
    refine JQR.then_normal ?_
    refine JCR.seq ?_
    -- cond0: tIs (.bool (decide (((i : Nat) : Int) < 4)))
    refine JCR.cond (.tmp rfl) (fun hc0 => ?_) (fun hc0 => ?_)
    · try simp only [Bool.and_eq_true, Bool.or_eq_true, Bool.not_eq_true', Bool.not_eq_false', Bool.and_eq_false_iff, Bool.or_eq_false_iff, Bool.not_true, Bool.not_false, decide_eq_true_eq, decide_eq_false_iff_not, beq_iff_eq, beq_eq_false_iff_ne, Bool.not_eq_eq_eq_not] at hc0
      have hs19 := hc0
      refine JCR.skip ?_
      refine JQR.then_normal ?_
      refine JCR.seq ?_
      refine JCR.block ?_
      refine JCR.seq ?_
      refine JCR.region ?_
      refine J.op (ot_move (.tmp rfl)) rfl (ltN rfl) rfl ?_
      refine J.op (ot_eqt (T' := tIs (.int .i64 (((atT (normS ts) k).exp).at i))) (ot_indexA (.tmp rfl) (.tmp rfl) ar4_61 (by omega) (by omega)) (by congr 3 <;> omega)) rfl (ltN rfl) rfl ?_
      refine J.op (ot_assign (.tmp rfl)) rfl (ltN rfl) rfl ?_
      refine J.op (ot_assign (.tmp rfl)) rfl (ltN rfl) rfl ?_
      refine J.nil ?_
      refine JQR.then_normal ?_
      refine JCR.seq ?_
      refine JCR.region ?_
      refine J.op (ot_move (.tmp rfl)) rfl (ltN rfl) rfl ?_
      refine J.op (ot_gtr (.tmp rfl) .is) rfl (ltN rfl) rfl ?_
      refine J.nil ?_
      refine JQR.then_normal ?_
      -- cond1: tIs (.bool (decide (0 < (((atT (normS ts) k).exp).at i))))
      refine JCR.cond (.tmp rfl) (fun hc1 => ?_) (fun hc1 => ?_)
      · try simp only [Bool.and_eq_true, Bool.or_eq_true, Bool.not_eq_true', Bool.not_eq_false', Bool.and_eq_false_iff, Bool.or_eq_false_iff, Bool.not_true, Bool.not_false, decide_eq_true_eq, decide_eq_false_iff_not, beq_iff_eq, beq_eq_false_iff_ne, Bool.not_eq_eq_eq_not] at hc1
        have hs23 := hc1
        have hmi := hmk i (by omega)
        refine JCR.seq ?_
        refine JCR.region ?_
        refine J.op (ot_move (.tmp rfl)) rfl (ltN rfl) rfl ?_
        refine J.op (ot_add (.tmp rfl) .is (w64 (by omega) (by omega))) rfl (ltN rfl) rfl ?_
        refine J.make (E := encP) (z := p0) (n := ((atT (normS ts) k).exp.at i).toNat + 1) sl26 (.eq (.tmp rfl) (by congr 2; omega)) (.eq (.tmp rfl) (by congr 2; omega)) zr28 (fun _ => encP_zero) (by decide) (by omega) (by omega) (ltN rfl) fun b26 => ?_
        refine J.op (ot_assign (.tmp rfl)) rfl (ltN rfl) rfl ?_
        refine J.nil ?_
        refine JQR.then_normal ?_
        refine JCR.seq ?_
        refine JCR.region ?_
        refine J.op (ot_move (.tmp rfl)) rfl (ltN rfl) rfl ?_
        refine J.op (ot_move (.tmp rfl)) rfl (ltN rfl) rfl ?_
        refine J.op (ot_load_own_agg (.tmp rfl) (.tail _ (.head _)) ag28 (cTs_ldV (g := polT) (y := (monoP (atT (normS ts) k).exp (Pol.mk 0 (ofI (zval (atT (normS ts) k).coef)) []) i)) (polT_eq (monoP (atT (normS ts) k).exp (Pol.mk 0 (ofI (zval (atT (normS ts) k).coef)) []) i)).symm rfl)) rfl (ltN rfl) rfl ?_
        refine J.op (ot_eqt (T' := pOwn b26 (0 + (((atT (normS ts) k).exp.at i).toNat) * 4)) (ot_index_own (.tmp rfl) (.tmp rfl) sl26 (by omega) (by omega)) (own_off2 (by omega))) rfl (ltN rfl) rfl ?_
        refine J.store (.tmp rfl) (.tmp rfl) .here sz28 (row_set (by simp)) ?_
        refine J.nil ?_
        refine JQR.then_normal ?_
        refine JCR.weak (sub_freeze0 (E := encP) (xs := (List.replicate (((atT (normS ts) k).exp.at i).toNat + 1) p0).set (((atT (normS ts) k).exp.at i).toNat) (monoP (atT (normS ts) k).exp (Pol.mk 0 (ofI (zval (atT (normS ts) k).coef)) []) i)) (n := ((atT (normS ts) k).exp.at i).toNat + 1) (c := ((atT (normS ts) k).exp.at i).toNat + 1) [27, 9, 26] ⟨rfl, rfl, rfl, trivial⟩ .here (by simp) (by omega)) ?_
        refine JCR.region ?_
        refine J.op (ot_move (.tmp rfl)) rfl (ltN rfl) rfl ?_
        refine J.op (ot_add (.tmp rfl) .is (w64 (by omega) (by omega))) rfl (ltN rfl) rfl ?_
        refine J.op (ot_move (.tmp rfl)) rfl (ltN rfl) rfl ?_
        refine J.op (ot_eqt (T' := tV encP (Pol.mk (((i : Nat) : Int) + 1) (Z.mk (false) ([])) ((List.replicate (((atT (normS ts) k).exp.at i).toNat + 1) p0).set (((atT (normS ts) k).exp.at i).toNat) (monoP (atT (normS ts) k).exp (Pol.mk 0 (ofI (zval (atT (normS ts) k).coef)) []) i)))) (ot_build (Ts := [tIs (.int .i64 (0)), tIs (.bool (false)), tSl encD ([]), tSl encP ([])]) pl28 (fun _ => ⟨rfl, rfl, rfl, rfl, slP_nil _ _, rfl, slP_nil _ _, rfl, trivial⟩) ((.one (off := 0) rfl (.tmp rfl) (one_is rfl rfl) (Ts' := [tIs (.int .i64 (((i : Nat) : Int) + 1)), tIs (.bool (false)), tSl encD ([]), tSl encP ([])]) rfl rfl (.one (off := 3) rfl (.tmp rfl) (one_sl) (Ts' := [tIs (.int .i64 (((i : Nat) : Int) + 1)), tIs (.bool (false)), tSl encD ([]), tSl encP ((List.replicate (((atT (normS ts) k).exp.at i).toNat + 1) p0).set (((atT (normS ts) k).exp.at i).toNat) (monoP (atT (normS ts) k).exp (Pol.mk 0 (ofI (zval (atT (normS ts) k).coef)) []) i))]) rfl rfl .nil))) rfl) (tV_F' (polT_eq _))) rfl (ltN rfl) rfl ?_
        refine J.store (.tmp rfl) (.eq (.tmp rfl) (tV_F (Ts := [tIs (.int .i64 (((i : Nat) : Int) + 1)), tIs (.bool (false)), tSl encD ([]), tSl encP ((List.replicate (((atT (normS ts) k).exp.at i).toNat + 1) p0).set (((atT (normS ts) k).exp.at i).toNat) (monoP (atT (normS ts) k).exp (Pol.mk 0 (ofI (zval (atT (normS ts) k).coef)) []) i))]) (polT_eq _))) .here sz28 (st_agg (Ts' := [tIs (.int .i64 (((i : Nat) : Int) + 1)), tIs (.bool (false)), tSl encD ([]), tSl encP ((List.replicate (((atT (normS ts) k).exp.at i).toNat + 1) p0).set (((atT (normS ts) k).exp.at i).toNat) (monoP (atT (normS ts) k).exp (Pol.mk 0 (ofI (zval (atT (normS ts) k).coef)) []) i))]) (o := 0) rfl) ?_
        refine J.nil ?_
        refine JQ.block_normal ?_
        refine JQR.then_normal ?_
        refine JCR.region ?_
        refine J.op (ot_add (.tmp rfl) .is (w64 (by omega) (by omega))) rfl (ltN rfl) rfl ?_
        refine J.op (ot_move (.tmp rfl)) rfl (ltN rfl) rfl ?_
        refine J.nil ?_
        exact JQ.round (i + 1) (by omega) (by omega) (sub_trans (sub_heap (.keep (fun _ _ h => by rw [← monoP_yes (by omega)]; exact h) (.keep (fun _ _ h => h) (.keep (fun _ _ h => h) (.keep (fun _ _ h => h) (.keep (fun _ _ h => h) .nil)))))) (sub_cons (.tmp rfl) (sub_cons (.tmp rfl) (sub_cons (.tmp rfl) (sub_cons (.tmp rfl) (sub_cons (.eq (.tmp rfl) (by first | rfl | (congr 3; omega) | (congr 2; omega))) (sub_nil)))))))
      · try simp only [Bool.and_eq_true, Bool.or_eq_true, Bool.not_eq_true', Bool.not_eq_false', Bool.and_eq_false_iff, Bool.or_eq_false_iff, Bool.not_true, Bool.not_false, decide_eq_true_eq, decide_eq_false_iff_not, beq_iff_eq, beq_eq_false_iff_ne, Bool.not_eq_eq_eq_not] at hc1
        have hs23 := hc1
        have hno := monoP_no (m := (atT (normS ts) k).exp) (t := Pol.mk 0 (ofI (zval (atT (normS ts) k).coef)) []) (i := i) (by omega)
        refine JCR.skip ?_
        refine JQ.block_normal ?_
        refine JQR.then_normal ?_
        refine JCR.region ?_
        refine J.op (ot_add (.tmp rfl) .is (w64 (by omega) (by omega))) rfl (ltN rfl) rfl ?_
        refine J.op (ot_move (.tmp rfl)) rfl (ltN rfl) rfl ?_
        refine J.nil ?_
        exact JQ.round (i + 1) (by omega) (by omega) (sub_trans (sub_heap (.keep (fun _ _ h => hno ▸ h) (.keep (fun _ _ h => h) (.keep (fun _ _ h => h) (.keep (fun _ _ h => h) (.keep (fun _ _ h => h) .nil)))))) (sub_cons (.tmp rfl) (sub_cons (.tmp rfl) (sub_cons (.tmp rfl) (sub_cons (.tmp rfl) (sub_cons (.eq (.tmp rfl) (by first | rfl | (congr 3; omega) | (congr 2; omega))) (sub_nil)))))))
    · try simp only [Bool.and_eq_true, Bool.or_eq_true, Bool.not_eq_true', Bool.not_eq_false', Bool.and_eq_false_iff, Bool.or_eq_false_iff, Bool.not_true, Bool.not_false, decide_eq_true_eq, decide_eq_false_iff_not, beq_iff_eq, beq_eq_false_iff_ne, Bool.not_eq_eq_eq_not] at hc0
      have hs19 := hc0
      refine JCR.exit ?_
      refine JQ.then_exit ?_
      refine JQ.then_exit ?_
      refine JQ.block_exit ?_
      refine JQR.then_normal ?_
      refine JCR.region ?_
      refine J.op (ot_load_own_agg (.tmp rfl) (.tail _ (.tail _ (.tail _ (.head _)))) ag28 (cTs_ldV (g := polT) (y := (ofK (normS ts) k)) (polT_eq (ofK (normS ts) k)).symm rfl)) rfl (ltN rfl) rfl ?_
      refine J.op (ot_load_own_agg (.tmp rfl) (.head _) ag28 (cTs_ldV (g := polT) (y := (monoP (atT (normS ts) k).exp (Pol.mk 0 (ofI (zval (atT (normS ts) k).coef)) []) i)) (polT_eq (monoP (atT (normS ts) k).exp (Pol.mk 0 (ofI (zval (atT (normS ts) k).coef)) []) i)).symm rfl)) rfl (ltN rfl) rfl ?_
      refine J.op (ot_call fn46 (add_c 4 (ofK (normS ts) k) (monoP (atT (normS ts) k).exp (Pol.mk 0 (ofI (zval (atT (normS ts) k).coef)) []) i) (ofK_lev _ _) ((monoP_lev i).mono (by omega)) hft ((monoP_fit (hm2 _ (atT_mem hk)) (.mk (digs_dig _) hck (Nat.zero_le _) (fun q h => by cases h)) i (by omega)).mono (Nat.le_add_right D k)) (by omega)) (.cons (.tmp rfl) (.cons (.tmp rfl) .nil))) rfl (ltN rfl) rfl ?_
      refine J.store (.tmp rfl) (.eq (.tmp rfl) (tV_F (Ts := [tIs (.int .i64 ((addF 4 (ofK (normS ts) k) (monoP (atT (normS ts) k).exp (Pol.mk 0 (ofI (zval (atT (normS ts) k).coef)) []) i)).lv)), tIs (.bool (((addF 4 (ofK (normS ts) k) (monoP (atT (normS ts) k).exp (Pol.mk 0 (ofI (zval (atT (normS ts) k).coef)) []) i)).c).neg)), tSl encD (((addF 4 (ofK (normS ts) k) (monoP (atT (normS ts) k).exp (Pol.mk 0 (ofI (zval (atT (normS ts) k).coef)) []) i)).c).abs), tSl encP ((addF 4 (ofK (normS ts) k) (monoP (atT (normS ts) k).exp (Pol.mk 0 (ofI (zval (atT (normS ts) k).coef)) []) i)).cs)]) (polT_eq _))) (.there (.there (.there .here))) sz28 (st_agg (Ts' := [tIs (.int .i64 ((addF 4 (ofK (normS ts) k) (monoP (atT (normS ts) k).exp (Pol.mk 0 (ofI (zval (atT (normS ts) k).coef)) []) i)).lv)), tIs (.bool (((addF 4 (ofK (normS ts) k) (monoP (atT (normS ts) k).exp (Pol.mk 0 (ofI (zval (atT (normS ts) k).coef)) []) i)).c).neg)), tSl encD (((addF 4 (ofK (normS ts) k) (monoP (atT (normS ts) k).exp (Pol.mk 0 (ofI (zval (atT (normS ts) k).coef)) []) i)).c).abs), tSl encP ((addF 4 (ofK (normS ts) k) (monoP (atT (normS ts) k).exp (Pol.mk 0 (ofI (zval (atT (normS ts) k).coef)) []) i)).cs)]) (o := 0) rfl) ?_
      refine J.nil ?_
      refine JQ.block_normal ?_
      exact JQ.weak (sub_trans (sub_heap (.drop (.drop (.drop (.keep (fun _ _ h => by have hi4 : i = 4 := (by omega); subst hi4; exact h) (.keep (fun _ _ h => h) .nil)))))) (sub_nil)) hend2
  case rd0 =>
    intro D w1 M1 L1 hrb
    refine JQ.block_normal ?_
    refine JQ.then_normal ?_
    refine JC.seq ?_
    refine JC.region ?_
    refine J.op (ot_load_own_agg (.tmp rfl) (.head _) ag28 (cTs_ldV (g := polT) (y := (ofK (normS ts) ((normS ts).length))) (polT_eq (ofK (normS ts) ((normS ts).length))).symm rfl)) rfl (ltN rfl) rfl ?_
    refine J.store (.tmp rfl) (.eq (.tmp rfl) (tV_F (Ts := [tIs (.int .i64 ((ofK (normS ts) ((normS ts).length)).lv)), tIs (.bool (((ofK (normS ts) ((normS ts).length)).c).neg)), tSl encD (((ofK (normS ts) ((normS ts).length)).c).abs), tSl encP ((ofK (normS ts) ((normS ts).length)).cs)]) (polT_eq _))) (.there .here) sz28 (st_agg (Ts' := [tIs (.int .i64 ((ofK (normS ts) ((normS ts).length)).lv)), tIs (.bool (((ofK (normS ts) ((normS ts).length)).c).neg)), tSl encD (((ofK (normS ts) ((normS ts).length)).c).abs), tSl encP ((ofK (normS ts) ((normS ts).length)).cs)]) (o := 0) rfl) ?_
    refine J.nil ?_
    refine JQ.then_normal ?_
    refine JC.ret ?_
    -- ret0
    exact JQ.retM1_ret hrb rfl (.agg (.tmp rfl) (.tail _ (.head _)) ag28 (agg_eq (T := tV encP (ofK (normS ts) ((normS ts).length))) (T' := tV encP (ofS (normS ts))) (by rfl) (cTs_ldV (g := polT) (y := (ofK (normS ts) ((normS ts).length))) (polT_eq (ofK (normS ts) ((normS ts).length))).symm rfl)))

theorem mvsignA_c  : Ctr Try.prog 14 [tV encP (pA)] (tV encP (pB)) := by
  refine Ctr.of Try.func14 rfl Try.ntmps14 (Nat.le_of_ble_eq_true rfl) fun w0 M0 => ?_
  refine JC.seq ?_
  refine JC.region ?_
  refine J.boxF (Ts := [tIs (.int .i64 (pA.lv)), tIs (.bool (pA.c.neg)), tSl encD (pA.c.abs), tSl encP (pA.cs)]) (.tmp rfl) (polT_eq _) (ltN rfl) fun b1 => ?_
  refine J.alloc (R := cTs [tIs (.int .i64 (0)), tIs (.bool (false)), tSl encD ([]), tSl encP ([])]) zr28 (fun _ => ⟨rfl, rfl, rfl, rfl, slP_nil _ _, rfl, slP_nil _ _, rfl, trivial⟩) (ltN rfl) fun b2 => ?_
  refine J.nil ?_
  refine JQ.then_normal ?_
  refine JC.seq ?_
  refine JC.region ?_
  refine J.op (ot_load_own_agg (.tmp rfl) (.tail _ (.head _)) ag28 (cTs_ldV (g := polT) (y := pA) (polT_eq pA).symm rfl)) rfl (ltN rfl) rfl ?_
  refine J.op (ot_eqt (T' := tSl encTm ([tA])) (ot_call fn26 (to_c pA fit_pA (by decide) (.inr (.inr canon_pA)) lev_pA (by rw [terms_pA]; decide)) (.cons (.tmp rfl) .nil)) (by rw [toA])) rfl (ltN rfl) rfl ?_
  refine J.op (ot_eqt (T' := tSl encTm ([tB])) (ot_call fn34 (signS_c ([tA]) (by decide) (all1 (digs_dig _)) (all1 (Nat.le_trans (len_1 rfl) (Nat.le_refl 1))) (by decide) (by rw [normA]; exact List.cons_ne_nil _ _) (by rw [normA]; decide) (by rw [normA]; exact all1 (digs_dig _)) (by rw [normA]; exact all1 (len_1 rfl)) (by rw [normA, normA]; exact all1 (by show (zval (ofI (-1))).natAbs < _; rw [zval_ofI]; decide)) (by rw [signA]; decide) (by rw [normA, signA]; exact all1 ⟨1, by show zval (ofI (-1)) = _; rw [zval_ofI]; rfl⟩)) (.cons (.tmp rfl) .nil)) (by rw [divA])) rfl (ltN rfl) rfl ?_
  refine J.op (ot_eqt (T' := tV encP (pB)) (ot_call fn33 (of_c ([tB]) (by decide) (all1 (digs_dig _)) (all1 (Nat.le_trans (len_1 rfl) (Nat.le_refl 1))) (by decide) (by rw [normB]; exact all1 (fun i hi => e1_at i hi)) (by rw [normB]; exact all1 (len_1 rfl)) (by decide : (1 : Nat) ≤ 100000000000)) (.cons (.tmp rfl) .nil)) (by rw [ofB])) rfl (ltN rfl) rfl ?_
  refine J.store (.tmp rfl) (.eq (.tmp rfl) (tV_F (Ts := [tIs (.int .i64 (pB.lv)), tIs (.bool (pB.c.neg)), tSl encD (pB.c.abs), tSl encP (pB.cs)]) (polT_eq _))) .here sz28 (st_agg (Ts' := [tIs (.int .i64 (pB.lv)), tIs (.bool (pB.c.neg)), tSl encD (pB.c.abs), tSl encP (pB.cs)]) (o := 0) rfl) ?_
  refine J.nil ?_
  refine JQ.then_normal ?_
  refine JC.ret ?_
  -- ret0
  exact JQ.ret1 rfl (.agg (.tmp rfl) (.head _) ag28 (cTs_ldV (g := polT) (y := pB) (polT_eq pB).symm rfl))

theorem atomA_c  : Ctr Try.prog 7 [tV encP (pA), tIs (.int .i64 (1))] (tV encM (mB)) := by
  refine Ctr.of Try.func7 rfl Try.ntmps7 (Nat.le_of_ble_eq_true rfl) fun w0 M0 => ?_
  refine JC.seq ?_
  refine JC.region ?_
  refine J.boxF (Ts := [tIs (.int .i64 (pA.lv)), tIs (.bool (pA.c.neg)), tSl encD (pA.c.abs), tSl encP (pA.cs)]) (.tmp rfl) (polT_eq _) (ltN rfl) fun b2 => ?_
  refine J.alloc (R := cTs [tIs (.int .i64 (0)), tIs (.int .i64 (0)), tIs (.int .i64 (0)), tIs (.bool (false)), tSl encD ([]), tSl encP ([]), tSl encM ([])]) zr37 (fun _ => ⟨rfl, rfl, rfl, rfl, rfl, rfl, rfl, rfl, slP_nil _ _, rfl, slP_nil _ _, rfl, slP_nil _ _, rfl, trivial⟩) (ltN rfl) fun b4 => ?_
  refine J.nil ?_
  refine JQ.then_normal ?_
  refine JC.seq ?_
  refine JC.region ?_
  refine J.op (ot_move (.tmp rfl)) rfl (ltN rfl) rfl ?_
  refine J.op (ot_eqt (T' := tIs (.int .i64 (1))) (ot_call fn22 (bits_c 1 ) (.cons (.tmp rfl) .nil)) (by rfl)) rfl (ltN rfl) rfl ?_
  refine J.op (ot_assign (.tmp rfl)) rfl (ltN rfl) rfl ?_
  refine J.nil ?_
  refine JQ.then_normal ?_
  refine JC.seq ?_
  refine JC.seq ?_
  refine JC.region ?_
  refine J.op (ot_load_own_agg (.tmp rfl) (.tail _ (.head _)) ag28 (cTs_ldV (g := polT) (y := pA) (polT_eq pA).symm rfl)) rfl (ltN rfl) rfl ?_
  refine J.op (ot_eqt (T' := tTup [tV encI (z0), tIs (.bool (false))]) (ot_call fn11 (constant_c pA fit_pA (by decide) (.inr (.inr canon_pA))) (.cons (.tmp rfl) .nil)) (by rw [normC_pA]; rfl)) rfl (ltN rfl) rfl ?_
  refine J.op (ot_move (.tmp rfl)) rfl (ltN rfl) rfl ?_
  refine J.op (ot_extract (.tmp rfl) rfl) rfl (ltN rfl) rfl ?_
  refine J.op (ot_extract (.tmp rfl) rfl) rfl (ltN rfl) rfl ?_
  refine J.alloc (R := cTs [tIs (.bool (false)), tSl encD ([])]) zr25 (fun _ => ⟨rfl, rfl, slP_nil _ _, rfl, trivial⟩) (ltN rfl) fun b6 => ?_
  refine J.store (.tmp rfl) (.eq (.tmp rfl) (tV_F (Ts := [tIs (.bool (z0.neg)), tSl encD (z0.abs)]) rfl)) .here sz25 (st_agg (Ts' := [tIs (.bool (z0.neg)), tSl encD (z0.abs)]) (o := 0) rfl) ?_
  refine J.op (ot_assign (.tmp rfl)) rfl (ltN rfl) rfl ?_
  refine J.nil ?_
  refine JQ.then_normal ?_
  refine JC.seq ?_
  refine JC.region ?_
  refine J.op (ot_move (.tmp rfl)) rfl (ltN rfl) rfl ?_
  refine J.nil ?_
  refine JQ.then_normal ?_
  refine JC.cond_false (.eq (.tmp rfl) (by rfl)) ?_
  refine JC.skip ?_
  refine JQ.then_normal ?_
  refine JC.seq ?_
  refine JC.seq ?_
  refine JC.region ?_
  refine J.op (ot_load_own_agg (.tmp rfl) (.tail _ (.tail _ (.head _))) ag28 (cTs_ldV (g := polT) (y := pA) (polT_eq pA).symm rfl)) rfl (ltN rfl) rfl ?_
  refine J.op (ot_eqt (T' := tSl encTm ([tA])) (ot_call fn26 (to_c pA fit_pA (by decide) (.inr (.inr canon_pA)) lev_pA (by rw [terms_pA]; decide)) (.cons (.tmp rfl) .nil)) (by rw [toA])) rfl (ltN rfl) rfl ?_
  refine J.op (ot_index (z := tA) (.tmp rfl) .is sl65 (by omega) rfl) rfl (ltN rfl) rfl ?_
  refine J.op (ot_fieldAddr (.tmp rfl) fd63_0 (fun _ _ h => h)) rfl (ltN rfl) rfl ?_
  refine J.op (ot_load_agg (.tmp rfl) ag25 (ldFV0 (g := zT) (y := tA.coef) rfl rfl)) rfl (ltN rfl) rfl ?_
  refine J.op (ot_eqt (T' := tIs (.int .i64 (-1))) (ot_call fn25 (intSign_c tA.coef (Nat.le_trans (len_1 rfl) (by decide))) (.cons (.tmp rfl) .nil)) (by rw [zvalA]; rfl)) rfl (ltN rfl) rfl ?_
  refine J.op (ot_lss (.tmp rfl) .is) rfl (ltN rfl) rfl ?_
  refine J.nil ?_
  refine JQ.then_normal ?_
  refine JC.cond_true (.eq (.tmp rfl) (by rfl)) ?_
  refine JC.region ?_
  refine J.op (ot_move (.tmp rfl)) rfl (ltN rfl) rfl ?_
  refine J.op (ot_and (.tmp rfl) .is (show bitsOf .and .i64 1 2 = (0 : Int) by decide)) rfl (ltN rfl) rfl ?_
  refine J.op (ot_move (.tmp rfl)) rfl (ltN rfl) rfl ?_
  refine J.op (ot_and (.tmp rfl) .is (show bitsOf .and .i64 1 1 = (1 : Int) by decide)) rfl (ltN rfl) rfl ?_
  refine J.op (ot_shl (.tmp rfl) .is (by omega) (show IntKind.i64.wrap (1 * 2 ^ (min (2 : Int).toNat 64)) = (4 : Int) by decide)) rfl (ltN rfl) rfl ?_
  refine J.op (ot_or (.tmp rfl) (.tmp rfl) (show bitsOf .or .i64 0 4 = (4 : Int) by decide)) rfl (ltN rfl) rfl ?_
  refine J.op (ot_move (.tmp rfl)) rfl (ltN rfl) rfl ?_
  refine J.op (ot_and (.tmp rfl) .is (show bitsOf .and .i64 1 4 = (0 : Int) by decide)) rfl (ltN rfl) rfl ?_
  refine J.op (ot_shr (.tmp rfl) .is (by omega) (show (0 : Int).fdiv (2 ^ (min (2 : Int).toNat 64)) = (0 : Int) by decide)) rfl (ltN rfl) rfl ?_
  refine J.op (ot_or (.tmp rfl) (.tmp rfl) (show bitsOf .or .i64 4 0 = (4 : Int) by decide)) rfl (ltN rfl) rfl ?_
  refine J.op (ot_assign (.tmp rfl)) rfl (ltN rfl) rfl ?_
  refine J.nil ?_
  refine JQ.then_normal ?_
  refine JC.seq ?_
  refine JC.region ?_
  refine J.op (ot_move (.tmp rfl)) rfl (ltN rfl) rfl ?_
  refine J.op (ot_eqt (T' := tTup [tIs (.int .i64 (6)), tIs (.bool (true))]) (ot_call fn27 (relation_c 4 ) (.cons (.tmp rfl) .nil)) (by rw [relA])) rfl (ltN rfl) rfl ?_
  refine J.op (ot_move (.tmp rfl)) rfl (ltN rfl) rfl ?_
  refine J.op (ot_extract (.tmp rfl) rfl) rfl (ltN rfl) rfl ?_
  refine J.op (ot_extract (.tmp rfl) rfl) rfl (ltN rfl) rfl ?_
  refine J.op (ot_assign (.tmp rfl)) rfl (ltN rfl) rfl ?_
  refine J.op (ot_assign (.tmp rfl)) rfl (ltN rfl) rfl ?_
  refine J.nil ?_
  refine JQ.then_normal ?_
  refine JC.seq ?_
  refine JC.region ?_
  refine J.op (ot_move (.tmp rfl)) rfl (ltN rfl) rfl ?_
  refine J.op (ot_load_own_agg (.tmp rfl) (.tail _ (.tail _ (.head _))) ag28 (cTs_ldV (g := polT) (y := pA) (polT_eq pA).symm rfl)) rfl (ltN rfl) rfl ?_
  refine J.op (ot_call fn14 (mvsignA_c  ) (.cons (.tmp rfl) .nil)) rfl (ltN rfl) rfl ?_
  refine J.op (ot_eqt (T' := tV encM (Mx.mk (2) (6) (pB) ([]))) (ot_build (Ts := [tIs (.int .i64 (0)), tIs (.int .i64 (0)), tIs (.int .i64 (0)), tIs (.bool (false)), tSl encD ([]), tSl encP ([]), tSl encM ([])]) pl37 (fun _ => ⟨rfl, rfl, rfl, rfl, rfl, rfl, rfl, rfl, slP_nil _ _, rfl, slP_nil _ _, rfl, slP_nil _ _, rfl, trivial⟩) ((.one (off := 0) rfl .is (one_is rfl rfl) (Ts' := [tIs (.int .i64 (2)), tIs (.int .i64 (0)), tIs (.int .i64 (0)), tIs (.bool (false)), tSl encD ([]), tSl encP ([]), tSl encM ([])]) rfl rfl (.one (off := 1) rfl (.tmp rfl) (one_is rfl rfl) (Ts' := [tIs (.int .i64 (2)), tIs (.int .i64 (6)), tIs (.int .i64 (0)), tIs (.bool (false)), tSl encD ([]), tSl encP ([]), tSl encM ([])]) rfl rfl (.agg (off := 2) rfl (.eq (.tmp rfl) (tV_F (Ts := [tIs (.int .i64 (pB.lv)), tIs (.bool (pB.c.neg)), tSl encD (pB.c.abs), tSl encP (pB.cs)]) (polT_eq _))) (Ts' := [tIs (.int .i64 (2)), tIs (.int .i64 (6)), tIs (.int .i64 (pB.lv)), tIs (.bool (pB.c.neg)), tSl encD (pB.c.abs), tSl encP (pB.cs), tSl encM ([])]) rfl rfl .nil)))) rfl) (tV_F' (mxT_eq _))) rfl (ltN rfl) rfl ?_
  refine J.store (.tmp rfl) (.eq (.tmp rfl) (tV_F (Ts := [tIs (.int .i64 (2)), tIs (.int .i64 (6)), tIs (.int .i64 (pB.lv)), tIs (.bool (pB.c.neg)), tSl encD (pB.c.abs), tSl encP (pB.cs), tSl encM ([])]) (mxT_eq _))) (.there .here) sz37 (st_agg (Ts' := [tIs (.int .i64 (2)), tIs (.int .i64 (6)), tIs (.int .i64 (pB.lv)), tIs (.bool (pB.c.neg)), tSl encD (pB.c.abs), tSl encP (pB.cs), tSl encM ([])]) (o := 0) rfl) ?_
  refine J.nil ?_
  refine JQ.then_normal ?_
  refine JC.ret ?_
  -- ret0
  exact JQ.ret1 rfl (.agg (.tmp rfl) (.tail _ (.head _)) ag37 (agg_eq (T := tV encM (Mx.mk (2) (6) (pB) ([]))) (T' := tV encM (mB)) (by first | rfl | (congr 1; done) | simp [*]) (cTs_ldV (g := mxT) (y := (Mx.mk (2) (6) (pB) ([]))) (mxT_eq (Mx.mk (2) (6) (pB) ([]))).symm rfl)))

theorem awake39_c  : Ctr Try.prog 5 [] (tIs (.bool (true))) := by
  refine Ctr.of Try.func5 rfl Try.ntmps5 (Nat.le_of_ble_eq_true rfl) fun w0 M0 => ?_
  refine JC.seq ?_
  refine JC.region ?_
  refine J.op (ot_assign .is) rfl (ltN rfl) rfl ?_
  refine J.nil ?_
  refine JQ.then_normal ?_
  refine JC.seq ?_
  refine JC.region ?_
  refine J.op (ot_call fn19 (var_c 1 ) (.cons .is .nil)) rfl (ltN rfl) rfl ?_
  refine J.op (ot_eqt (T' := tV encP (pA)) (ot_call fn18 (rneg_c (varP 1) fit_v1 (by decide) (.inr (.inr canon_v1))) (.cons (.tmp rfl) .nil)) (by rw [negVar])) rfl (ltN rfl) rfl ?_
  refine J.op (ot_call fn7 (atomA_c  ) (.cons (.tmp rfl) (.cons .is .nil))) rfl (ltN rfl) rfl ?_
  refine J.alloc (R := cTs [tIs (.int .i64 (0)), tIs (.int .i64 (0)), tIs (.int .i64 (0)), tIs (.bool (false)), tSl encD ([]), tSl encP ([]), tSl encM ([])]) zr37 (fun _ => ⟨rfl, rfl, rfl, rfl, rfl, rfl, rfl, rfl, slP_nil _ _, rfl, slP_nil _ _, rfl, slP_nil _ _, rfl, trivial⟩) (ltN rfl) fun b1 => ?_
  refine J.store (.tmp rfl) (.eq (.tmp rfl) (tV_F (Ts := [tIs (.int .i64 (mB.kind)), tIs (.int .i64 (mB.rel)), tIs (.int .i64 (mB.poly.lv)), tIs (.bool (mB.poly.c.neg)), tSl encD (mB.poly.c.abs), tSl encP (mB.poly.cs), tSl encM (mB.kids)]) (mxT_eq _))) .here sz37 (st_agg (Ts' := [tIs (.int .i64 (mB.kind)), tIs (.int .i64 (mB.rel)), tIs (.int .i64 (mB.poly.lv)), tIs (.bool (mB.poly.c.neg)), tSl encD (mB.poly.c.abs), tSl encP (mB.poly.cs), tSl encM (mB.kids)]) (o := 0) rfl) ?_
  refine J.nil ?_
  refine JQ.then_normal ?_
  refine JC.seq ?_
  refine JC.region ?_
  refine J.op (ot_fieldAddr_own (.tmp rfl) fd37_0) rfl (ltN rfl) rfl ?_
  refine J.op (ot_load_own (.tmp rfl) (.head _) sc3 (cTs_ld rfl)) rfl (ltN rfl) rfl ?_
  refine J.op (ot_eql (.tmp rfl) .is) rfl (ltN rfl) rfl ?_
  refine J.op (ot_move (.tmp rfl)) rfl (ltN rfl) rfl ?_
  refine J.opg rfl rfl rfl (ltN rfl) (fun hg => ot_fieldAddr_own (.tmp rfl) fd37_1) rfl (ltN rfl) ?_
  refine J.opg rfl rfl rfl (ltN rfl) (fun hg => ot_load_own (.iff hg (.tmp rfl)) (.head _) sc34 (cTs_ld rfl)) rfl (ltN rfl) ?_
  refine J.opg rfl rfl rfl (ltN rfl) (fun hg => ot_eql (.iff hg (.tmp rfl)) .is) rfl (ltN rfl) ?_
  refine J.op (ot_and2 (.tmp rfl) (.tmp rfl) .is) rfl (ltN rfl) rfl ?_
  refine J.op (ot_move (.tmp rfl)) rfl (ltN rfl) rfl ?_
  refine J.opg rfl rfl rfl (ltN rfl) (fun hg => ot_fieldAddr_own (.tmp rfl) fd37_2) rfl (ltN rfl) ?_
  refine J.opg rfl rfl rfl (ltN rfl) (fun hg => ot_fieldAddr_own (.iff hg (.tmp rfl)) fd28_0) rfl (ltN rfl) ?_
  refine J.opg rfl rfl rfl (ltN rfl) (fun hg => ot_load_own (.iff hg (.tmp rfl)) (.head _) sc3 (cTs_ld rfl)) rfl (ltN rfl) ?_
  refine J.opg rfl rfl rfl (ltN rfl) (fun hg => ot_eql (.iff hg (.tmp rfl)) .is) rfl (ltN rfl) ?_
  refine J.op (ot_and2 (.tmp rfl) (.tmp rfl) .is) rfl (ltN rfl) rfl ?_
  refine J.op (ot_move (.tmp rfl)) rfl (ltN rfl) rfl ?_
  refine J.opg rfl rfl rfl (ltN rfl) (fun hg => ot_load_own_agg (.tmp rfl) (.head _) ag37 (cTs_ldV (g := mxT) (y := mB) (mxT_eq mB).symm rfl)) rfl (ltN rfl) ?_
  refine J.opg rfl rfl rfl (ltN rfl) (fun hg => ot_call fn20 (atoms1_c mB rfl fit_pB (by decide) (.inr (.inr canon_pB))) (.cons (.iff hg (.tmp rfl)) .nil)) rfl (ltN rfl) ?_
  refine J.opg rfl rfl rfl (ltN rfl) (fun hg => ot_eql (.iff hg (.tmp rfl)) .is) rfl (ltN rfl) ?_
  refine J.op (ot_and2 (.tmp rfl) (.tmp rfl) .is) rfl (ltN rfl) rfl ?_
  refine J.op (ot_assign (.tmp rfl)) rfl (ltN rfl) rfl ?_
  refine J.nil ?_
  refine JQ.then_normal ?_
  refine JC.ret ?_
  -- ret0
  exact JQ.ret1 rfl (.tmp (.eq (.tmp rfl) (by first | rfl | (congr 3; omega) | (congr 2; omega) | simp [*])))

theorem relations_c (a b : Int) : Ctr Try.prog 4 [tIs (.int .i64 (a)), tIs (.int .i64 (b))] (tIs (.bool (true))) := by
  refine Ctr.of Try.func4 rfl Try.ntmps4 (Nat.le_of_ble_eq_true rfl) fun w0 M0 => ?_
  refine JC.seq ?_
  refine JC.region ?_
  refine J.op (ot_assign .is) rfl (ltN rfl) rfl ?_
  refine J.nil ?_
  refine JQ.then_normal ?_
  refine JC.seq ?_
  refine JC.seq ?_
  refine JC.region ?_
  refine J.op (ot_call fn5 (awake39_c  ) .nil) rfl (ltN rfl) rfl ?_
  refine J.op (ot_not (.tmp rfl)) rfl (ltN rfl) rfl ?_
  refine J.nil ?_
  refine JQ.then_normal ?_
  refine JC.cond_false (.eq (.tmp rfl) (by rfl)) ?_
  refine JC.skip ?_
  refine JQ.then_normal ?_
  refine JC.seq ?_
  refine JC.region ?_
  refine J.op (ot_move (.tmp rfl)) rfl (ltN rfl) rfl ?_
  refine J.op (ot_move (.tmp rfl)) rfl (ltN rfl) rfl ?_
  refine J.op (ot_call fn16 (meet_c a b ) (.cons (.tmp rfl) (.cons (.tmp rfl) .nil))) rfl (ltN rfl) rfl ?_
  refine J.op (ot_move (.tmp rfl)) rfl (ltN rfl) rfl ?_
  refine J.op (ot_extract (.tmp rfl) rfl) rfl (ltN rfl) rfl ?_
  refine J.op (ot_extract (.tmp rfl) rfl) rfl (ltN rfl) rfl ?_
  refine J.op (ot_assign (.tmp rfl)) rfl (ltN rfl) rfl ?_
  refine J.op (ot_assign (.tmp rfl)) rfl (ltN rfl) rfl ?_
  refine J.nil ?_
  refine JQ.then_normal ?_
  refine JC.seq ?_
  refine JC.region ?_
  refine J.op (ot_move (.tmp rfl)) rfl (ltN rfl) rfl ?_
  refine J.op (ot_move (.tmp rfl)) rfl (ltN rfl) rfl ?_
  refine J.op (ot_call fn17 (joinrel_c a b ) (.cons (.tmp rfl) (.cons (.tmp rfl) .nil))) rfl (ltN rfl) rfl ?_
  refine J.op (ot_move (.tmp rfl)) rfl (ltN rfl) rfl ?_
  refine J.op (ot_extract (.tmp rfl) rfl) rfl (ltN rfl) rfl ?_
  refine J.op (ot_extract (.tmp rfl) rfl) rfl (ltN rfl) rfl ?_
  refine J.op (ot_assign (.tmp rfl)) rfl (ltN rfl) rfl ?_
  refine J.op (ot_assign (.tmp rfl)) rfl (ltN rfl) rfl ?_
  refine J.nil ?_
  refine JQ.then_normal ?_
  refine JC.seq ?_
  refine JC.region ?_
  refine J.op (ot_assign .is) rfl (ltN rfl) rfl ?_
  refine J.op (ot_assign .is) rfl (ltN rfl) rfl ?_
  refine J.nil ?_
  refine JQ.then_normal ?_
  refine JC.seq ?_
  refine JC.seq ?_
  refine JC.region ?_
  refine J.op (ot_assign .is) rfl (ltN rfl) rfl ?_
  refine J.nil ?_
  refine JQ.then_normal ?_
  refine JC.block ?_
  refine JC.loop (ι := Nat) (fun n => [(0, tIs (.int .i64 (a))), (1, tIs (.int .i64 (b))), (5, tIs (.int .i64 ((meetR a b).1))), (6, tIs (.bool ((meetR a b).2))), (7, tIs (.int .i64 ((joinR a b).1))), (8, tIs (.bool ((joinR a b).2))), (9, tIs (.bool (someR a b n))), (10, tIs (.bool (allR a b n))), (11, tIs (.int .i64 (((n : Nat) : Int) - 1)))]) (fun n => []) (fun n => n ≤ 3) (fun n => 3 - n) 0 (by omega) ?lsub0 ?round0
  case lsub0 => exact sub_trans (sub_heap .nil) (sub_cons (.tmp rfl) (sub_cons (.tmp rfl) (sub_cons (.tmp rfl) (sub_cons (.tmp rfl) (sub_cons (.tmp rfl) (sub_cons (.tmp rfl) (sub_cons (.eq (.tmp rfl) (by rfl)) (sub_cons (.eq (.tmp rfl) (by rfl)) (sub_cons (.eq (.tmp rfl) (by rfl)) (sub_nil))))))))))
  intro n hinv
  refine JC.seq ?_
  refine JC.seq ?_
  refine JC.region ?_
  refine J.op (ot_move (.tmp rfl)) rfl (ltN rfl) rfl ?_
  refine J.op (ot_leq (.tmp rfl) .is) rfl (ltN rfl) rfl ?_
  refine J.nil ?_
  refine JQ.then_normal ?_
  -- cond1: tIs (.bool (decide ((((n : Nat) : Int) - 1) ≤ 1)))
  refine JC.cond (.tmp rfl) (fun hc1 => ?_) (fun hc1 => ?_)
  · try simp only [Bool.and_eq_true, Bool.or_eq_true, Bool.not_eq_true', Bool.not_eq_false', Bool.and_eq_false_iff, Bool.or_eq_false_iff, Bool.not_true, Bool.not_false, decide_eq_true_eq, decide_eq_false_iff_not, beq_iff_eq, beq_eq_false_iff_ne, Bool.not_eq_eq_eq_not] at hc1
    have hs29 := hc1
    refine JC.skip ?_
    refine JQ.then_normal ?_
    refine JC.seq ?_
    refine JC.block ?_
    refine JC.seq ?_
    refine JC.region ?_
    refine J.op (ot_move (.tmp rfl)) rfl (ltN rfl) rfl ?_
    refine J.op (ot_move (.tmp rfl)) rfl (ltN rfl) rfl ?_
    refine J.op (ot_call fn15 (permits_c a (((n : Nat) : Int) - 1) ) (.cons (.tmp rfl) (.cons (.tmp rfl) .nil))) rfl (ltN rfl) rfl ?_
    refine J.op (ot_move (.tmp rfl)) rfl (ltN rfl) rfl ?_
    refine J.op (ot_move (.tmp rfl)) rfl (ltN rfl) rfl ?_
    refine J.op (ot_call fn15 (permits_c b (((n : Nat) : Int) - 1) ) (.cons (.tmp rfl) (.cons (.tmp rfl) .nil))) rfl (ltN rfl) rfl ?_
    refine J.op (ot_assign (.tmp rfl)) rfl (ltN rfl) rfl ?_
    refine J.op (ot_assign (.tmp rfl)) rfl (ltN rfl) rfl ?_
    refine J.nil ?_
    refine JQ.then_normal ?_
    refine JC.seq ?_
    refine JC.region ?_
    refine J.op (ot_move (.tmp rfl)) rfl (ltN rfl) rfl ?_
    refine J.op (ot_move (.tmp rfl)) rfl (ltN rfl) rfl ?_
    refine J.opg rfl rfl rfl (ltN rfl) (fun hg => ot_move (.tmp rfl)) rfl (ltN rfl) ?_
    refine J.opg rfl rfl rfl (ltN rfl) (fun hg => ot_move (.iff hg (.tmp rfl))) rfl (ltN rfl) ?_
    refine J.opgg rfl rfl rfl (ltN rfl) (fun hg => ot_move (.tmp rfl)) rfl (ltN rfl) ?_
    refine J.opg rfl rfl rfl (ltN rfl) (fun hg => ot_and2 (.iff hg (.tmp rfl)) (.iffr hg (.tmp rfl)) .is) rfl (ltN rfl) ?_
    refine J.op (ot_or2 (.tmp rfl) .is (.tmp rfl)) rfl (ltN rfl) rfl ?_
    refine J.op (ot_assign (.tmp rfl)) rfl (ltN rfl) rfl ?_
    refine J.nil ?_
    refine JQ.then_normal ?_
    refine JC.seq ?_
    refine JC.region ?_
    refine J.op (ot_move (.tmp rfl)) rfl (ltN rfl) rfl ?_
    refine J.op (ot_move (.tmp rfl)) rfl (ltN rfl) rfl ?_
    refine J.opg rfl rfl rfl (ltN rfl) (fun hg => ot_move (.tmp rfl)) rfl (ltN rfl) ?_
    refine J.opg rfl rfl rfl (ltN rfl) (fun hg => ot_move (.iff hg (.tmp rfl))) rfl (ltN rfl) ?_
    refine J.opgg rfl rfl rfl (ltN rfl) (fun hg => ot_move (.tmp rfl)) rfl (ltN rfl) ?_
    refine J.opg rfl rfl rfl (ltN rfl) (fun hg => ot_or2 (.iff hg (.tmp rfl)) .is (.iffr hg (.tmp rfl))) rfl (ltN rfl) ?_
    refine J.op (ot_and2 (.tmp rfl) (.tmp rfl) .is) rfl (ltN rfl) rfl ?_
    refine J.op (ot_assign (.tmp rfl)) rfl (ltN rfl) rfl ?_
    refine J.nil ?_
    refine JQ.then_normal ?_
    refine JC.seq ?_
    refine JC.region ?_
    refine J.op (ot_move (.tmp rfl)) rfl (ltN rfl) rfl ?_
    refine J.op (ot_move (.tmp rfl)) rfl (ltN rfl) rfl ?_
    refine J.opg rfl rfl rfl (ltN rfl) (fun hg => ot_move (.tmp rfl)) rfl (ltN rfl) ?_
    refine J.opg rfl rfl rfl (ltN rfl) (fun hg => ot_move (.tmp rfl)) rfl (ltN rfl) ?_
    refine J.opg rfl rfl rfl (ltN rfl) (fun hg => ot_call fn15 (permits_c ((meetR a b).1) (((n : Nat) : Int) - 1) ) (.cons (.iff hg (.tmp rfl)) (.cons (.iff hg (.tmp rfl)) .nil))) rfl (ltN rfl) ?_
    refine J.opg rfl rfl rfl (ltN rfl) (fun hg => ot_move (.tmp rfl)) rfl (ltN rfl) ?_
    refine J.opg rfl rfl rfl (ltN rfl) (fun hg => ot_move (.iff hg (.tmp rfl))) rfl (ltN rfl) ?_
    refine J.opgg rfl rfl rfl (ltN rfl) (fun hg => ot_move (.tmp rfl)) rfl (ltN rfl) ?_
    refine J.opg rfl rfl rfl (ltN rfl) (fun hg => ot_and2 (.iff hg (.tmp rfl)) (.iffr hg (.tmp rfl)) .is) rfl (ltN rfl) ?_
    refine J.opg rfl rfl rfl (ltN rfl) (fun hg => ot_neqb (.iff hg (.tmp rfl)) (.iff hg (.tmp rfl)) un4) rfl (ltN rfl) ?_
    refine J.op (ot_and2 (.tmp rfl) (.tmp rfl) .is) rfl (ltN rfl) rfl ?_
    refine J.op (ot_move (.tmp rfl)) rfl (ltN rfl) rfl ?_
    refine J.opg rfl rfl rfl (ltN rfl) (fun hg => ot_move (.tmp rfl)) rfl (ltN rfl) ?_
    refine J.opg rfl rfl rfl (ltN rfl) (fun hg => ot_move (.iff hg (.tmp rfl))) rfl (ltN rfl) ?_
    refine J.opgg rfl rfl rfl (ltN rfl) (fun hg => ot_move (.tmp rfl)) rfl (ltN rfl) ?_
    refine J.opgg rfl rfl rfl (ltN rfl) (fun hg => ot_move (.tmp rfl)) rfl (ltN rfl) ?_
    refine J.opgg rfl rfl rfl (ltN rfl) (fun hg => ot_call fn15 (permits_c ((joinR a b).1) (((n : Nat) : Int) - 1) ) (.cons (.iff hg (.tmp rfl)) (.cons (.iff hg (.tmp rfl)) .nil))) rfl (ltN rfl) ?_
    refine J.opgg rfl rfl rfl (ltN rfl) (fun hg => ot_move (.tmp rfl)) rfl (ltN rfl) ?_
    refine J.opgg rfl rfl rfl (ltN rfl) (fun hg => ot_move (.iff hg (.tmp rfl))) rfl (ltN rfl) ?_
    refine J.opgg rfl rfl rfl (ltN rfl) (fun hg => ot_move (.tmp rfl)) rfl (ltN rfl) ?_
    refine J.opgg rfl rfl rfl (ltN rfl) (fun hg => ot_or2 (.iff hg (.tmp rfl)) .is (.iffr hg (.tmp rfl))) rfl (ltN rfl) ?_
    refine J.opgg rfl rfl rfl (ltN rfl) (fun hg => ot_neqb (.iff hg (.tmp rfl)) (.iff hg (.tmp rfl)) un4) rfl (ltN rfl) ?_
    refine J.opg rfl rfl rfl (ltN rfl) (fun hg => ot_and2 (.iff hg (.tmp rfl)) (.iffr hg (.tmp rfl)) .is) rfl (ltN rfl) ?_
    refine J.op (ot_or2 (.tmp rfl) .is (.tmp rfl)) rfl (ltN rfl) rfl ?_
    refine J.nil ?_
    refine JQ.then_normal ?_
    refine JC.cond_false (.eq (.tmp rfl) (by exact congrArg (fun x => tIs (.bool x)) (wrongR_no a b ((n : Int) - 1) (by omega)))) ?_
    refine JC.skip ?_
    refine JQ.block_normal ?_
    refine JQ.then_normal ?_
    refine JC.region ?_
    refine J.op (ot_move (.tmp rfl)) rfl (ltN rfl) rfl ?_
    refine J.op (ot_add (.tmp rfl) .is (w64 (by omega) (by omega))) rfl (ltN rfl) rfl ?_
    refine J.op (ot_assign (.tmp rfl)) rfl (ltN rfl) rfl ?_
    refine J.nil ?_
    exact JQ.round (n + 1) (by omega) (by omega) (sub_trans (sub_heap .nil) (sub_cons (.tmp rfl) (sub_cons (.tmp rfl) (sub_cons (.tmp rfl) (sub_cons (.tmp rfl) (sub_cons (.tmp rfl) (sub_cons (.tmp rfl) (sub_cons (.eq (.tmp rfl) (by rfl)) (sub_cons (.eq (.tmp rfl) (by rfl)) (sub_cons (.eq (.tmp rfl) (by first | rfl | (congr 3; omega) | (congr 2; omega))) (sub_nil)))))))))))
  · try simp only [Bool.and_eq_true, Bool.or_eq_true, Bool.not_eq_true', Bool.not_eq_false', Bool.and_eq_false_iff, Bool.or_eq_false_iff, Bool.not_true, Bool.not_false, decide_eq_true_eq, decide_eq_false_iff_not, beq_iff_eq, beq_eq_false_iff_ne, Bool.not_eq_eq_eq_not] at hc1
    have hs29 := hc1
    refine JC.exit ?_
    refine JQ.then_exit ?_
    refine JQ.then_exit ?_
    refine JQ.block_exit ?_
    refine JQ.then_normal ?_
    refine JC.seq ?_
    refine JC.region ?_
    refine J.op (ot_move (.tmp rfl)) rfl (ltN rfl) rfl ?_
    refine J.op (ot_move (.tmp rfl)) rfl (ltN rfl) rfl ?_
    refine J.op (ot_eqlb (.tmp rfl) (.tmp rfl) un4) rfl (ltN rfl) rfl ?_
    refine J.op (ot_move (.tmp rfl)) rfl (ltN rfl) rfl ?_
    refine J.opg rfl rfl rfl (ltN rfl) (fun hg => ot_move (.tmp rfl)) rfl (ltN rfl) ?_
    refine J.opg rfl rfl rfl (ltN rfl) (fun hg => ot_move (.tmp rfl)) rfl (ltN rfl) ?_
    refine J.opg rfl rfl rfl (ltN rfl) (fun hg => ot_not (.iff hg (.tmp rfl))) rfl (ltN rfl) ?_
    refine J.opg rfl rfl rfl (ltN rfl) (fun hg => ot_eqlb (.iff hg (.tmp rfl)) (.iff hg (.tmp rfl)) un4) rfl (ltN rfl) ?_
    refine J.op (ot_and2 (.tmp rfl) (.tmp rfl) .is) rfl (ltN rfl) rfl ?_
    refine J.op (ot_move (.tmp rfl)) rfl (ltN rfl) rfl ?_
    refine J.opg rfl rfl rfl (ltN rfl) (fun hg => ot_move (.tmp rfl)) rfl (ltN rfl) ?_
    refine J.opg rfl rfl rfl (ltN rfl) (fun hg => ot_move (.iff hg (.tmp rfl))) rfl (ltN rfl) ?_
    refine J.opgg rfl rfl rfl (ltN rfl) (fun hg => ot_move (.tmp rfl)) rfl (ltN rfl) ?_
    refine J.opgg rfl rfl rfl (ltN rfl) (fun hg => ot_geq (.iff hg (.tmp rfl)) .is) rfl (ltN rfl) ?_
    refine J.opg rfl rfl rfl (ltN rfl) (fun hg => ot_and2 (.iff hg (.tmp rfl)) (.iffr hg (.tmp rfl)) .is) rfl (ltN rfl) ?_
    refine J.opg rfl rfl rfl (ltN rfl) (fun hg => ot_move (.iff hg (.tmp rfl))) rfl (ltN rfl) ?_
    refine J.opgg rfl rfl rfl (ltN rfl) (fun hg => ot_move (.tmp rfl)) rfl (ltN rfl) ?_
    refine J.opgg rfl rfl rfl (ltN rfl) (fun hg => ot_leq (.iff hg (.tmp rfl)) .is) rfl (ltN rfl) ?_
    refine J.opg rfl rfl rfl (ltN rfl) (fun hg => ot_and2 (.iff hg (.tmp rfl)) (.iffr hg (.tmp rfl)) .is) rfl (ltN rfl) ?_
    refine J.opg rfl rfl rfl (ltN rfl) (fun hg => ot_move (.iff hg (.tmp rfl))) rfl (ltN rfl) ?_
    refine J.opgg rfl rfl rfl (ltN rfl) (fun hg => ot_move (.tmp rfl)) rfl (ltN rfl) ?_
    refine J.opgg rfl rfl rfl (ltN rfl) (fun hg => ot_not (.iff hg (.tmp rfl))) rfl (ltN rfl) ?_
    refine J.opgg rfl rfl rfl (ltN rfl) (fun hg => ot_move (.iff hg (.tmp rfl))) rfl (ltN rfl) ?_
    refine J.opgg rfl rfl rfl (ltN rfl) (fun hg => ot_move (.tmp rfl)) rfl (ltN rfl) ?_
    refine J.opgg rfl rfl rfl (ltN rfl) (fun hg => ot_eql (.iff hg (.tmp rfl)) .is) rfl (ltN rfl) ?_
    refine J.opgg rfl rfl rfl (ltN rfl) (fun hg => ot_and2 (.iff hg (.tmp rfl)) (.iffr hg (.tmp rfl)) .is) rfl (ltN rfl) ?_
    refine J.opg rfl rfl rfl (ltN rfl) (fun hg => ot_or2 (.iff hg (.tmp rfl)) .is (.iffr hg (.tmp rfl))) rfl (ltN rfl) ?_
    refine J.op (ot_and2 (.tmp rfl) (.tmp rfl) .is) rfl (ltN rfl) rfl ?_
    refine J.op (ot_move (.tmp rfl)) rfl (ltN rfl) rfl ?_
    refine J.opg rfl rfl rfl (ltN rfl) (fun hg => ot_move (.tmp rfl)) rfl (ltN rfl) ?_
    refine J.opg rfl rfl rfl (ltN rfl) (fun hg => ot_move (.iff hg (.tmp rfl))) rfl (ltN rfl) ?_
    refine J.opgg rfl rfl rfl (ltN rfl) (fun hg => ot_move (.tmp rfl)) rfl (ltN rfl) ?_
    refine J.opgg rfl rfl rfl (ltN rfl) (fun hg => ot_geq (.iff hg (.tmp rfl)) .is) rfl (ltN rfl) ?_
    refine J.opg rfl rfl rfl (ltN rfl) (fun hg => ot_and2 (.iff hg (.tmp rfl)) (.iffr hg (.tmp rfl)) .is) rfl (ltN rfl) ?_
    refine J.opg rfl rfl rfl (ltN rfl) (fun hg => ot_move (.iff hg (.tmp rfl))) rfl (ltN rfl) ?_
    refine J.opgg rfl rfl rfl (ltN rfl) (fun hg => ot_move (.tmp rfl)) rfl (ltN rfl) ?_
    refine J.opgg rfl rfl rfl (ltN rfl) (fun hg => ot_leq (.iff hg (.tmp rfl)) .is) rfl (ltN rfl) ?_
    refine J.opg rfl rfl rfl (ltN rfl) (fun hg => ot_and2 (.iff hg (.tmp rfl)) (.iffr hg (.tmp rfl)) .is) rfl (ltN rfl) ?_
    refine J.opg rfl rfl rfl (ltN rfl) (fun hg => ot_move (.iff hg (.tmp rfl))) rfl (ltN rfl) ?_
    refine J.opgg rfl rfl rfl (ltN rfl) (fun hg => ot_move (.tmp rfl)) rfl (ltN rfl) ?_
    refine J.opgg rfl rfl rfl (ltN rfl) (fun hg => ot_not (.iff hg (.tmp rfl))) rfl (ltN rfl) ?_
    refine J.opgg rfl rfl rfl (ltN rfl) (fun hg => ot_move (.iff hg (.tmp rfl))) rfl (ltN rfl) ?_
    refine J.opgg rfl rfl rfl (ltN rfl) (fun hg => ot_move (.tmp rfl)) rfl (ltN rfl) ?_
    refine J.opgg rfl rfl rfl (ltN rfl) (fun hg => ot_eql (.iff hg (.tmp rfl)) .is) rfl (ltN rfl) ?_
    refine J.opgg rfl rfl rfl (ltN rfl) (fun hg => ot_and2 (.iff hg (.tmp rfl)) (.iffr hg (.tmp rfl)) .is) rfl (ltN rfl) ?_
    refine J.opg rfl rfl rfl (ltN rfl) (fun hg => ot_or2 (.iff hg (.tmp rfl)) .is (.iffr hg (.tmp rfl))) rfl (ltN rfl) ?_
    refine J.op (ot_and2 (.tmp rfl) (.tmp rfl) .is) rfl (ltN rfl) rfl ?_
    refine J.op (ot_assign (.tmp rfl)) rfl (ltN rfl) rfl ?_
    refine J.nil ?_
    refine JQ.then_normal ?_
    refine JC.ret ?_
    -- ret0
    exact JQ.ret1 rfl (.tmp (.eq (.tmp rfl) (by rw [show n = 3 by omega]; exact congrArg (fun x => tIs (.bool x)) (endR_yes a b))))

end Go.Proofs.Ytkpmcldbcljkfaa
