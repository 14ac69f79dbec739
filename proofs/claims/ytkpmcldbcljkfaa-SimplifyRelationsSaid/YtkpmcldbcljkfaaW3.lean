/- Walks through the program: each function called at values of the kinds that its contract names returns what the contract says. Conditions: those in the contracts. Written by the program wip/gen. -/
import Derived.Test.YtkpmcldbcljkfaaW2
set_option linter.unusedVariables false
set_option linter.unusedSimpArgs false
set_option maxRecDepth 100000
namespace Go.Proofs.Ytkpmcldbcljkfaa
open Go Go.RowKit Go.Rt
theorem normS_c {B : Nat} (ts : List Tm) (hl : ts.length < 20) (hd : ∀ t ∈ ts, Digs t.coef.abs) (hz : ∀ t ∈ ts, t.coef.abs.length ≤ B) (hb : B ≤ 1000000000000) : Ctr Try.prog 39 [tSl encTm (ts)] (tSl encTm (normS ts)) := by
  have hkl := keepT_len ts
  have hsl := sortT_len (keepT ts)
  have hm : ∀ t ∈ sortT (keepT ts), t ∈ ts := fun t h => (List.mem_filter.1 (sortT_mem t h)).1
  refine Ctr.of Try.func39 rfl Try.ntmps39 (Nat.le_of_ble_eq_true rfl) fun w0 M0 => ?_
  refine JC.seq ?_
  refine JC.region ?_
  refine J.op (ot_assign (.nil (E := encTm))) rfl (ltN rfl) rfl ?_
  refine J.nil ?_
  refine JQ.then_normal ?_
  refine JC.seq ?_
  refine JC.region ?_
  refine J.op (ot_assign .is) rfl (ltN rfl) rfl ?_
  refine J.nil ?_
  refine JQ.then_normal ?_
  refine JC.seq ?_
  refine JC.seq ?_
  refine JC.region ?_
  refine J.op (ot_move (.tmp rfl)) rfl (ltN rfl) rfl ?_
  refine J.op (ot_len (.tmp rfl) sl65 rfl) rfl (ltN rfl) rfl ?_
  refine J.op (ot_move .is) rfl (ltN rfl) rfl ?_
  refine J.nil ?_
  refine JQ.then_normal ?_
  refine JC.block ?_
  refine JC.loop4 (α := Bool) (β := Nat) (γ := Nat) (δ := Nat) (fun e k b c => bif e then [(2, tSl encTm ([])), (3, tIs (.slice none 0 0)), (9, tSl encTm (ts)), (10, tIs (.int .i64 (((ts).length : Int)))), (11, tIs (.int .i64 (((k : Nat) : Int))))] else [(2, tSl encTm ([])), (3, sIs b 0 ((keepT (ts.take k)).length) (c)), (9, tSl encTm (ts)), (10, tIs (.int .i64 (((ts).length : Int)))), (11, tIs (.int .i64 (((k : Nat) : Int))))]) (fun e k b c => bif e then [] else [⟨b, 63, cRow encTm (keepT (ts.take k)) (c)⟩]) (fun e k b c => k ≤ ts.length ∧ (e = true → keepT (ts.take k) = [])) (fun e k b c => ts.length - k) true 0 0 0 ⟨by omega, fun _ => rfl⟩ ?lsub0 ?round0
  case lsub0 => exact sub_trans (sub_heap .nil) (sub_cons (.tmp rfl) (sub_cons (.tmp rfl) (sub_cons (.tmp rfl) (sub_cons (.tmp rfl) (sub_cons (.eq (.tmp rfl) (by first | rfl | (congr 3; omega) | (congr 2; omega))) (sub_nil))))))
  intro e k b c hinv
  rcases e with _ | _
  · change JC _ _ _ [(2, tSl encTm ([])), (3, sIs b 0 ((keepT (ts.take k)).length) (c)), (9, tSl encTm (ts)), (10, tIs (.int .i64 (((ts).length : Int)))), (11, tIs (.int .i64 (((k : Nat) : Int))))] [⟨b, 63, cRow encTm (keepT (ts.take k)) (c)⟩]
    obtain ⟨hk, he⟩ := hinv
    have hkk := keepT_len (ts.take k)
    rw [List.length_take] at hkk
    refine JC.seq ?_
    refine JC.region ?_
    refine J.op (ot_lss (.tmp rfl) (.tmp rfl)) rfl (ltN rfl) rfl ?_
    refine J.nil ?_
    refine JQ.then_normal ?_
    refine JC.seq ?_
    -- cond0: tIs (.bool (decide (((k : Nat) : Int) < ((ts).length : Int))))
    refine JC.cond (.tmp rfl) (fun hc0 => ?_) (fun hc0 => ?_)
    · try simp only [Bool.and_eq_true, Bool.or_eq_true, Bool.not_eq_true', Bool.not_eq_false', Bool.and_eq_false_iff, Bool.or_eq_false_iff, Bool.not_true, Bool.not_false, decide_eq_true_eq, decide_eq_false_iff_not, beq_iff_eq, beq_eq_false_iff_ne, Bool.not_eq_eq_eq_not] at hc0
      have hs12 := hc0
      refine JC.skip ?_
      refine JQ.then_normal ?_
      refine JC.seq ?_
      refine JC.block ?_
      refine JC.seq ?_
      refine JC.region ?_
      refine J.op (ot_index (z := atT ts k) (.tmp rfl) (.tmp rfl) sl65 (by omega) (atT_at (by omega) (by omega))) rfl (ltN rfl) rfl ?_
      refine J.op (ot_load_agg (.tmp rfl) ag63 ldp_whole) rfl (ltN rfl) rfl ?_
      refine J.alloc (R := cTs [tIs (.bool (false)), tSl encD ([]), tIs (.int .i64 (0)), tIs (.int .i64 (0)), tIs (.int .i64 (0)), tIs (.int .i64 (0))]) zr63 (fun _ => ⟨rfl, rfl, slP_nil _ _, rfl, rfl, rfl, rfl, rfl, rfl, rfl, rfl, rfl, trivial⟩) (ltN rfl) fun b5 => ?_
      refine J.store (.tmp rfl) (.eq (.tmp rfl) (tV_F (Ts := [tIs (.bool (((atT ts k).coef).neg)), tSl encD (((atT ts k).coef).abs), tIs (.int .i64 (((atT ts k).exp).a)), tIs (.int .i64 (((atT ts k).exp).b)), tIs (.int .i64 (((atT ts k).exp).c)), tIs (.int .i64 (((atT ts k).exp).d))]) rfl)) .here sz63 (st_agg (Ts' := [tIs (.bool (((atT ts k).coef).neg)), tSl encD (((atT ts k).coef).abs), tIs (.int .i64 (((atT ts k).exp).a)), tIs (.int .i64 (((atT ts k).exp).b)), tIs (.int .i64 (((atT ts k).exp).c)), tIs (.int .i64 (((atT ts k).exp).d))]) (o := 0) rfl) ?_
      refine J.nil ?_
      refine JQ.then_normal ?_
      refine JC.seq ?_
      refine JC.weak (sub_freezeP (R' := cEnc encTm (atT ts k)) [5] ⟨rfl, trivial⟩ .here (cTs_F (f := tmT) (x := atT ts k) rfl rfl)) ?_
      refine JC.region ?_
      refine J.op (ot_fieldAddr (R' := cDrop (cEnc encTm (atT ts k)) 2) (.tmp rfl) fd63_1 (fun _ _ h => cDrop_mk h)) rfl (ltN rfl) rfl ?_
      refine J.op (ot_sliceA (.tmp rfl) ar4_61 tm_exp) rfl (ltN rfl) rfl ?_
      refine J.op (ot_call fn57 (min_c ((atT ts k).exp.list) (by simp [Mo.list])) (.cons (.tmp rfl) .nil)) rfl (ltN rfl) rfl ?_
      refine J.op (ot_geq (.tmp rfl) .is) rfl (ltN rfl) rfl ?_
      refine J.nil ?_
      refine JQ.then_normal ?_
      -- cond1: tIs (.bool (decide (0 ≤ (minL (atN ((atT ts k).exp.list) 0) (((atT ts k).exp.list).drop 1)))))
      refine JC.cond (.tmp rfl) (fun hc1 => ?_) (fun hc1 => ?_)
      · try simp only [Bool.and_eq_true, Bool.or_eq_true, Bool.not_eq_true', Bool.not_eq_false', Bool.and_eq_false_iff, Bool.or_eq_false_iff, Bool.not_true, Bool.not_false, decide_eq_true_eq, decide_eq_false_iff_not, beq_iff_eq, beq_eq_false_iff_ne, Bool.not_eq_eq_eq_not] at hc1
        have hs18 := hc1
        refine JC.region ?_
        refine J.op (ot_move (.tmp rfl)) rfl (ltN rfl) rfl ?_
        refine J.op (ot_load_agg (.tmp rfl) ag63 ldp_whole) rfl (ltN rfl) rfl ?_
        refine J.op (ot_buildSlice (E := encTm) (zs := [atT ts k]) sl65 (.cons (.tmp rfl) .nil) rfl zr63 rfl (by decide) (by decide)) rfl (ltN rfl) rfl ?_
        refine J.append (E := encTm) (xs := keepT (ts.take k)) (ys := [atT ts k]) (.tmp rfl) rfl (.tmp rfl) sl65 rfl zr63 rfl .here (by simp <;> omega) (by simp <;> omega) (ltN rfl) fun b22 c22 => ?_
        refine J.op (ot_assign (.tmp rfl)) rfl (ltN rfl) rfl ?_
        refine J.nil ?_
        refine JQ.block_normal ?_
        refine JQ.then_normal ?_
        refine JC.region ?_
        refine J.op (ot_add (.tmp rfl) .is (w64 (by omega) (by omega))) rfl (ltN rfl) rfl ?_
        refine J.op (ot_move (.tmp rfl)) rfl (ltN rfl) rfl ?_
        refine J.nil ?_
        have hyes := keepT_yes (show k < ts.length by omega) (okT_iff.2 hs18)
        exact JQ.round4 (i := false) (i2 := k) (i3 := b) (i4 := c) false (k + 1) b22 c22 ⟨by omega, fun h => by cases h⟩ (by omega) (sub_trans (sub_heap (.keep (cRow_eq hyes) .nil)) (sub_cons (.tmp rfl) (sub_cons (.eq (.tmp rfl) (by rw [hyes])) (sub_cons (.tmp rfl) (sub_cons (.tmp rfl) (sub_cons (.eq (.tmp rfl) (by first | rfl | (congr 3; omega) | (congr 2; omega))) (sub_nil)))))))
      · try simp only [Bool.and_eq_true, Bool.or_eq_true, Bool.not_eq_true', Bool.not_eq_false', Bool.and_eq_false_iff, Bool.or_eq_false_iff, Bool.not_true, Bool.not_false, decide_eq_true_eq, decide_eq_false_iff_not, beq_iff_eq, beq_eq_false_iff_ne, Bool.not_eq_eq_eq_not] at hc1
        have hs18 := hc1
        refine JC.skip ?_
        refine JQ.block_normal ?_
        refine JQ.then_normal ?_
        refine JC.region ?_
        refine J.op (ot_add (.tmp rfl) .is (w64 (by omega) (by omega))) rfl (ltN rfl) rfl ?_
        refine J.op (ot_move (.tmp rfl)) rfl (ltN rfl) rfl ?_
        refine J.nil ?_
        have hno := keepT_no (show k < ts.length by omega) (fun h => hs18 (okT_iff.1 h))
        exact JQ.round4 (i := false) (i2 := k) (i3 := b) (i4 := c) false (k + 1) b c ⟨by omega, fun h => by cases h⟩ (by omega) (sub_trans (sub_heap (.keep (cRow_eq hno) .nil)) (sub_cons (.tmp rfl) (sub_cons (.eq (.tmp rfl) (by rw [hno])) (sub_cons (.tmp rfl) (sub_cons (.tmp rfl) (sub_cons (.eq (.tmp rfl) (by first | rfl | (congr 3; omega) | (congr 2; omega))) (sub_nil)))))))
    · try simp only [Bool.and_eq_true, Bool.or_eq_true, Bool.not_eq_true', Bool.not_eq_false', Bool.and_eq_false_iff, Bool.or_eq_false_iff, Bool.not_true, Bool.not_false, decide_eq_true_eq, decide_eq_false_iff_not, beq_iff_eq, beq_eq_false_iff_ne, Bool.not_eq_eq_eq_not] at hc0
      have hs12 := hc0
      have hkt : keepT (ts.take k) = keepT ts := by rw [List.take_of_length_le (by omega)]
      refine JC.exit ?_
      refine JQ.then_exit ?_
      refine JQ.then_exit ?_
      refine JQ.block_exit ?_
      refine JQ.then_normal ?_
      refine JC.seq ?_
      refine JC.region ?_
      refine J.op (ot_move (.tmp rfl)) rfl (ltN rfl) rfl ?_
      refine J.callL (R' := cRow encTm (sortT (keepT (ts.take k))) (c)) (Us := []) (cap := []) fn58 (.func (fun _ => rfl)) (sort_c b c (keepT (ts.take k)) (by omega)) (.cons (.tmp rfl) (.cons (.func (fun _ => rfl)) .nil)) (fun _ => trivial) .here (ltN rfl) ?_
      refine J.nil ?_
      refine JQ.then_normal ?_
      refine JC.seq ?_
      refine JC.weak (sub_freeze0 (E := encTm) (xs := sortT (keepT (ts.take k))) (n := (keepT (ts.take k)).length) (c := c) [24, 3] ⟨rfl, rfl, trivial⟩ .here (by rw [sortT_len]) (by omega)) ?_
      refine JC.region ?_
      refine J.op (ot_assign .is) rfl (ltN rfl) rfl ?_
      refine J.nil ?_
      refine JQ.then_normal ?_
      refine JC.seq ?_
      refine JC.seq ?_
      refine JC.region ?_
      refine J.op (ot_assign .is) rfl (ltN rfl) rfl ?_
      refine J.nil ?_
      refine JQ.then_normal ?_
      refine JC.block ?_
      refine JC.loop5 (α := Bool) (β := Nat) (γ := List Tm) (δ := Nat) (ε := Nat) (fun e i O b c => bif e then [(2, tSl encTm ([])), (3, tSl encTm ((sortT (keepT ts)))), (6, tIs (.slice none 0 0)), (7, tIs (.int .i64 (((i : Nat) : Int))))] else [(2, tSl encTm ([])), (3, tSl encTm ((sortT (keepT ts)))), (6, sIs b 0 (O.length) (c)), (7, tIs (.int .i64 (((i : Nat) : Int))))]) (fun e i O b c => bif e then [] else [⟨b, 63, cRow encTm (O) (c)⟩]) (fun e i O b c => i ≤ (sortT (keepT ts)).length ∧ O ++ mergeT ((sortT (keepT ts)).drop i) = mergeT (sortT (keepT ts)) ∧ O.length ≤ i ∧ (e = true → O = [])) (fun e i O b c => (sortT (keepT ts)).length - i) true 0 ([]) 0 0 ⟨by omega, by simp, by simp, fun _ => rfl⟩ ?lsub1 ?round1
      case lsub1 => exact sub_trans (sub_heap .nil) (sub_cons (.tmp rfl) (sub_cons (.eq (.tmp rfl) (by rw [hkt])) (sub_cons (.tmp rfl) (sub_cons (.eq (.tmp rfl) (by first | rfl | (congr 3; omega) | (congr 2; omega))) (sub_nil)))))
      intro e i O b c hinv
      rcases e with _ | _
      · change JC _ _ _ [(2, tSl encTm ([])), (3, tSl encTm ((sortT (keepT ts)))), (6, sIs b 0 (O.length) (c)), (7, tIs (.int .i64 (((i : Nat) : Int))))] [⟨b, 63, cRow encTm (O) (c)⟩]
        obtain ⟨hi, hO, hOl, hOe⟩ := hinv
        refine JC.seq ?_
        refine JC.seq ?_
        refine JC.region ?_
        refine J.op (ot_move (.tmp rfl)) rfl (ltN rfl) rfl ?_
        refine J.op (ot_move (.tmp rfl)) rfl (ltN rfl) rfl ?_
        refine J.op (ot_len (.tmp rfl) sl65 rfl) rfl (ltN rfl) rfl ?_
        refine J.op (ot_lss (.tmp rfl) (.tmp rfl)) rfl (ltN rfl) rfl ?_
        refine J.nil ?_
        refine JQ.then_normal ?_
        -- cond2: tIs (.bool (decide (((i : Nat) : Int) < (((sortT (keepT ts))).length : Int))))
        refine JC.cond (.tmp rfl) (fun hc2 => ?_) (fun hc2 => ?_)
        · try simp only [Bool.and_eq_true, Bool.or_eq_true, Bool.not_eq_true', Bool.not_eq_false', Bool.and_eq_false_iff, Bool.or_eq_false_iff, Bool.not_true, Bool.not_false, decide_eq_true_eq, decide_eq_false_iff_not, beq_iff_eq, beq_eq_false_iff_ne, Bool.not_eq_eq_eq_not] at hc2
          have hs29 := hc2
          refine JC.skip ?_
          refine JQ.then_normal ?_
          refine JC.block ?_
          refine JC.seq ?_
          refine JC.region ?_
          refine J.op (ot_move (.tmp rfl)) rfl (ltN rfl) rfl ?_
          refine J.op (ot_move (.tmp rfl)) rfl (ltN rfl) rfl ?_
          refine J.op (ot_index (z := atT (sortT (keepT ts)) i) (.tmp rfl) (.tmp rfl) sl65 (by omega) (atT_at (by omega) (by omega))) rfl (ltN rfl) rfl ?_
          refine J.op (ot_fieldAddr (R' := cDrop (cEnc encTm (atT (sortT (keepT ts)) i)) 2) (.tmp rfl) fd63_1 (fun _ _ h => cDrop_mk h)) rfl (ltN rfl) rfl ?_
          refine J.op (ot_load_agg (.tmp rfl) ag61 (ldFV (g := moT) (y := (atT (sortT (keepT ts)) i).exp) rfl rfl)) rfl (ltN rfl) rfl ?_
          refine J.op (ot_eqt (T' := tV encTm (Tm.mk (Z.mk (false) ([])) ((atT (sortT (keepT ts)) i).exp))) (ot_build (Ts := [tIs (.bool (false)), tSl encD ([]), tIs (.int .i64 (0)), tIs (.int .i64 (0)), tIs (.int .i64 (0)), tIs (.int .i64 (0))]) pl63 (fun _ => ⟨rfl, rfl, slP_nil _ _, rfl, rfl, rfl, rfl, rfl, rfl, rfl, rfl, rfl, trivial⟩) ((.agg (off := 2) rfl (.eq (.tmp rfl) (tV_F (Ts := [tIs (.int .i64 (((atT (sortT (keepT ts)) i).exp).a)), tIs (.int .i64 (((atT (sortT (keepT ts)) i).exp).b)), tIs (.int .i64 (((atT (sortT (keepT ts)) i).exp).c)), tIs (.int .i64 (((atT (sortT (keepT ts)) i).exp).d))]) rfl)) (Ts' := [tIs (.bool (false)), tSl encD ([]), tIs (.int .i64 (((atT (sortT (keepT ts)) i).exp).a)), tIs (.int .i64 (((atT (sortT (keepT ts)) i).exp).b)), tIs (.int .i64 (((atT (sortT (keepT ts)) i).exp).c)), tIs (.int .i64 (((atT (sortT (keepT ts)) i).exp).d))]) rfl rfl .nil)) rfl) (tV_F' rfl)) rfl (ltN rfl) rfl ?_
          refine J.alloc (R := cTs [tIs (.bool (false)), tSl encD ([]), tIs (.int .i64 (0)), tIs (.int .i64 (0)), tIs (.int .i64 (0)), tIs (.int .i64 (0))]) zr63 (fun _ => ⟨rfl, rfl, slP_nil _ _, rfl, rfl, rfl, rfl, rfl, rfl, rfl, rfl, rfl, trivial⟩) (ltN rfl) fun b8 => ?_
          refine J.store (.tmp rfl) (.eq (.tmp rfl) (tV_F (Ts := [tIs (.bool (false)), tSl encD ([]), tIs (.int .i64 (((atT (sortT (keepT ts)) i).exp).a)), tIs (.int .i64 (((atT (sortT (keepT ts)) i).exp).b)), tIs (.int .i64 (((atT (sortT (keepT ts)) i).exp).c)), tIs (.int .i64 (((atT (sortT (keepT ts)) i).exp).d))]) rfl)) .here sz63 (st_agg (Ts' := [tIs (.bool (false)), tSl encD ([]), tIs (.int .i64 (((atT (sortT (keepT ts)) i).exp).a)), tIs (.int .i64 (((atT (sortT (keepT ts)) i).exp).b)), tIs (.int .i64 (((atT (sortT (keepT ts)) i).exp).c)), tIs (.int .i64 (((atT (sortT (keepT ts)) i).exp).d))]) (o := 0) rfl) ?_
          refine J.nil ?_
          refine JQ.then_normal ?_
          refine JC.seq ?_
          refine JC.block ?_
          refine JC.loop2 (α := Nat) (β := Int) (fun j q => [(2, tSl encTm ([])), (3, tSl encTm ((sortT (keepT ts)))), (6, sIs b 0 (O.length) (c)), (7, tIs (.int .i64 (((j : Nat) : Int)))), (8, pOwn b8 (0)), (26, tIs (.int .i64 (((i : Nat) : Int)))), (27, tSl encTm ((sortT (keepT ts)))), (28, tIs (.int .i64 ((((sortT (keepT ts))).length : Int)))), (29, tIs (.bool (decide (((i : Nat) : Int) < (((sortT (keepT ts))).length : Int))))), (30, tSl encTm ((sortT (keepT ts)))), (31, tIs (.int .i64 (((i : Nat) : Int)))), (32, tPtr (cEnc encTm (atT (sortT (keepT ts)) i))), (33, tPtr (cDrop (cEnc encTm (atT (sortT (keepT ts)) i)) 2)), (34, tV encMo ((atT (sortT (keepT ts)) i).exp)), (35, tV encTm (Tm.mk (Z.mk (false) ([])) ((atT (sortT (keepT ts)) i).exp)))]) (fun j q => [⟨b8, 63, cTs [tIs (.bool ((ofI q).neg)), tSl encD ((ofI q).abs), tIs (.int .i64 (((atT (sortT (keepT ts)) i).exp).a)), tIs (.int .i64 (((atT (sortT (keepT ts)) i).exp).b)), tIs (.int .i64 (((atT (sortT (keepT ts)) i).exp).c)), tIs (.int .i64 (((atT (sortT (keepT ts)) i).exp).d))]⟩, ⟨b, 63, cRow encTm (O) (c)⟩]) (fun j q => i ≤ j ∧ j ≤ (sortT (keepT ts)).length ∧ sumRun (atT (sortT (keepT ts)) i).exp q ((sortT (keepT ts)).drop j) = sumRun (atT (sortT (keepT ts)) i).exp 0 ((sortT (keepT ts)).drop i) ∧ q.natAbs ≤ j * B32 ^ B) (fun j q => (sortT (keepT ts)).length - j) i 0 ⟨by omega, by omega, rfl, by simp⟩ ?lsub2 ?round2
          case lsub2 => exact sub_trans (sub_heap (.keep (fun _ _ h => by rw [ofI_zero]; exact h) (.keep (fun _ _ h => h) .nil))) (sub_cons (.tmp rfl) (sub_cons (.tmp rfl) (sub_cons (.tmp rfl) (sub_cons (.tmp rfl) (sub_cons (.tmp rfl) (sub_cons (.tmp rfl) (sub_cons (.tmp rfl) (sub_cons (.tmp rfl) (sub_cons (.tmp rfl) (sub_cons (.tmp rfl) (sub_cons (.tmp rfl) (sub_cons (.tmp rfl) (sub_cons (.tmp rfl) (sub_cons (.tmp rfl) (sub_cons (.tmp rfl) (sub_nil))))))))))))))))
          intro j q hinv
          obtain ⟨hij, hjl, hrun, hq⟩ := hinv
          have hqf := sum_fit hq (by omega)
          have hqf2 : (ofI q).abs.length ≤ B + 1 := hqf
          refine JC.seq ?_
          refine JC.seq ?_
          refine JC.draw (Γ' := ?g1) mo (by kernel_rfl) ?tw1 ?k1
          case tw1 =>
            refine TW.op (ot_move (.tmp rfl)) rfl (ltN rfl) rfl ?_
            refine TW.op (ot_move (.tmp rfl)) rfl (ltN rfl) rfl ?_
            refine TW.op (ot_len (.tmp rfl) sl65 rfl) rfl (ltN rfl) rfl ?_
            refine TW.op (ot_lss (.tmp rfl) (.tmp rfl)) rfl (ltN rfl) rfl ?_
            refine TW.op (ot_move (.tmp rfl)) rfl (ltN rfl) rfl ?_
            refine TW.opg rfl rfl rfl (ltN rfl) (fun hg => ot_move (.tmp rfl)) rfl (ltN rfl) ?_
            refine TW.opg rfl rfl rfl (ltN rfl) (fun hg => ot_move (.tmp rfl)) rfl (ltN rfl) ?_
            refine TW.opg rfl rfl rfl (ltN rfl) (fun hg => (by have hg' := hg; simp only [Bool.and_eq_true, Bool.or_eq_true, Bool.not_eq_true', Bool.not_eq_false', Bool.and_eq_false_iff, Bool.or_eq_false_iff, Bool.not_true, Bool.not_false, decide_eq_true_eq, decide_eq_false_iff_not, beq_iff_eq, beq_eq_false_iff_ne, Bool.not_eq_eq_eq_not] at hg'; exact ot_index (z := atT (sortT (keepT ts)) j) (.iff hg (.tmp rfl)) (.iff hg (.tmp rfl)) sl65 (by omega) (atT_at (by omega) (by omega)))) rfl (ltN rfl) ?_
            refine TW.opg rfl rfl rfl (ltN rfl) (fun hg => ot_fieldAddr (R' := cDrop (cEnc encTm (atT (sortT (keepT ts)) j)) 2) (.iff hg (.tmp rfl)) fd63_1 (fun _ _ h => cDrop_mk h)) rfl (ltN rfl) ?_
            refine TW.opg rfl rfl rfl (ltN rfl) (fun hg => ot_load_agg (.iff hg (.tmp rfl)) ag61 (ldFV (g := moT) (y := (atT (sortT (keepT ts)) j).exp) rfl rfl)) rfl (ltN rfl) ?_
            refine TW.opg rfl rfl rfl (ltN rfl) (fun hg => ot_fieldAddr_own (.tmp rfl) fd63_1) rfl (ltN rfl) ?_
            refine TW.opg rfl rfl rfl (ltN rfl) (fun hg => ot_load_own_agg (.iff hg (.tmp rfl)) (.head _) ag61 (cTs_ldV (g := moT) (y := ((atT (sortT (keepT ts)) i).exp)) rfl rfl)) rfl (ltN rfl) ?_
            refine TW.opg rfl rfl rfl (ltN rfl) (fun hg => ot_eqA (.iff hg (.tmp rfl)) (.iff hg (.tmp rfl)) ar4_61) rfl (ltN rfl) ?_
            refine TW.op (ot_and2 (.tmp rfl) (.tmp rfl) .is) rfl (ltN rfl) rfl ?_
            exact TW.nil
          refine JQ.then_normal ?_
          -- cond3: tIs (.bool ((decide (((j : Nat) : Int) < (((sortT (keepT ts))).length : Int))) && (decide (((atT (sortT (keepT ts)) j).exp) = ((atT (sortT (keepT ts)) i).exp)))))
          refine JC.cond (.tmp rfl) (fun hc3 => ?_) (fun hc3 => ?_)
          · try simp only [Bool.and_eq_true, Bool.or_eq_true, Bool.not_eq_true', Bool.not_eq_false', Bool.and_eq_false_iff, Bool.or_eq_false_iff, Bool.not_true, Bool.not_false, decide_eq_true_eq, decide_eq_false_iff_not, beq_iff_eq, beq_eq_false_iff_ne, Bool.not_eq_eq_eq_not] at hc3
            have hs49 := hc3
            have hmj : atT (sortT (keepT ts)) j ∈ ts := hm _ (atT_mem (by omega))
            have hzj := hz _ hmj
            refine JC.skip ?_
            refine JQ.then_normal ?_
            refine JC.block ?_
            refine JC.seq ?_
            refine JC.drawAt (Γ' := ?g2) 9 mo (by kernel_rfl) ?tw2 ?k2
            case tw2 =>
              refine TW.op (ot_fieldAddr_own (.tmp rfl) fd63_0) rfl (ltN rfl) rfl ?_
              refine TW.op (ot_load_own_agg (.tmp rfl) (.head _) ag25 (cTs_ldV (g := zT) (y := (ofI q)) rfl rfl)) rfl (ltN rfl) rfl ?_
              refine TW.op (ot_move (.tmp rfl)) rfl (ltN rfl) rfl ?_
              refine TW.op (ot_move (.tmp rfl)) rfl (ltN rfl) rfl ?_
              refine TW.op (ot_index (z := atT (sortT (keepT ts)) j) (.tmp rfl) (.tmp rfl) sl65 (by omega) (atT_at (by omega) (by omega))) rfl (ltN rfl) rfl ?_
              refine TW.op (ot_fieldAddr (.tmp rfl) fd63_0 (fun _ _ h => h)) rfl (ltN rfl) rfl ?_
              refine TW.op (ot_load_agg (.tmp rfl) ag25 (ldFV0 (g := zT) (y := (atT (sortT (keepT ts)) j).coef) rfl rfl)) rfl (ltN rfl) rfl ?_
              refine TW.op (ot_eqt (T' := tV encI (ofI (q + zval (atT (sortT (keepT ts)) j).coef))) (ot_call fn48 (intAdd_c (ofI q) ((atT (sortT (keepT ts)) j).coef) (by omega) (by omega)) (.cons (.tmp rfl) (.cons (.tmp rfl) .nil))) (by rw [zval_ofI])) rfl (ltN rfl) rfl ?_
              refine TW.op (ot_fieldAddr_own (.tmp rfl) fd63_0) rfl (ltN rfl) rfl ?_
              exact TW.nil
            refine J.store (.tmp rfl) (.eq (.tmp rfl) (tV_F (Ts := [tIs (.bool ((ofI (q + zval (atT (sortT (keepT ts)) j).coef)).neg)), tSl encD ((ofI (q + zval (atT (sortT (keepT ts)) j).coef)).abs)]) rfl)) .here sz25 (st_agg (Ts' := [tIs (.bool ((ofI (q + zval (atT (sortT (keepT ts)) j).coef)).neg)), tSl encD ((ofI (q + zval (atT (sortT (keepT ts)) j).coef)).abs), tIs (.int .i64 (((atT (sortT (keepT ts)) i).exp).a)), tIs (.int .i64 (((atT (sortT (keepT ts)) i).exp).b)), tIs (.int .i64 (((atT (sortT (keepT ts)) i).exp).c)), tIs (.int .i64 (((atT (sortT (keepT ts)) i).exp).d))]) (o := 0) rfl) ?_
            refine J.nil ?_
            refine JQ.then_normal ?_
            refine JC.region ?_
            refine J.op (ot_move (.tmp rfl)) rfl (ltN rfl) rfl ?_
            refine J.op (ot_add (.tmp rfl) .is (w64 (by omega) (by omega))) rfl (ltN rfl) rfl ?_
            refine J.op (ot_assign (.tmp rfl)) rfl (ltN rfl) rfl ?_
            refine J.nil ?_
            refine JQ.block_normal ?_
            exact JQ.round2 (i := j) (i2 := q) (j + 1) (q + zval (atT (sortT (keepT ts)) j).coef) ⟨by omega, by omega, by rw [← hrun]; exact sumRun_step (by omega) hs49.2, sum_next hq (hd _ hmj) (hz _ hmj)⟩ (by omega) (sub_trans (sub_heap (.keep (fun _ _ h => h) (.keep (fun _ _ h => h) .nil))) (sub_cons (.tmp rfl) (sub_cons (.tmp rfl) (sub_cons (.tmp rfl) (sub_cons (.eq (.tmp rfl) (by first | rfl | (congr 3; omega) | (congr 2; omega))) (sub_cons (.tmp rfl) (sub_cons (.tmp rfl) (sub_cons (.tmp rfl) (sub_cons (.tmp rfl) (sub_cons (.tmp rfl) (sub_cons (.tmp rfl) (sub_cons (.tmp rfl) (sub_cons (.tmp rfl) (sub_cons (.tmp rfl) (sub_cons (.tmp rfl) (sub_cons (.tmp rfl) (sub_nil)))))))))))))))))
          · try simp only [Bool.and_eq_true, Bool.or_eq_true, Bool.not_eq_true', Bool.not_eq_false', Bool.and_eq_false_iff, Bool.or_eq_false_iff, Bool.not_true, Bool.not_false, decide_eq_true_eq, decide_eq_false_iff_not, beq_iff_eq, beq_eq_false_iff_ne, Bool.not_eq_eq_eq_not] at hc3
            have hs49 := hc3
            have hst := sumRun_stop (c := q) (show ¬ j < (sortT (keepT ts)).length ∨ ¬ (atT (sortT (keepT ts)) j).exp = (atT (sortT (keepT ts)) i).exp from hs49.imp (fun h => by omega) id)
            rw [hrun] at hst
            have hlt : i < j := by rcases Nat.lt_or_eq_of_le hij with h | h; exact h; subst h; rcases hs49 with q | q; omega; exact absurd rfl q
            refine JC.exit ?_
            refine JQ.then_exit ?_
            refine JQ.then_exit ?_
            refine JQ.block_exit ?_
            refine JQ.then_normal ?_
            refine JC.seq ?_
            refine JC.region ?_
            refine J.op (ot_fieldAddr_own (.tmp rfl) fd63_0) rfl (ltN rfl) rfl ?_
            refine J.op (ot_load_own_agg (.tmp rfl) (.head _) ag25 (cTs_ldV (g := zT) (y := (ofI q)) rfl rfl)) rfl (ltN rfl) rfl ?_
            refine J.op (ot_eqt (T' := tIs (.int .i64 (sgn q))) (ot_call fn25 (intSign_c (ofI q) (by omega)) (.cons (.tmp rfl) .nil)) (by rw [zval_ofI])) rfl (ltN rfl) rfl ?_
            refine J.op (ot_neq (.tmp rfl) .is) rfl (ltN rfl) rfl ?_
            refine J.nil ?_
            refine JQ.then_normal ?_
            -- cond4: tIs (.bool (!decide ((sgn q) = 0)))
            refine JC.cond (.tmp rfl) (fun hc4 => ?_) (fun hc4 => ?_)
            · try simp only [Bool.and_eq_true, Bool.or_eq_true, Bool.not_eq_true', Bool.not_eq_false', Bool.and_eq_false_iff, Bool.or_eq_false_iff, Bool.not_true, Bool.not_false, decide_eq_true_eq, decide_eq_false_iff_not, beq_iff_eq, beq_eq_false_iff_ne, Bool.not_eq_eq_eq_not] at hc4
              have hs64 := hc4
              refine JC.region ?_
              refine J.op (ot_move (.tmp rfl)) rfl (ltN rfl) rfl ?_
              refine J.op (ot_load_own_agg (.tmp rfl) (.head _) ag63 (cTs_ldV (g := tmT) (y := (Tm.mk (ofI q) ((atT (sortT (keepT ts)) i).exp))) rfl rfl)) rfl (ltN rfl) rfl ?_
              refine J.op (ot_buildSlice (E := encTm) (zs := [Tm.mk (ofI q) ((atT (sortT (keepT ts)) i).exp)]) sl65 (.cons (.tmp rfl) .nil) rfl zr63 rfl (by decide) (by decide)) rfl (ltN rfl) rfl ?_
              refine J.append (E := encTm) (xs := O) (ys := [Tm.mk (ofI q) ((atT (sortT (keepT ts)) i).exp)]) (.tmp rfl) rfl (.tmp rfl) sl65 rfl zr63 rfl (.there .here) (by simp <;> omega) (by simp <;> omega) (ltN rfl) fun b68 c68 => ?_
              refine J.op (ot_assign (.tmp rfl)) rfl (ltN rfl) rfl ?_
              refine J.nil ?_
              refine JQ.block_normal ?_
              have hq0 : ¬ q = 0 := fun h => hs64 (by rw [h]; rfl)
              exact JQ.round5 (i := false) (i2 := i) (i3 := O) (i4 := b) (i5 := c) false j (O ++ [Tm.mk (ofI q) ((atT (sortT (keepT ts)) i).exp)]) b68 c68 ⟨hjl, merge_yes (by omega) hO hst hq0, by simp; omega, fun h => by cases h⟩ (by omega) (sub_trans (sub_heap (.keep (fun _ _ h => by first | exact h | simpa using h) (.drop .nil))) (sub_cons (.tmp rfl) (sub_cons (.tmp rfl) (sub_cons (.eq (.tmp rfl) (by first | rfl | (congr 3; omega) | (congr 2; omega))) (sub_cons (.tmp rfl) (sub_nil))))))
            · try simp only [Bool.and_eq_true, Bool.or_eq_true, Bool.not_eq_true', Bool.not_eq_false', Bool.and_eq_false_iff, Bool.or_eq_false_iff, Bool.not_true, Bool.not_false, decide_eq_true_eq, decide_eq_false_iff_not, beq_iff_eq, beq_eq_false_iff_ne, Bool.not_eq_eq_eq_not] at hc4
              have hs64 := hc4
              refine JC.skip ?_
              refine JQ.block_normal ?_
              have hq0 : q = 0 := by rcases sgn_cases q with h | h | h <;> omega
              exact JQ.round5 (i := false) (i2 := i) (i3 := O) (i4 := b) (i5 := c) false j O b c ⟨hjl, merge_no (by omega) hO hst hq0, by omega, fun h => by cases h⟩ (by omega) (sub_trans (sub_heap (.drop (.keep (fun _ _ h => h) .nil))) (sub_cons (.tmp rfl) (sub_cons (.tmp rfl) (sub_cons (.tmp rfl) (sub_cons (.tmp rfl) (sub_nil))))))
        · try simp only [Bool.and_eq_true, Bool.or_eq_true, Bool.not_eq_true', Bool.not_eq_false', Bool.and_eq_false_iff, Bool.or_eq_false_iff, Bool.not_true, Bool.not_false, decide_eq_true_eq, decide_eq_false_iff_not, beq_iff_eq, beq_eq_false_iff_ne, Bool.not_eq_eq_eq_not] at hc2
          have hs29 := hc2
          refine JC.exit ?_
          refine JQ.then_exit ?_
          refine JQ.then_exit ?_
          refine JQ.block_exit ?_
          refine JQ.then_normal ?_
          refine JC.seq ?_
          refine JC.weak (sub_freeze0 (E := encTm) (xs := O) (n := O.length) (c := c) [6] ⟨rfl, trivial⟩ .here rfl (by omega)) ?_
          refine JC.region ?_
          refine J.op (ot_move (.tmp rfl)) rfl (ltN rfl) rfl ?_
          refine J.op (ot_call fn61 (clip_c O (by omega)) (.cons (.tmp rfl) .nil)) rfl (ltN rfl) rfl ?_
          refine J.op (ot_assign (.tmp rfl)) rfl (ltN rfl) rfl ?_
          refine J.nil ?_
          refine JQ.then_normal ?_
          refine JC.ret ?_
          -- ret0
          exact JQ.ret1 rfl (.tmp (.eq (.tmp rfl) (by rw [merge_end (by omega) hO mergeT_nil]; rfl)))
      · change JC _ _ _ [(2, tSl encTm ([])), (3, tSl encTm ((sortT (keepT ts)))), (6, tIs (.slice none 0 0)), (7, tIs (.int .i64 (((i : Nat) : Int))))] []
        obtain ⟨hi, hO, hOl, hOe⟩ := hinv
        refine JC.seq ?_
        refine JC.seq ?_
        refine JC.region ?_
        refine J.op (ot_move (.tmp rfl)) rfl (ltN rfl) rfl ?_
        refine J.op (ot_move (.tmp rfl)) rfl (ltN rfl) rfl ?_
        refine J.op (ot_len (.tmp rfl) sl65 rfl) rfl (ltN rfl) rfl ?_
        refine J.op (ot_lss (.tmp rfl) (.tmp rfl)) rfl (ltN rfl) rfl ?_
        refine J.nil ?_
        refine JQ.then_normal ?_
        -- cond5: tIs (.bool (decide (((i : Nat) : Int) < (((sortT (keepT ts))).length : Int))))
        refine JC.cond (.tmp rfl) (fun hc5 => ?_) (fun hc5 => ?_)
        · try simp only [Bool.and_eq_true, Bool.or_eq_true, Bool.not_eq_true', Bool.not_eq_false', Bool.and_eq_false_iff, Bool.or_eq_false_iff, Bool.not_true, Bool.not_false, decide_eq_true_eq, decide_eq_false_iff_not, beq_iff_eq, beq_eq_false_iff_ne, Bool.not_eq_eq_eq_not] at hc5
          have hs29 := hc5
          refine JC.skip ?_
          refine JQ.then_normal ?_
          refine JC.block ?_
          refine JC.seq ?_
          refine JC.region ?_
          refine J.op (ot_move (.tmp rfl)) rfl (ltN rfl) rfl ?_
          refine J.op (ot_move (.tmp rfl)) rfl (ltN rfl) rfl ?_
          refine J.op (ot_index (z := atT (sortT (keepT ts)) i) (.tmp rfl) (.tmp rfl) sl65 (by omega) (atT_at (by omega) (by omega))) rfl (ltN rfl) rfl ?_
          refine J.op (ot_fieldAddr (R' := cDrop (cEnc encTm (atT (sortT (keepT ts)) i)) 2) (.tmp rfl) fd63_1 (fun _ _ h => cDrop_mk h)) rfl (ltN rfl) rfl ?_
          refine J.op (ot_load_agg (.tmp rfl) ag61 (ldFV (g := moT) (y := (atT (sortT (keepT ts)) i).exp) rfl rfl)) rfl (ltN rfl) rfl ?_
          refine J.op (ot_eqt (T' := tV encTm (Tm.mk (Z.mk (false) ([])) ((atT (sortT (keepT ts)) i).exp))) (ot_build (Ts := [tIs (.bool (false)), tSl encD ([]), tIs (.int .i64 (0)), tIs (.int .i64 (0)), tIs (.int .i64 (0)), tIs (.int .i64 (0))]) pl63 (fun _ => ⟨rfl, rfl, slP_nil _ _, rfl, rfl, rfl, rfl, rfl, rfl, rfl, rfl, rfl, trivial⟩) ((.agg (off := 2) rfl (.eq (.tmp rfl) (tV_F (Ts := [tIs (.int .i64 (((atT (sortT (keepT ts)) i).exp).a)), tIs (.int .i64 (((atT (sortT (keepT ts)) i).exp).b)), tIs (.int .i64 (((atT (sortT (keepT ts)) i).exp).c)), tIs (.int .i64 (((atT (sortT (keepT ts)) i).exp).d))]) rfl)) (Ts' := [tIs (.bool (false)), tSl encD ([]), tIs (.int .i64 (((atT (sortT (keepT ts)) i).exp).a)), tIs (.int .i64 (((atT (sortT (keepT ts)) i).exp).b)), tIs (.int .i64 (((atT (sortT (keepT ts)) i).exp).c)), tIs (.int .i64 (((atT (sortT (keepT ts)) i).exp).d))]) rfl rfl .nil)) rfl) (tV_F' rfl)) rfl (ltN rfl) rfl ?_
          refine J.alloc (R := cTs [tIs (.bool (false)), tSl encD ([]), tIs (.int .i64 (0)), tIs (.int .i64 (0)), tIs (.int .i64 (0)), tIs (.int .i64 (0))]) zr63 (fun _ => ⟨rfl, rfl, slP_nil _ _, rfl, rfl, rfl, rfl, rfl, rfl, rfl, rfl, rfl, trivial⟩) (ltN rfl) fun b8 => ?_
          refine J.store (.tmp rfl) (.eq (.tmp rfl) (tV_F (Ts := [tIs (.bool (false)), tSl encD ([]), tIs (.int .i64 (((atT (sortT (keepT ts)) i).exp).a)), tIs (.int .i64 (((atT (sortT (keepT ts)) i).exp).b)), tIs (.int .i64 (((atT (sortT (keepT ts)) i).exp).c)), tIs (.int .i64 (((atT (sortT (keepT ts)) i).exp).d))]) rfl)) .here sz63 (st_agg (Ts' := [tIs (.bool (false)), tSl encD ([]), tIs (.int .i64 (((atT (sortT (keepT ts)) i).exp).a)), tIs (.int .i64 (((atT (sortT (keepT ts)) i).exp).b)), tIs (.int .i64 (((atT (sortT (keepT ts)) i).exp).c)), tIs (.int .i64 (((atT (sortT (keepT ts)) i).exp).d))]) (o := 0) rfl) ?_
          refine J.nil ?_
          refine JQ.then_normal ?_
          refine JC.seq ?_
          refine JC.block ?_
          refine JC.loop2 (α := Nat) (β := Int) (fun j q => [(2, tSl encTm ([])), (3, tSl encTm ((sortT (keepT ts)))), (6, tIs (.slice none 0 0)), (7, tIs (.int .i64 (((j : Nat) : Int)))), (8, pOwn b8 (0)), (26, tIs (.int .i64 (((i : Nat) : Int)))), (27, tSl encTm ((sortT (keepT ts)))), (28, tIs (.int .i64 ((((sortT (keepT ts))).length : Int)))), (29, tIs (.bool (decide (((i : Nat) : Int) < (((sortT (keepT ts))).length : Int))))), (30, tSl encTm ((sortT (keepT ts)))), (31, tIs (.int .i64 (((i : Nat) : Int)))), (32, tPtr (cEnc encTm (atT (sortT (keepT ts)) i))), (33, tPtr (cDrop (cEnc encTm (atT (sortT (keepT ts)) i)) 2)), (34, tV encMo ((atT (sortT (keepT ts)) i).exp)), (35, tV encTm (Tm.mk (Z.mk (false) ([])) ((atT (sortT (keepT ts)) i).exp)))]) (fun j q => [⟨b8, 63, cTs [tIs (.bool ((ofI q).neg)), tSl encD ((ofI q).abs), tIs (.int .i64 (((atT (sortT (keepT ts)) i).exp).a)), tIs (.int .i64 (((atT (sortT (keepT ts)) i).exp).b)), tIs (.int .i64 (((atT (sortT (keepT ts)) i).exp).c)), tIs (.int .i64 (((atT (sortT (keepT ts)) i).exp).d))]⟩]) (fun j q => i ≤ j ∧ j ≤ (sortT (keepT ts)).length ∧ sumRun (atT (sortT (keepT ts)) i).exp q ((sortT (keepT ts)).drop j) = sumRun (atT (sortT (keepT ts)) i).exp 0 ((sortT (keepT ts)).drop i) ∧ q.natAbs ≤ j * B32 ^ B) (fun j q => (sortT (keepT ts)).length - j) i 0 ⟨by omega, by omega, rfl, by simp⟩ ?lsub3 ?round3
          case lsub3 => exact sub_trans (sub_heap (.keep (fun _ _ h => by rw [ofI_zero]; exact h) .nil)) (sub_cons (.tmp rfl) (sub_cons (.tmp rfl) (sub_cons (.tmp rfl) (sub_cons (.tmp rfl) (sub_cons (.tmp rfl) (sub_cons (.tmp rfl) (sub_cons (.tmp rfl) (sub_cons (.tmp rfl) (sub_cons (.tmp rfl) (sub_cons (.tmp rfl) (sub_cons (.tmp rfl) (sub_cons (.tmp rfl) (sub_cons (.tmp rfl) (sub_cons (.tmp rfl) (sub_cons (.tmp rfl) (sub_nil))))))))))))))))
          intro j q hinv
          obtain ⟨hij, hjl, hrun, hq⟩ := hinv
          have hqf := sum_fit hq (by omega)
          have hqf2 : (ofI q).abs.length ≤ B + 1 := hqf
          refine JC.seq ?_
          refine JC.seq ?_
          refine JC.draw (Γ' := ?g3) mo (by kernel_rfl) ?tw3 ?k3
          case tw3 =>
            refine TW.op (ot_move (.tmp rfl)) rfl (ltN rfl) rfl ?_
            refine TW.op (ot_move (.tmp rfl)) rfl (ltN rfl) rfl ?_
            refine TW.op (ot_len (.tmp rfl) sl65 rfl) rfl (ltN rfl) rfl ?_
            refine TW.op (ot_lss (.tmp rfl) (.tmp rfl)) rfl (ltN rfl) rfl ?_
            refine TW.op (ot_move (.tmp rfl)) rfl (ltN rfl) rfl ?_
            refine TW.opg rfl rfl rfl (ltN rfl) (fun hg => ot_move (.tmp rfl)) rfl (ltN rfl) ?_
            refine TW.opg rfl rfl rfl (ltN rfl) (fun hg => ot_move (.tmp rfl)) rfl (ltN rfl) ?_
            refine TW.opg rfl rfl rfl (ltN rfl) (fun hg => (by have hg' := hg; simp only [Bool.and_eq_true, Bool.or_eq_true, Bool.not_eq_true', Bool.not_eq_false', Bool.and_eq_false_iff, Bool.or_eq_false_iff, Bool.not_true, Bool.not_false, decide_eq_true_eq, decide_eq_false_iff_not, beq_iff_eq, beq_eq_false_iff_ne, Bool.not_eq_eq_eq_not] at hg'; exact ot_index (z := atT (sortT (keepT ts)) j) (.iff hg (.tmp rfl)) (.iff hg (.tmp rfl)) sl65 (by omega) (atT_at (by omega) (by omega)))) rfl (ltN rfl) ?_
            refine TW.opg rfl rfl rfl (ltN rfl) (fun hg => ot_fieldAddr (R' := cDrop (cEnc encTm (atT (sortT (keepT ts)) j)) 2) (.iff hg (.tmp rfl)) fd63_1 (fun _ _ h => cDrop_mk h)) rfl (ltN rfl) ?_
            refine TW.opg rfl rfl rfl (ltN rfl) (fun hg => ot_load_agg (.iff hg (.tmp rfl)) ag61 (ldFV (g := moT) (y := (atT (sortT (keepT ts)) j).exp) rfl rfl)) rfl (ltN rfl) ?_
            refine TW.opg rfl rfl rfl (ltN rfl) (fun hg => ot_fieldAddr_own (.tmp rfl) fd63_1) rfl (ltN rfl) ?_
            refine TW.opg rfl rfl rfl (ltN rfl) (fun hg => ot_load_own_agg (.iff hg (.tmp rfl)) (.head _) ag61 (cTs_ldV (g := moT) (y := ((atT (sortT (keepT ts)) i).exp)) rfl rfl)) rfl (ltN rfl) ?_
            refine TW.opg rfl rfl rfl (ltN rfl) (fun hg => ot_eqA (.iff hg (.tmp rfl)) (.iff hg (.tmp rfl)) ar4_61) rfl (ltN rfl) ?_
            refine TW.op (ot_and2 (.tmp rfl) (.tmp rfl) .is) rfl (ltN rfl) rfl ?_
            exact TW.nil
          refine JQ.then_normal ?_
          -- cond6: tIs (.bool ((decide (((j : Nat) : Int) < (((sortT (keepT ts))).length : Int))) && (decide (((atT (sortT (keepT ts)) j).exp) = ((atT (sortT (keepT ts)) i).exp)))))
          refine JC.cond (.tmp rfl) (fun hc6 => ?_) (fun hc6 => ?_)
          · try simp only [Bool.and_eq_true, Bool.or_eq_true, Bool.not_eq_true', Bool.not_eq_false', Bool.and_eq_false_iff, Bool.or_eq_false_iff, Bool.not_true, Bool.not_false, decide_eq_true_eq, decide_eq_false_iff_not, beq_iff_eq, beq_eq_false_iff_ne, Bool.not_eq_eq_eq_not] at hc6
            have hs49 := hc6
            have hmj : atT (sortT (keepT ts)) j ∈ ts := hm _ (atT_mem (by omega))
            have hzj := hz _ hmj
            refine JC.skip ?_
            refine JQ.then_normal ?_
            refine JC.block ?_
            refine JC.seq ?_
            refine JC.drawAt (Γ' := ?g4) 9 mo (by kernel_rfl) ?tw4 ?k4
            case tw4 =>
              refine TW.op (ot_fieldAddr_own (.tmp rfl) fd63_0) rfl (ltN rfl) rfl ?_
              refine TW.op (ot_load_own_agg (.tmp rfl) (.head _) ag25 (cTs_ldV (g := zT) (y := (ofI q)) rfl rfl)) rfl (ltN rfl) rfl ?_
              refine TW.op (ot_move (.tmp rfl)) rfl (ltN rfl) rfl ?_
              refine TW.op (ot_move (.tmp rfl)) rfl (ltN rfl) rfl ?_
              refine TW.op (ot_index (z := atT (sortT (keepT ts)) j) (.tmp rfl) (.tmp rfl) sl65 (by omega) (atT_at (by omega) (by omega))) rfl (ltN rfl) rfl ?_
              refine TW.op (ot_fieldAddr (.tmp rfl) fd63_0 (fun _ _ h => h)) rfl (ltN rfl) rfl ?_
              refine TW.op (ot_load_agg (.tmp rfl) ag25 (ldFV0 (g := zT) (y := (atT (sortT (keepT ts)) j).coef) rfl rfl)) rfl (ltN rfl) rfl ?_
              refine TW.op (ot_eqt (T' := tV encI (ofI (q + zval (atT (sortT (keepT ts)) j).coef))) (ot_call fn48 (intAdd_c (ofI q) ((atT (sortT (keepT ts)) j).coef) (by omega) (by omega)) (.cons (.tmp rfl) (.cons (.tmp rfl) .nil))) (by rw [zval_ofI])) rfl (ltN rfl) rfl ?_
              refine TW.op (ot_fieldAddr_own (.tmp rfl) fd63_0) rfl (ltN rfl) rfl ?_
              exact TW.nil
            refine J.store (.tmp rfl) (.eq (.tmp rfl) (tV_F (Ts := [tIs (.bool ((ofI (q + zval (atT (sortT (keepT ts)) j).coef)).neg)), tSl encD ((ofI (q + zval (atT (sortT (keepT ts)) j).coef)).abs)]) rfl)) .here sz25 (st_agg (Ts' := [tIs (.bool ((ofI (q + zval (atT (sortT (keepT ts)) j).coef)).neg)), tSl encD ((ofI (q + zval (atT (sortT (keepT ts)) j).coef)).abs), tIs (.int .i64 (((atT (sortT (keepT ts)) i).exp).a)), tIs (.int .i64 (((atT (sortT (keepT ts)) i).exp).b)), tIs (.int .i64 (((atT (sortT (keepT ts)) i).exp).c)), tIs (.int .i64 (((atT (sortT (keepT ts)) i).exp).d))]) (o := 0) rfl) ?_
            refine J.nil ?_
            refine JQ.then_normal ?_
            refine JC.region ?_
            refine J.op (ot_move (.tmp rfl)) rfl (ltN rfl) rfl ?_
            refine J.op (ot_add (.tmp rfl) .is (w64 (by omega) (by omega))) rfl (ltN rfl) rfl ?_
            refine J.op (ot_assign (.tmp rfl)) rfl (ltN rfl) rfl ?_
            refine J.nil ?_
            refine JQ.block_normal ?_
            exact JQ.round2 (i := j) (i2 := q) (j + 1) (q + zval (atT (sortT (keepT ts)) j).coef) ⟨by omega, by omega, by rw [← hrun]; exact sumRun_step (by omega) hs49.2, sum_next hq (hd _ hmj) (hz _ hmj)⟩ (by omega) (sub_trans (sub_heap (.keep (fun _ _ h => h) .nil)) (sub_cons (.tmp rfl) (sub_cons (.tmp rfl) (sub_cons (.tmp rfl) (sub_cons (.eq (.tmp rfl) (by first | rfl | (congr 3; omega) | (congr 2; omega))) (sub_cons (.tmp rfl) (sub_cons (.tmp rfl) (sub_cons (.tmp rfl) (sub_cons (.tmp rfl) (sub_cons (.tmp rfl) (sub_cons (.tmp rfl) (sub_cons (.tmp rfl) (sub_cons (.tmp rfl) (sub_cons (.tmp rfl) (sub_cons (.tmp rfl) (sub_cons (.tmp rfl) (sub_nil)))))))))))))))))
          · try simp only [Bool.and_eq_true, Bool.or_eq_true, Bool.not_eq_true', Bool.not_eq_false', Bool.and_eq_false_iff, Bool.or_eq_false_iff, Bool.not_true, Bool.not_false, decide_eq_true_eq, decide_eq_false_iff_not, beq_iff_eq, beq_eq_false_iff_ne, Bool.not_eq_eq_eq_not] at hc6
            have hs49 := hc6
            have hst := sumRun_stop (c := q) (show ¬ j < (sortT (keepT ts)).length ∨ ¬ (atT (sortT (keepT ts)) j).exp = (atT (sortT (keepT ts)) i).exp from hs49.imp (fun h => by omega) id)
            rw [hrun] at hst
            have hlt : i < j := by rcases Nat.lt_or_eq_of_le hij with h | h; exact h; subst h; rcases hs49 with q | q; omega; exact absurd rfl q
            refine JC.exit ?_
            refine JQ.then_exit ?_
            refine JQ.then_exit ?_
            refine JQ.block_exit ?_
            refine JQ.then_normal ?_
            refine JC.seq ?_
            refine JC.region ?_
            refine J.op (ot_fieldAddr_own (.tmp rfl) fd63_0) rfl (ltN rfl) rfl ?_
            refine J.op (ot_load_own_agg (.tmp rfl) (.head _) ag25 (cTs_ldV (g := zT) (y := (ofI q)) rfl rfl)) rfl (ltN rfl) rfl ?_
            refine J.op (ot_eqt (T' := tIs (.int .i64 (sgn q))) (ot_call fn25 (intSign_c (ofI q) (by omega)) (.cons (.tmp rfl) .nil)) (by rw [zval_ofI])) rfl (ltN rfl) rfl ?_
            refine J.op (ot_neq (.tmp rfl) .is) rfl (ltN rfl) rfl ?_
            refine J.nil ?_
            refine JQ.then_normal ?_
            -- cond7: tIs (.bool (!decide ((sgn q) = 0)))
            refine JC.cond (.tmp rfl) (fun hc7 => ?_) (fun hc7 => ?_)
            · try simp only [Bool.and_eq_true, Bool.or_eq_true, Bool.not_eq_true', Bool.not_eq_false', Bool.and_eq_false_iff, Bool.or_eq_false_iff, Bool.not_true, Bool.not_false, decide_eq_true_eq, decide_eq_false_iff_not, beq_iff_eq, beq_eq_false_iff_ne, Bool.not_eq_eq_eq_not] at hc7
              have hs64 := hc7
              refine JC.region ?_
              refine J.op (ot_move (.tmp rfl)) rfl (ltN rfl) rfl ?_
              refine J.op (ot_load_own_agg (.tmp rfl) (.head _) ag63 (cTs_ldV (g := tmT) (y := (Tm.mk (ofI q) ((atT (sortT (keepT ts)) i).exp))) rfl rfl)) rfl (ltN rfl) rfl ?_
              refine J.op (ot_buildSlice (E := encTm) (zs := [Tm.mk (ofI q) ((atT (sortT (keepT ts)) i).exp)]) sl65 (.cons (.tmp rfl) .nil) rfl zr63 rfl (by decide) (by decide)) rfl (ltN rfl) rfl ?_
              refine J.append0 (E := encTm) (ys := [Tm.mk (ofI q) ((atT (sortT (keepT ts)) i).exp)]) (.sub (.tmp rfl) nil_z) (.tmp rfl) (by simp) sl65 rfl zr63 rfl (by simp <;> omega) (by simp <;> omega) (ltN rfl) fun b68 c68 => ?_
              refine J.op (ot_assign (.tmp rfl)) rfl (ltN rfl) rfl ?_
              refine J.nil ?_
              refine JQ.block_normal ?_
              have hq0 : ¬ q = 0 := fun h => hs64 (by rw [h]; rfl)
              have hO0 := hOe rfl
              exact JQ.round5 (i := true) (i2 := i) (i3 := O) (i4 := b) (i5 := c) false j (O ++ [Tm.mk (ofI q) ((atT (sortT (keepT ts)) i).exp)]) b68 c68 ⟨hjl, merge_yes (by omega) hO hst hq0, by simp; omega, fun h => by cases h⟩ (by omega) (sub_trans (sub_heap (.keep (cRow_eq (by rw [hO0]; rfl)) (.drop .nil))) (sub_cons (.tmp rfl) (sub_cons (.tmp rfl) (sub_cons (.eq (.tmp rfl) (by rw [hO0]; rfl)) (sub_cons (.tmp rfl) (sub_nil))))))
            · try simp only [Bool.and_eq_true, Bool.or_eq_true, Bool.not_eq_true', Bool.not_eq_false', Bool.and_eq_false_iff, Bool.or_eq_false_iff, Bool.not_true, Bool.not_false, decide_eq_true_eq, decide_eq_false_iff_not, beq_iff_eq, beq_eq_false_iff_ne, Bool.not_eq_eq_eq_not] at hc7
              have hs64 := hc7
              refine JC.skip ?_
              refine JQ.block_normal ?_
              have hq0 : q = 0 := by rcases sgn_cases q with h | h | h <;> omega
              exact JQ.round5 (i := true) (i2 := i) (i3 := O) (i4 := b) (i5 := c) true j O 0 0 ⟨hjl, merge_no (by omega) hO hst hq0, by omega, fun _ => hOe rfl⟩ (by omega) (sub_trans (sub_heap (.drop .nil)) (sub_cons (.tmp rfl) (sub_cons (.tmp rfl) (sub_cons (.tmp rfl) (sub_cons (.tmp rfl) (sub_nil))))))
        · try simp only [Bool.and_eq_true, Bool.or_eq_true, Bool.not_eq_true', Bool.not_eq_false', Bool.and_eq_false_iff, Bool.or_eq_false_iff, Bool.not_true, Bool.not_false, decide_eq_true_eq, decide_eq_false_iff_not, beq_iff_eq, beq_eq_false_iff_ne, Bool.not_eq_eq_eq_not] at hc5
          have hs29 := hc5
          refine JC.exit ?_
          refine JQ.then_exit ?_
          refine JQ.then_exit ?_
          refine JQ.block_exit ?_
          refine JQ.then_normal ?_
          refine JC.seq ?_
          refine JC.region ?_
          refine J.op (ot_move (.tmp rfl)) rfl (ltN rfl) rfl ?_
          refine J.op (ot_call fn61 (clip_c ([]) (by simp)) (.cons (.sub (.tmp rfl) nil_sl) .nil)) rfl (ltN rfl) rfl ?_
          refine J.op (ot_assign (.tmp rfl)) rfl (ltN rfl) rfl ?_
          refine J.nil ?_
          refine JQ.then_normal ?_
          refine JC.ret ?_
          -- ret1
          exact JQ.ret1 rfl (.tmp (.eq (.tmp rfl) (by rw [normS, ← merge_end (by omega) hO mergeT_nil, hOe rfl])))
  · change JC _ _ _ [(2, tSl encTm ([])), (3, tIs (.slice none 0 0)), (9, tSl encTm (ts)), (10, tIs (.int .i64 (((ts).length : Int)))), (11, tIs (.int .i64 (((k : Nat) : Int))))] []
    obtain ⟨hk, he⟩ := hinv
    have hkk := keepT_len (ts.take k)
    rw [List.length_take] at hkk
    refine JC.seq ?_
    refine JC.region ?_
    refine J.op (ot_lss (.tmp rfl) (.tmp rfl)) rfl (ltN rfl) rfl ?_
    refine J.nil ?_
    refine JQ.then_normal ?_
    refine JC.seq ?_
    -- cond8: tIs (.bool (decide (((k : Nat) : Int) < ((ts).length : Int))))
    refine JC.cond (.tmp rfl) (fun hc8 => ?_) (fun hc8 => ?_)
    · try simp only [Bool.and_eq_true, Bool.or_eq_true, Bool.not_eq_true', Bool.not_eq_false', Bool.and_eq_false_iff, Bool.or_eq_false_iff, Bool.not_true, Bool.not_false, decide_eq_true_eq, decide_eq_false_iff_not, beq_iff_eq, beq_eq_false_iff_ne, Bool.not_eq_eq_eq_not] at hc8
      have hs12 := hc8
      refine JC.skip ?_
      refine JQ.then_normal ?_
      refine JC.seq ?_
      refine JC.block ?_
      refine JC.seq ?_
      refine JC.region ?_
      refine J.op (ot_index (z := atT ts k) (.tmp rfl) (.tmp rfl) sl65 (by omega) (atT_at (by omega) (by omega))) rfl (ltN rfl) rfl ?_
      refine J.op (ot_load_agg (.tmp rfl) ag63 ldp_whole) rfl (ltN rfl) rfl ?_
      refine J.alloc (R := cTs [tIs (.bool (false)), tSl encD ([]), tIs (.int .i64 (0)), tIs (.int .i64 (0)), tIs (.int .i64 (0)), tIs (.int .i64 (0))]) zr63 (fun _ => ⟨rfl, rfl, slP_nil _ _, rfl, rfl, rfl, rfl, rfl, rfl, rfl, rfl, rfl, trivial⟩) (ltN rfl) fun b5 => ?_
      refine J.store (.tmp rfl) (.eq (.tmp rfl) (tV_F (Ts := [tIs (.bool (((atT ts k).coef).neg)), tSl encD (((atT ts k).coef).abs), tIs (.int .i64 (((atT ts k).exp).a)), tIs (.int .i64 (((atT ts k).exp).b)), tIs (.int .i64 (((atT ts k).exp).c)), tIs (.int .i64 (((atT ts k).exp).d))]) rfl)) .here sz63 (st_agg (Ts' := [tIs (.bool (((atT ts k).coef).neg)), tSl encD (((atT ts k).coef).abs), tIs (.int .i64 (((atT ts k).exp).a)), tIs (.int .i64 (((atT ts k).exp).b)), tIs (.int .i64 (((atT ts k).exp).c)), tIs (.int .i64 (((atT ts k).exp).d))]) (o := 0) rfl) ?_
      refine J.nil ?_
      refine JQ.then_normal ?_
      refine JC.seq ?_
      refine JC.weak (sub_freezeP (R' := cEnc encTm (atT ts k)) [5] ⟨rfl, trivial⟩ .here (cTs_F (f := tmT) (x := atT ts k) rfl rfl)) ?_
      refine JC.region ?_
      refine J.op (ot_fieldAddr (R' := cDrop (cEnc encTm (atT ts k)) 2) (.tmp rfl) fd63_1 (fun _ _ h => cDrop_mk h)) rfl (ltN rfl) rfl ?_
      refine J.op (ot_sliceA (.tmp rfl) ar4_61 tm_exp) rfl (ltN rfl) rfl ?_
      refine J.op (ot_call fn57 (min_c ((atT ts k).exp.list) (by simp [Mo.list])) (.cons (.tmp rfl) .nil)) rfl (ltN rfl) rfl ?_
      refine J.op (ot_geq (.tmp rfl) .is) rfl (ltN rfl) rfl ?_
      refine J.nil ?_
      refine JQ.then_normal ?_
      -- cond9: tIs (.bool (decide (0 ≤ (minL (atN ((atT ts k).exp.list) 0) (((atT ts k).exp.list).drop 1)))))
      refine JC.cond (.tmp rfl) (fun hc9 => ?_) (fun hc9 => ?_)
      · try simp only [Bool.and_eq_true, Bool.or_eq_true, Bool.not_eq_true', Bool.not_eq_false', Bool.and_eq_false_iff, Bool.or_eq_false_iff, Bool.not_true, Bool.not_false, decide_eq_true_eq, decide_eq_false_iff_not, beq_iff_eq, beq_eq_false_iff_ne, Bool.not_eq_eq_eq_not] at hc9
        have hs18 := hc9
        refine JC.region ?_
        refine J.op (ot_move (.tmp rfl)) rfl (ltN rfl) rfl ?_
        refine J.op (ot_load_agg (.tmp rfl) ag63 ldp_whole) rfl (ltN rfl) rfl ?_
        refine J.op (ot_buildSlice (E := encTm) (zs := [atT ts k]) sl65 (.cons (.tmp rfl) .nil) rfl zr63 rfl (by decide) (by decide)) rfl (ltN rfl) rfl ?_
        refine J.append0 (E := encTm) (ys := [atT ts k]) (.sub (.tmp rfl) nil_z) (.tmp rfl) (by simp) sl65 rfl zr63 rfl (by simp <;> omega) (by simp <;> omega) (ltN rfl) fun b22 c22 => ?_
        refine J.op (ot_assign (.tmp rfl)) rfl (ltN rfl) rfl ?_
        refine J.nil ?_
        refine JQ.block_normal ?_
        refine JQ.then_normal ?_
        refine JC.region ?_
        refine J.op (ot_add (.tmp rfl) .is (w64 (by omega) (by omega))) rfl (ltN rfl) rfl ?_
        refine J.op (ot_move (.tmp rfl)) rfl (ltN rfl) rfl ?_
        refine J.nil ?_
        have hyes := keepT_yes (show k < ts.length by omega) (okT_iff.2 hs18)
        rw [he rfl, List.nil_append] at hyes
        exact JQ.round4 (i := true) (i2 := k) (i3 := b) (i4 := c) false (k + 1) b22 c22 ⟨by omega, fun h => by cases h⟩ (by omega) (sub_trans (sub_heap (.keep (cRow_eq hyes) .nil)) (sub_cons (.tmp rfl) (sub_cons (.eq (.tmp rfl) (by rw [hyes])) (sub_cons (.tmp rfl) (sub_cons (.tmp rfl) (sub_cons (.eq (.tmp rfl) (by first | rfl | (congr 3; omega) | (congr 2; omega))) (sub_nil)))))))
      · try simp only [Bool.and_eq_true, Bool.or_eq_true, Bool.not_eq_true', Bool.not_eq_false', Bool.and_eq_false_iff, Bool.or_eq_false_iff, Bool.not_true, Bool.not_false, decide_eq_true_eq, decide_eq_false_iff_not, beq_iff_eq, beq_eq_false_iff_ne, Bool.not_eq_eq_eq_not] at hc9
        have hs18 := hc9
        refine JC.skip ?_
        refine JQ.block_normal ?_
        refine JQ.then_normal ?_
        refine JC.region ?_
        refine J.op (ot_add (.tmp rfl) .is (w64 (by omega) (by omega))) rfl (ltN rfl) rfl ?_
        refine J.op (ot_move (.tmp rfl)) rfl (ltN rfl) rfl ?_
        refine J.nil ?_
        have hno := keepT_no (show k < ts.length by omega) (fun h => hs18 (okT_iff.1 h))
        exact JQ.round4 (i := true) (i2 := k) (i3 := b) (i4 := c) true (k + 1) 0 0 ⟨by omega, fun _ => hno ▸ he rfl⟩ (by omega) (sub_trans (sub_heap .nil) (sub_cons (.tmp rfl) (sub_cons (.tmp rfl) (sub_cons (.tmp rfl) (sub_cons (.tmp rfl) (sub_cons (.eq (.tmp rfl) (by first | rfl | (congr 3; omega) | (congr 2; omega))) (sub_nil)))))))
    · try simp only [Bool.and_eq_true, Bool.or_eq_true, Bool.not_eq_true', Bool.not_eq_false', Bool.and_eq_false_iff, Bool.or_eq_false_iff, Bool.not_true, Bool.not_false, decide_eq_true_eq, decide_eq_false_iff_not, beq_iff_eq, beq_eq_false_iff_ne, Bool.not_eq_eq_eq_not] at hc8
      have hs12 := hc8
      have hkt : keepT (ts.take k) = keepT ts := by rw [List.take_of_length_le (by omega)]
      refine JC.exit ?_
      refine JQ.then_exit ?_
      refine JQ.then_exit ?_
      refine JQ.block_exit ?_
      refine JQ.then_normal ?_
      refine JC.seq ?_
      refine JC.region ?_
      refine J.op (ot_move (.tmp rfl)) rfl (ltN rfl) rfl ?_
      refine J.op (ot_call fn58 (sort0_c  ) (.cons (.tmp rfl) (.cons (.func (fun _ => rfl)) .nil))) rfl (ltN rfl) rfl ?_
      refine J.nil ?_
      refine JQ.then_normal ?_
      refine JC.seq ?_
      refine JC.region ?_
      refine J.op (ot_assign .is) rfl (ltN rfl) rfl ?_
      refine J.nil ?_
      refine JQ.then_normal ?_
      refine JC.seq ?_
      refine JC.seq ?_
      refine JC.region ?_
      refine J.op (ot_assign .is) rfl (ltN rfl) rfl ?_
      refine J.nil ?_
      refine JQ.then_normal ?_
      refine JC.block ?_
      refine JC.loop (ι := Nat) (fun i => [(2, tSl encTm ([])), (3, tIs (.slice none 0 0)), (6, tIs (.slice none 0 0)), (7, tIs (.int .i64 (0)))]) (fun i => []) (fun i => i = 0) (fun i => i) 0 (by omega) ?lsub4 ?round4
      case lsub4 => exact sub_trans (sub_heap .nil) (sub_cons (.tmp rfl) (sub_cons (.tmp rfl) (sub_cons (.tmp rfl) (sub_cons (.tmp rfl) (sub_nil)))))
      intro i hinv
      refine JC.seq ?_
      refine JC.seq ?_
      refine JC.region ?_
      refine J.op (ot_move (.tmp rfl)) rfl (ltN rfl) rfl ?_
      refine J.op (ot_move (.tmp rfl)) rfl (ltN rfl) rfl ?_
      refine J.op (ot_len_nil (.tmp rfl) sl65 rfl) rfl (ltN rfl) rfl ?_
      refine J.op (ot_lss (.tmp rfl) (.tmp rfl)) rfl (ltN rfl) rfl ?_
      refine J.nil ?_
      refine JQ.then_normal ?_
      refine JC.cond_false (.eq (.tmp rfl) (by rfl)) ?_
      refine JC.exit ?_
      refine JQ.then_exit ?_
      refine JQ.then_exit ?_
      refine JQ.block_exit ?_
      refine JQ.then_normal ?_
      refine JC.seq ?_
      refine JC.region ?_
      refine J.op (ot_move (.tmp rfl)) rfl (ltN rfl) rfl ?_
      refine J.op (ot_call fn61 (clip_c ([]) (by simp)) (.cons (.sub (.tmp rfl) nil_sl) .nil)) rfl (ltN rfl) rfl ?_
      refine J.op (ot_assign (.tmp rfl)) rfl (ltN rfl) rfl ?_
      refine J.nil ?_
      refine JQ.then_normal ?_
      refine JC.ret ?_
      -- ret2
      exact JQ.ret1 rfl (.tmp (.eq (.tmp rfl) (by rw [normS, ← hkt, he rfl]; exact congrArg _ mergeT_nil.symm)))

theorem long1_c (a b : List Nat) (hl : a.length ≤ 1099511627776) (hl1 : b.length ≤ 1099511627776) (hb : 0 < val b ∧ val b < 4294967296) : Ctr Try.prog 81 [tSl encD (a), tSl encD (b)] (tTup [tSl encD (dig (val a / val b)), tSl encD (dig (val a % val b))]) := by
  refine Ctr.know 0 rfl (fun _ _ h => slP_encD h) fun hd => ?_
  refine Ctr.know 1 rfl (fun _ _ h => slP_encD h) fun hd1 => ?_
  have ht := trimD_len b
  have vb := val_trimD hd1
  have h1 := trimD_one hd1 hb
  have hv0 : (trimD b).getD 0 0 = val b := (val_len1 hd1 h1).symm
  have hmod := Nat.mod_lt (val a) hb.1
  refine Ctr.of Try.func81 rfl Try.ntmps81 (Nat.le_of_ble_eq_true rfl) fun w0 M0 => ?_
  refine JC.seq ?_
  refine JC.region ?_
  refine J.op (ot_assign (.nil (E := encD))) rfl (ltN rfl) rfl ?_
  refine J.op (ot_assign (.nil (E := encD))) rfl (ltN rfl) rfl ?_
  refine J.nil ?_
  refine JQ.then_normal ?_
  refine JC.scope ?_
  refine JC.seq ?_
  refine JC.region ?_
  refine J.op (ot_move (.tmp rfl)) rfl (ltN rfl) rfl ?_
  refine J.op (ot_call fn74 (natNormal_c b (by omega)) (.cons (.tmp rfl) .nil)) rfl (ltN rfl) rfl ?_
  refine J.op (ot_assign (.tmp rfl)) rfl (ltN rfl) rfl ?_
  refine J.nil ?_
  refine JQ.then_normal ?_
  refine JC.seq ?_
  refine JC.seq ?_
  refine JC.region ?_
  refine J.op (ot_move (.tmp rfl)) rfl (ltN rfl) rfl ?_
  refine J.op (ot_move (.tmp rfl)) rfl (ltN rfl) rfl ?_
  refine J.op (ot_eqt (T' := tIs (.int .i64 (cmpN (val a) (val b)))) (ot_call fn77 (natCmp_c a (trimD b) (by omega) (by omega)) (.cons (.tmp rfl) (.cons (.tmp rfl) .nil))) (by rw [vb])) rfl (ltN rfl) rfl ?_
  refine J.op (ot_lss (.tmp rfl) .is) rfl (ltN rfl) rfl ?_
  refine J.nil ?_
  refine JQ.then_normal ?_
  -- cond0: tIs (.bool (decide ((cmpN (val a) (val b)) < 0)))
  refine JC.cond (.tmp rfl) (fun hc0 => ?_) (fun hc0 => ?_)
  · try simp only [Bool.and_eq_true, Bool.or_eq_true, Bool.not_eq_true', Bool.not_eq_false', Bool.and_eq_false_iff, Bool.or_eq_false_iff, Bool.not_true, Bool.not_false, decide_eq_true_eq, decide_eq_false_iff_not, beq_iff_eq, beq_eq_false_iff_ne, Bool.not_eq_eq_eq_not] at hc0
    have hs33 := hc0
    have hlt := cmpN_neg hs33
    refine JC.seq ?_
    refine JC.region ?_
    refine J.op (ot_move (.tmp rfl)) rfl (ltN rfl) rfl ?_
    refine J.op (ot_call fn74 (natNormal_c a (by omega)) (.cons (.tmp rfl) .nil)) rfl (ltN rfl) rfl ?_
    refine J.op (ot_assign (.nil (E := encD))) rfl (ltN rfl) rfl ?_
    refine J.op (ot_assign (.tmp rfl)) rfl (ltN rfl) rfl ?_
    refine J.nil ?_
    refine JQ.then_normal ?_
    refine JC.ret ?_
    refine JQ.then_ret ?_
    refine JQ.scope_ret ?_
    -- ret0
    exact JQ.ret2 rfl (.tmp (.eq (.tmp rfl) (by rw [Nat.div_eq_of_lt hlt, dig_zero]))) (.tmp (.eq (.tmp rfl) (by rw [Nat.mod_eq_of_lt hlt, trimD_eq hd])))
  · try simp only [Bool.and_eq_true, Bool.or_eq_true, Bool.not_eq_true', Bool.not_eq_false', Bool.and_eq_false_iff, Bool.or_eq_false_iff, Bool.not_true, Bool.not_false, decide_eq_true_eq, decide_eq_false_iff_not, beq_iff_eq, beq_eq_false_iff_ne, Bool.not_eq_eq_eq_not] at hc0
    have hs33 := hc0
    refine JC.skip ?_
    refine JQ.then_normal ?_
    refine JC.seq ?_
    refine JC.region ?_
    refine J.op (ot_move (.tmp rfl)) rfl (ltN rfl) rfl ?_
    refine J.op (ot_len (.tmp rfl) sl23 rfl) rfl (ltN rfl) rfl ?_
    refine J.op (ot_assign (.tmp rfl)) rfl (ltN rfl) rfl ?_
    refine J.nil ?_
    refine JQ.then_normal ?_
    refine JC.seq ?_
    refine JC.seq ?_
    refine JC.region ?_
    refine J.op (ot_move (.tmp rfl)) rfl (ltN rfl) rfl ?_
    refine J.op (ot_eql (.tmp rfl) .is) rfl (ltN rfl) rfl ?_
    refine J.nil ?_
    refine JQ.then_normal ?_
    refine JC.cond_true (.eq (.tmp rfl) (by rw [decide_eq_true (by omega)])) ?_
    refine JC.seq ?_
    refine JC.region ?_
    refine J.op (ot_move (.tmp rfl)) rfl (ltN rfl) rfl ?_
    refine J.op (ot_move (.tmp rfl)) rfl (ltN rfl) rfl ?_
    refine J.op (ot_index (z := (trimD b).getD 0 0) (.tmp rfl) .is sl23 (by omega) (digAt rfl (by omega))) rfl (ltN rfl) rfl ?_
    refine J.op (ot_load (.tmp rfl) sc86 encD_ld) rfl (ltN rfl) rfl ?_
    refine J.op (ot_eqt (T' := tTup [tSl encD (dig (val a / val b)), tIs (.int .u32 (((val a % val b : Nat) : Int))), tIs (.bool (!decide (((val b : Nat) : Int) = 0)))]) (ot_call fn84 (natDivSmall_c a ((((trimD b).getD 0 0) : Nat) : Int) (by omega) (by omega)) (.cons (.tmp rfl) (.cons (.tmp rfl) .nil))) (by rw [hv0, if_neg (by omega), if_neg (by omega), Int.toNat_natCast])) rfl (ltN rfl) rfl ?_
    refine J.op (ot_move (.tmp rfl)) rfl (ltN rfl) rfl ?_
    refine J.op (ot_extract (.tmp rfl) rfl) rfl (ltN rfl) rfl ?_
    refine J.op (ot_extract (.tmp rfl) rfl) rfl (ltN rfl) rfl ?_
    refine J.op (ot_extract (.tmp rfl) rfl) rfl (ltN rfl) rfl ?_
    refine J.op (ot_assign (.tmp rfl)) rfl (ltN rfl) rfl ?_
    refine J.op (ot_assign (.tmp rfl)) rfl (ltN rfl) rfl ?_
    refine J.op (ot_assign (.tmp rfl)) rfl (ltN rfl) rfl ?_
    refine J.nil ?_
    refine JQ.then_normal ?_
    refine JC.seq ?_
    refine JC.region ?_
    refine J.op (ot_move (.tmp rfl)) rfl (ltN rfl) rfl ?_
    refine J.op (ot_move (.tmp rfl)) rfl (ltN rfl) rfl ?_
    refine J.op (ot_conv (.tmp rfl) un80 (by kernel_rfl) (wu64 (by omega) (by omega))) rfl (ltN rfl) rfl ?_
    refine J.op (ot_eqt (T' := tSl encD (dig (val a % val b))) (ot_call fn42 (natOf_c ((val a % val b : Nat) : Int) (by omega)) (.cons (.tmp rfl) .nil)) (by rw [Int.toNat_natCast])) rfl (ltN rfl) rfl ?_
    refine J.op (ot_assign (.tmp rfl)) rfl (ltN rfl) rfl ?_
    refine J.op (ot_assign (.tmp rfl)) rfl (ltN rfl) rfl ?_
    refine J.nil ?_
    refine JQ.then_normal ?_
    refine JC.ret ?_
    refine JQ.then_ret ?_
    refine JQ.scope_ret ?_
    -- ret1
    exact JQ.ret2 rfl (.tmp (.tmp rfl)) (.tmp (.tmp rfl))

theorem dzero_c (z : Z) (hlz : z.abs.length ≤ 1099511627776) : Ctr Try.prog 72 [tV encI (z)] (tIs (.bool (decide (zval z = 0)))) := by
  refine Ctr.of Try.func72 rfl Try.ntmps72 (Nat.le_of_ble_eq_true rfl) fun w0 M0 => ?_
  refine JC.seq ?_
  refine JC.region ?_
  refine J.boxF (Ts := [tIs (.bool (z.neg)), tSl encD (z.abs)]) (.tmp rfl) rfl (ltN rfl) fun b1 => ?_
  refine J.op (ot_assign .is) rfl (ltN rfl) rfl ?_
  refine J.nil ?_
  refine JQ.then_normal ?_
  refine JC.seq ?_
  refine JC.region ?_
  refine J.op (ot_fieldAddr_own (.tmp rfl) fd25_1) rfl (ltN rfl) rfl ?_
  refine J.op (ot_load_own (.tmp rfl) (.head _) sc23 (cTs_ld rfl)) rfl (ltN rfl) rfl ?_
  refine J.op (ot_call fn38 (natIsZero_c z.abs (by omega)) (.cons (.tmp rfl) .nil)) rfl (ltN rfl) rfl ?_
  refine J.op (ot_assign (.tmp rfl)) rfl (ltN rfl) rfl ?_
  refine J.nil ?_
  refine JQ.then_normal ?_
  refine JC.ret ?_
  -- ret0
  exact JQ.ret1 rfl (.tmp (.eq (.tmp rfl) (by rw [zval_zero])))

theorem quo_c (x : Z) (y : Z) (hlx : x.abs.length ≤ 1099511627776) (hly : y.abs.length ≤ 1099511627776) (hb : 0 < val y.abs ∧ val y.abs < 4294967296) : Ctr Try.prog 71 [tV encI (x), tV encI (y)] (tTup [tV encI (ofI ((zval x).tdiv (zval y))), tV encI (ofI ((zval x).tmod (zval y))), tIs (.int .i64 (0))]) := by
  refine Ctr.know 0 rfl (fun _ _ h => slP_encI h) fun hdx => ?_
  have hq := quo_fit (b := val y.abs) hdx
  refine Ctr.of Try.func71 rfl Try.ntmps71 (Nat.le_of_ble_eq_true rfl) fun w0 M0 => ?_
  refine JC.seq ?_
  refine JC.region ?_
  refine J.boxF (Ts := [tIs (.bool (x.neg)), tSl encD (x.abs)]) (.tmp rfl) rfl (ltN rfl) fun b2 => ?_
  refine J.boxF (Ts := [tIs (.bool (y.neg)), tSl encD (y.abs)]) (.tmp rfl) rfl (ltN rfl) fun b3 => ?_
  refine J.alloc (R := cTs [tIs (.bool (false)), tSl encD ([])]) zr25 (fun _ => ⟨rfl, rfl, slP_nil _ _, rfl, trivial⟩) (ltN rfl) fun b4 => ?_
  refine J.alloc (R := cTs [tIs (.bool (false)), tSl encD ([])]) zr25 (fun _ => ⟨rfl, rfl, slP_nil _ _, rfl, trivial⟩) (ltN rfl) fun b5 => ?_
  refine J.op (ot_assign .is) rfl (ltN rfl) rfl ?_
  refine J.nil ?_
  refine JQ.then_normal ?_
  refine JC.seq ?_
  refine JC.seq ?_
  refine JC.region ?_
  refine J.op (ot_load_own_agg (.tmp rfl) (.tail _ (.tail _ (.head _))) ag25 (cTs_ldV (g := zT) (y := y) rfl rfl)) rfl (ltN rfl) rfl ?_
  refine J.op (ot_call fn72 (dzero_c y (by omega)) (.cons (.tmp rfl) .nil)) rfl (ltN rfl) rfl ?_
  refine J.nil ?_
  refine JQ.then_normal ?_
  refine JC.cond_false (.eq (.tmp rfl) (by rw [decide_eq_false (by rw [← zval_zero']; omega)])) ?_
  refine JC.skip ?_
  refine JQ.then_normal ?_
  refine JC.seq ?_
  refine JC.region ?_
  refine J.op (ot_fieldAddr_own (.tmp rfl) fd25_1) rfl (ltN rfl) rfl ?_
  refine J.op (ot_load_own (.tmp rfl) (.tail _ (.tail _ (.tail _ (.head _)))) sc23 (cTs_ld rfl)) rfl (ltN rfl) rfl ?_
  refine J.op (ot_fieldAddr_own (.tmp rfl) fd25_1) rfl (ltN rfl) rfl ?_
  refine J.op (ot_load_own (.tmp rfl) (.tail _ (.tail _ (.head _))) sc23 (cTs_ld rfl)) rfl (ltN rfl) rfl ?_
  refine J.op (ot_call fn81 (long1_c x.abs y.abs (by omega) (by omega) (by assumption)) (.cons (.tmp rfl) (.cons (.tmp rfl) .nil))) rfl (ltN rfl) rfl ?_
  refine J.op (ot_move (.tmp rfl)) rfl (ltN rfl) rfl ?_
  refine J.op (ot_extract (.tmp rfl) rfl) rfl (ltN rfl) rfl ?_
  refine J.op (ot_extract (.tmp rfl) rfl) rfl (ltN rfl) rfl ?_
  refine J.op (ot_assign (.tmp rfl)) rfl (ltN rfl) rfl ?_
  refine J.op (ot_assign (.tmp rfl)) rfl (ltN rfl) rfl ?_
  refine J.nil ?_
  refine JQ.then_normal ?_
  refine JC.seq ?_
  refine JC.drawAt (Γ' := ?g1) 11 mo (by kernel_rfl) ?tw1 ?k1
  case tw1 =>
    refine TW.op (ot_fieldAddr_own (.tmp rfl) fd25_0) rfl (ltN rfl) rfl ?_
    refine TW.op (ot_load_own (.tmp rfl) (.tail _ (.tail _ (.tail _ (.head _)))) sc4 (cTs_ld rfl)) rfl (ltN rfl) rfl ?_
    refine TW.op (ot_fieldAddr_own (.tmp rfl) fd25_0) rfl (ltN rfl) rfl ?_
    refine TW.op (ot_load_own (.tmp rfl) (.tail _ (.tail _ (.head _))) sc4 (cTs_ld rfl)) rfl (ltN rfl) rfl ?_
    refine TW.op (ot_neqb (.tmp rfl) (.tmp rfl) un4) rfl (ltN rfl) rfl ?_
    refine TW.op (ot_move (.tmp rfl)) rfl (ltN rfl) rfl ?_
    refine TW.op (ot_call fn62 (intFrom_c (!(x.neg == y.neg)) (dig (val x.abs / val y.abs)) (by omega)) (.cons (.tmp rfl) (.cons (.tmp rfl) .nil))) rfl (ltN rfl) rfl ?_
    refine TW.op (ot_fieldAddr_own (.tmp rfl) fd25_0) rfl (ltN rfl) rfl ?_
    refine TW.op (ot_load_own (.tmp rfl) (.tail _ (.tail _ (.tail _ (.head _)))) sc4 (cTs_ld rfl)) rfl (ltN rfl) rfl ?_
    refine TW.op (ot_move (.tmp rfl)) rfl (ltN rfl) rfl ?_
    refine TW.op (ot_call fn62 (intFrom_c x.neg (dig (val x.abs % val y.abs)) (by omega)) (.cons (.tmp rfl) (.cons (.tmp rfl) .nil))) rfl (ltN rfl) rfl ?_
    exact TW.nil
  refine J.store (.tmp rfl) (.eq (.tmp rfl) (tV_F (Ts := [tIs (.bool ((ofI (zval (Z.mk ((!(x.neg == y.neg))) ((dig (val x.abs / val y.abs)))))).neg)), tSl encD ((ofI (zval (Z.mk ((!(x.neg == y.neg))) ((dig (val x.abs / val y.abs)))))).abs)]) rfl)) (.there .here) sz25 (st_agg (Ts' := [tIs (.bool ((ofI (zval (Z.mk ((!(x.neg == y.neg))) ((dig (val x.abs / val y.abs)))))).neg)), tSl encD ((ofI (zval (Z.mk ((!(x.neg == y.neg))) ((dig (val x.abs / val y.abs)))))).abs)]) (o := 0) rfl) ?_
  refine J.store (.tmp rfl) (.eq (.tmp rfl) (tV_F (Ts := [tIs (.bool ((ofI (zval (Z.mk (x.neg) ((dig (val x.abs % val y.abs)))))).neg)), tSl encD ((ofI (zval (Z.mk (x.neg) ((dig (val x.abs % val y.abs)))))).abs)]) rfl)) .here sz25 (st_agg (Ts' := [tIs (.bool ((ofI (zval (Z.mk (x.neg) ((dig (val x.abs % val y.abs)))))).neg)), tSl encD ((ofI (zval (Z.mk (x.neg) ((dig (val x.abs % val y.abs)))))).abs)]) (o := 0) rfl) ?_
  refine J.op (ot_assign .is) rfl (ltN rfl) rfl ?_
  refine J.nil ?_
  refine JQ.then_normal ?_
  refine JC.ret ?_
  -- ret0
  exact JQ.ret3 rfl (.agg (.tmp rfl) (.tail _ (.head _)) ag25 (agg_eq (T := tV encI (ofI (zval (Z.mk ((!(x.neg == y.neg))) ((dig (val x.abs / val y.abs))))))) (T' := tV encI (ofI ((zval x).tdiv (zval y)))) (by rw [quo_tdiv]) (cTs_ldV (g := zT) (y := (ofI (zval (Z.mk ((!(x.neg == y.neg))) ((dig (val x.abs / val y.abs))))))) rfl rfl))) (.agg (.tmp rfl) (.head _) ag25 (agg_eq (T := tV encI (ofI (zval (Z.mk (x.neg) ((dig (val x.abs % val y.abs))))))) (T' := tV encI (ofI ((zval x).tmod (zval y)))) (by rw [quo_tmod]) (cTs_ldV (g := zT) (y := (ofI (zval (Z.mk (x.neg) ((dig (val x.abs % val y.abs))))))) rfl rfl))) (.tmp (.tmp rfl))

theorem dexact_c (x : Z) (y : Z) (hlx : x.abs.length ≤ 1099511627776) (hly : y.abs.length ≤ 1099511627776) (hb : 0 < val y.abs ∧ val y.abs < 4294967296) : Ctr Try.prog 54 [tV encI (x), tV encI (y)] (tTup [tV encI (if zval y ∣ zval x then ofI (zval x / zval y) else z0), tIs (.int .i64 (if zval y ∣ zval x then 0 else 3))]) := by
  refine Ctr.know 0 rfl (fun _ _ h => slP_encI h) fun hdx => ?_
  have hr := tmod_fit (y := y) hdx
  refine Ctr.of Try.func54 rfl Try.ntmps54 (Nat.le_of_ble_eq_true rfl) fun w0 M0 => ?_
  refine JC.seq ?_
  refine JC.region ?_
  refine J.boxF (Ts := [tIs (.bool (x.neg)), tSl encD (x.abs)]) (.tmp rfl) rfl (ltN rfl) fun b2 => ?_
  refine J.boxF (Ts := [tIs (.bool (y.neg)), tSl encD (y.abs)]) (.tmp rfl) rfl (ltN rfl) fun b3 => ?_
  refine J.alloc (R := cTs [tIs (.bool (false)), tSl encD ([])]) zr25 (fun _ => ⟨rfl, rfl, slP_nil _ _, rfl, trivial⟩) (ltN rfl) fun b4 => ?_
  refine J.op (ot_assign .is) rfl (ltN rfl) rfl ?_
  refine J.nil ?_
  refine JQ.then_normal ?_
  refine JC.seq ?_
  refine JC.region ?_
  refine J.op (ot_load_own_agg (.tmp rfl) (.tail _ (.tail _ (.head _))) ag25 (cTs_ldV (g := zT) (y := x) rfl rfl)) rfl (ltN rfl) rfl ?_
  refine J.op (ot_load_own_agg (.tmp rfl) (.tail _ (.head _)) ag25 (cTs_ldV (g := zT) (y := y) rfl rfl)) rfl (ltN rfl) rfl ?_
  refine J.op (ot_call fn71 (quo_c x y (by omega) (by omega) (by assumption)) (.cons (.tmp rfl) (.cons (.tmp rfl) .nil))) rfl (ltN rfl) rfl ?_
  refine J.op (ot_move (.tmp rfl)) rfl (ltN rfl) rfl ?_
  refine J.op (ot_extract (.tmp rfl) rfl) rfl (ltN rfl) rfl ?_
  refine J.op (ot_extract (.tmp rfl) rfl) rfl (ltN rfl) rfl ?_
  refine J.op (ot_extract (.tmp rfl) rfl) rfl (ltN rfl) rfl ?_
  refine J.alloc (R := cTs [tIs (.bool (false)), tSl encD ([])]) zr25 (fun _ => ⟨rfl, rfl, slP_nil _ _, rfl, trivial⟩) (ltN rfl) fun b6 => ?_
  refine J.alloc (R := cTs [tIs (.bool (false)), tSl encD ([])]) zr25 (fun _ => ⟨rfl, rfl, slP_nil _ _, rfl, trivial⟩) (ltN rfl) fun b7 => ?_
  refine J.store (.tmp rfl) (.eq (.tmp rfl) (tV_F (Ts := [tIs (.bool ((ofI ((zval x).tdiv (zval y))).neg)), tSl encD ((ofI ((zval x).tdiv (zval y))).abs)]) rfl)) (.there .here) sz25 (st_agg (Ts' := [tIs (.bool ((ofI ((zval x).tdiv (zval y))).neg)), tSl encD ((ofI ((zval x).tdiv (zval y))).abs)]) (o := 0) rfl) ?_
  refine J.store (.tmp rfl) (.eq (.tmp rfl) (tV_F (Ts := [tIs (.bool ((ofI ((zval x).tmod (zval y))).neg)), tSl encD ((ofI ((zval x).tmod (zval y))).abs)]) rfl)) .here sz25 (st_agg (Ts' := [tIs (.bool ((ofI ((zval x).tmod (zval y))).neg)), tSl encD ((ofI ((zval x).tmod (zval y))).abs)]) (o := 0) rfl) ?_
  refine J.op (ot_assign (.tmp rfl)) rfl (ltN rfl) rfl ?_
  refine J.nil ?_
  refine JQ.then_normal ?_
  refine JC.seq ?_
  refine JC.seq ?_
  refine JC.region ?_
  refine J.op (ot_move (.tmp rfl)) rfl (ltN rfl) rfl ?_
  refine J.op (ot_eql (.tmp rfl) .is) rfl (ltN rfl) rfl ?_
  refine J.op (ot_move (.tmp rfl)) rfl (ltN rfl) rfl ?_
  refine J.opg rfl rfl rfl (ltN rfl) (fun hg => ot_load_own_agg (.tmp rfl) (.head _) ag25 (cTs_ldV (g := zT) (y := (ofI ((zval x).tmod (zval y)))) rfl rfl)) rfl (ltN rfl) ?_
  refine J.opg rfl rfl rfl (ltN rfl) (fun hg => (by have hg' := hg; simp only [Bool.and_eq_true, Bool.or_eq_true, Bool.not_eq_true', Bool.not_eq_false', Bool.and_eq_false_iff, Bool.or_eq_false_iff, Bool.not_true, Bool.not_false, decide_eq_true_eq, decide_eq_false_iff_not, beq_iff_eq, beq_eq_false_iff_ne, Bool.not_eq_eq_eq_not] at hg'; exact ot_eqt (T' := tIs (.bool (decide ((zval x).tmod (zval y) = 0)))) (ot_call fn72 (dzero_c (ofI ((zval x).tmod (zval y))) (by omega)) (.cons (.iff hg (.tmp rfl)) .nil)) (by rw [zval_ofI]))) rfl (ltN rfl) ?_
  refine J.opg rfl rfl rfl (ltN rfl) (fun hg => ot_not (.iff hg (.tmp rfl))) rfl (ltN rfl) ?_
  refine J.op (ot_and2 (.tmp rfl) (.tmp rfl) .is) rfl (ltN rfl) rfl ?_
  refine J.nil ?_
  refine JQ.then_normal ?_
  -- cond0: tIs (.bool ((decide (0 = 0)) && (!(decide ((zval x).tmod (zval y) = 0)))))
  refine JC.cond (.tmp rfl) (fun hc0 => ?_) (fun hc0 => ?_)
  · try simp only [Bool.and_eq_true, Bool.or_eq_true, Bool.not_eq_true', Bool.not_eq_false', Bool.and_eq_false_iff, Bool.or_eq_false_iff, Bool.not_true, Bool.not_false, decide_eq_true_eq, decide_eq_false_iff_not, beq_iff_eq, beq_eq_false_iff_ne, Bool.not_eq_eq_eq_not] at hc0
    have hs22 := hc0
    refine JC.seq ?_
    refine JC.region ?_
    refine J.op (ot_eqt (T' := tV encI (Z.mk (false) ([]))) (ot_build (Ts := [tIs (.bool (false)), tSl encD ([])]) pl25 (fun _ => ⟨rfl, rfl, slP_nil _ _, rfl, trivial⟩) (.nil) rfl) (tV_F' rfl)) rfl (ltN rfl) rfl ?_
    refine J.store (.tmp rfl) (.eq (.tmp rfl) (tV_F (Ts := [tIs (.bool (false)), tSl encD ([])]) rfl)) (.there (.there .here)) sz25 (st_agg (Ts' := [tIs (.bool (false)), tSl encD ([])]) (o := 0) rfl) ?_
    refine J.op (ot_assign .is) rfl (ltN rfl) rfl ?_
    refine J.nil ?_
    refine JQ.then_normal ?_
    refine JC.ret ?_
    refine JQ.then_ret ?_
    -- ret0
    have hnd : ¬ zval y ∣ zval x := fun h => (show ¬ (zval x).tmod (zval y) = 0 from by simpa using hs22) (Int.tmod_eq_zero_of_dvd h)
    exact JQ.ret2 rfl (.agg (.tmp rfl) (.tail _ (.tail _ (.head _))) ag25 (agg_eq (T := tV encI (Z.mk (false) ([]))) (T' := tV encI (if zval y ∣ zval x then ofI (zval x / zval y) else z0)) (by rw [if_neg hnd]; rfl) (cTs_ldV (g := zT) (y := (Z.mk (false) ([]))) rfl rfl))) (.tmp (.eq (.tmp rfl) (by rw [if_neg hnd])))
  · try simp only [Bool.and_eq_true, Bool.or_eq_true, Bool.not_eq_true', Bool.not_eq_false', Bool.and_eq_false_iff, Bool.or_eq_false_iff, Bool.not_true, Bool.not_false, decide_eq_true_eq, decide_eq_false_iff_not, beq_iff_eq, beq_eq_false_iff_ne, Bool.not_eq_eq_eq_not] at hc0
    have hs22 := hc0
    refine JC.skip ?_
    refine JQ.then_normal ?_
    refine JC.seq ?_
    refine JC.region ?_
    refine J.op (ot_load_own_agg (.tmp rfl) (.tail _ (.head _)) ag25 (cTs_ldV (g := zT) (y := (ofI ((zval x).tdiv (zval y)))) rfl rfl)) rfl (ltN rfl) rfl ?_
    refine J.op (ot_move (.tmp rfl)) rfl (ltN rfl) rfl ?_
    refine J.store (.tmp rfl) (.eq (.tmp rfl) (tV_F (Ts := [tIs (.bool ((ofI ((zval x).tdiv (zval y))).neg)), tSl encD ((ofI ((zval x).tdiv (zval y))).abs)]) rfl)) (.there (.there .here)) sz25 (st_agg (Ts' := [tIs (.bool ((ofI ((zval x).tdiv (zval y))).neg)), tSl encD ((ofI ((zval x).tdiv (zval y))).abs)]) (o := 0) rfl) ?_
    refine J.op (ot_assign (.tmp rfl)) rfl (ltN rfl) rfl ?_
    refine J.nil ?_
    refine JQ.then_normal ?_
    refine JC.ret ?_
    -- ret1
    have hdv : zval y ∣ zval x := Int.dvd_of_tmod_eq_zero (by simpa using hs22)
    exact JQ.ret2 rfl (.agg (.tmp rfl) (.tail _ (.tail _ (.head _))) ag25 (agg_eq (T := tV encI (ofI ((zval x).tdiv (zval y)))) (T' := tV encI (if zval y ∣ zval x then ofI (zval x / zval y) else z0)) (by rw [if_pos hdv, Int.tdiv_eq_ediv_of_dvd hdv]) (cTs_ldV (g := zT) (y := (ofI ((zval x).tdiv (zval y)))) rfl rfl))) (.tmp (.eq (.tmp rfl) (by rw [if_pos hdv])))

theorem dgcd_c (x : Z) (y : Z) (hlx : x.abs.length ≤ 1099511627776) (hly : y.abs.length ≤ 1099511627776) (hb : val x.abs < 18446744073709551616 ∧ val y.abs < 18446744073709551616) : Ctr Try.prog 70 [tV encI (x), tV encI (y)] (tV encI (ofI (Int.gcd (zval x) (zval y)))) := by
  refine Ctr.know 0 rfl (fun _ _ h => slP_encI h) fun hdx => ?_
  refine Ctr.know 1 rfl (fun _ _ h => slP_encI h) fun hdy => ?_
  have vb_x := val_trimD hdx
  have vb_y := val_trimD hdy
  have tx := trimD_len x.abs
  have ty := trimD_len y.abs
  have t0 := trimD_len_zero hdy
  refine Ctr.of Try.func70 rfl Try.ntmps70 (Nat.le_of_ble_eq_true rfl) fun w0 M0 => ?_
  refine JC.seq ?_
  refine JC.region ?_
  refine J.boxF (Ts := [tIs (.bool (x.neg)), tSl encD (x.abs)]) (.tmp rfl) rfl (ltN rfl) fun b2 => ?_
  refine J.boxF (Ts := [tIs (.bool (y.neg)), tSl encD (y.abs)]) (.tmp rfl) rfl (ltN rfl) fun b3 => ?_
  refine J.alloc (R := cTs [tIs (.bool (false)), tSl encD ([])]) zr25 (fun _ => ⟨rfl, rfl, slP_nil _ _, rfl, trivial⟩) (ltN rfl) fun b4 => ?_
  refine J.nil ?_
  refine JQ.then_normal ?_
  refine JC.seq ?_
  refine JC.draw (Γ' := ?g1) mo (by kernel_rfl) ?tw1 ?k1
  case tw1 =>
    refine TW.op (ot_fieldAddr_own (.tmp rfl) fd25_1) rfl (ltN rfl) rfl ?_
    refine TW.op (ot_load_own (.tmp rfl) (.tail _ (.tail _ (.head _))) sc23 (cTs_ld rfl)) rfl (ltN rfl) rfl ?_
    refine TW.op (ot_call fn74 (natNormal_c x.abs (by omega)) (.cons (.tmp rfl) .nil)) rfl (ltN rfl) rfl ?_
    refine TW.op (ot_fieldAddr_own (.tmp rfl) fd25_1) rfl (ltN rfl) rfl ?_
    refine TW.op (ot_load_own (.tmp rfl) (.tail _ (.head _)) sc23 (cTs_ld rfl)) rfl (ltN rfl) rfl ?_
    refine TW.op (ot_call fn74 (natNormal_c y.abs (by omega)) (.cons (.tmp rfl) .nil)) rfl (ltN rfl) rfl ?_
    refine TW.op (ot_assign (.tmp rfl)) rfl (ltN rfl) rfl ?_
    refine TW.op (ot_assign (.tmp rfl)) rfl (ltN rfl) rfl ?_
    exact TW.nil
  refine JQ.then_normal ?_
  refine JC.seq ?_
  refine JC.block ?_
  refine JC.loop (ι := Nat) (fun i => [(4, pOwn b4 (0)), (5, tSl encD (trimD x.abs)), (6, tSl encD (trimD y.abs))]) (fun i => [⟨b4, 25, cTs [tIs (.bool (false)), tSl encD ([])]⟩, ⟨b3, 25, cTs [tIs (.bool (y.neg)), tSl encD (y.abs)]⟩, ⟨b2, 25, cTs [tIs (.bool (x.neg)), tSl encD (x.abs)]⟩]) (fun i => i = 0) (fun i => i) 0 (by omega) ?lsub0 ?round0
  case lsub0 => exact sub_trans (sub_heap (.keep (fun _ _ h => h) (.keep (fun _ _ h => h) (.keep (fun _ _ h => h) .nil)))) (sub_cons (.tmp rfl) (sub_cons (.tmp rfl) (sub_cons (.tmp rfl) (sub_nil))))
  intro i hinv
  refine JC.seq ?_
  refine JC.seq ?_
  refine JC.region ?_
  refine J.op (ot_move (.tmp rfl)) rfl (ltN rfl) rfl ?_
  refine J.op (ot_len (.tmp rfl) sl23 rfl) rfl (ltN rfl) rfl ?_
  refine J.op (ot_gtr (.tmp rfl) .is) rfl (ltN rfl) rfl ?_
  refine J.nil ?_
  refine JQ.then_normal ?_
  -- cond0: tIs (.bool (decide (0 < ((trimD y.abs).length : Int))))
  refine JC.cond (.tmp rfl) (fun hc0 => ?_) (fun hc0 => ?_)
  · try simp only [Bool.and_eq_true, Bool.or_eq_true, Bool.not_eq_true', Bool.not_eq_false', Bool.and_eq_false_iff, Bool.or_eq_false_iff, Bool.not_true, Bool.not_false, decide_eq_true_eq, decide_eq_false_iff_not, beq_iff_eq, beq_eq_false_iff_ne, Bool.not_eq_eq_eq_not] at hc0
    have hs21 := hc0
    refine JC.skip ?_
    refine JQ.then_normal ?_
    refine JC.block ?_
    refine JC.seq ?_
    refine JC.seq ?_
    refine JC.region ?_
    refine J.op (ot_move (.tmp rfl)) rfl (ltN rfl) rfl ?_
    refine J.op (ot_eqt (T' := tTup [tIs (.int .u64 (((val x.abs : Nat) : Int))), tIs (.bool (true))]) (ot_call fn80 (natUint64_c (trimD x.abs) (by omega)) (.cons (.tmp rfl) .nil)) (by rw [vb_x, if_pos hb.1, decide_eq_true hb.1])) rfl (ltN rfl) rfl ?_
    refine J.op (ot_move (.tmp rfl)) rfl (ltN rfl) rfl ?_
    refine J.op (ot_extract (.tmp rfl) rfl) rfl (ltN rfl) rfl ?_
    refine J.op (ot_extract (.tmp rfl) rfl) rfl (ltN rfl) rfl ?_
    refine J.op (ot_assign (.tmp rfl)) rfl (ltN rfl) rfl ?_
    refine J.op (ot_assign (.tmp rfl)) rfl (ltN rfl) rfl ?_
    refine J.nil ?_
    refine JQ.then_normal ?_
    refine JC.seq ?_
    refine JC.region ?_
    refine J.op (ot_move (.tmp rfl)) rfl (ltN rfl) rfl ?_
    refine J.nil ?_
    refine JQ.then_normal ?_
    refine JC.cond_true (.eq (.tmp rfl) (by rfl)) ?_
    refine JC.seq ?_
    refine JC.region ?_
    refine J.op (ot_move (.tmp rfl)) rfl (ltN rfl) rfl ?_
    refine J.op (ot_eqt (T' := tTup [tIs (.int .u64 (((val y.abs : Nat) : Int))), tIs (.bool (true))]) (ot_call fn80 (natUint64_c (trimD y.abs) (by omega)) (.cons (.tmp rfl) .nil)) (by rw [vb_y, if_pos hb.2, decide_eq_true hb.2])) rfl (ltN rfl) rfl ?_
    refine J.op (ot_move (.tmp rfl)) rfl (ltN rfl) rfl ?_
    refine J.op (ot_extract (.tmp rfl) rfl) rfl (ltN rfl) rfl ?_
    refine J.op (ot_extract (.tmp rfl) rfl) rfl (ltN rfl) rfl ?_
    refine J.op (ot_assign (.tmp rfl)) rfl (ltN rfl) rfl ?_
    refine J.op (ot_assign (.tmp rfl)) rfl (ltN rfl) rfl ?_
    refine J.nil ?_
    refine JQ.then_normal ?_
    refine JC.seq ?_
    refine JC.region ?_
    refine J.op (ot_move (.tmp rfl)) rfl (ltN rfl) rfl ?_
    refine J.nil ?_
    refine JQ.then_normal ?_
    refine JC.cond_true (.eq (.tmp rfl) (by rfl)) ?_
    refine JC.seq ?_
    refine JC.block ?_
    refine JC.loop2 (α := Nat) (β := Nat) (fun m n => [(4, pOwn b4 (0)), (5, tSl encD (trimD x.abs)), (6, tSl encD (trimD y.abs)), (7, tIs (.int .u64 (((m : Nat) : Int)))), (8, tIs (.bool (true))), (9, tIs (.int .u64 (((n : Nat) : Int)))), (10, tIs (.bool (true))), (19, tSl encD (trimD y.abs)), (20, tIs (.int .i64 (((trimD y.abs).length : Int)))), (21, tIs (.bool (decide (0 < ((trimD y.abs).length : Int))))), (22, tTup [tIs (.int .u64 (((val x.abs : Nat) : Int))), tIs (.bool (true))]), (23, tSl encD (trimD x.abs)), (24, tTup [tIs (.int .u64 (((val x.abs : Nat) : Int))), tIs (.bool (true))]), (25, tIs (.int .u64 (((val x.abs : Nat) : Int)))), (26, tIs (.bool (true))), (27, tIs (.bool (true))), (28, tTup [tIs (.int .u64 (((val y.abs : Nat) : Int))), tIs (.bool (true))]), (29, tSl encD (trimD y.abs)), (30, tTup [tIs (.int .u64 (((val y.abs : Nat) : Int))), tIs (.bool (true))]), (31, tIs (.int .u64 (((val y.abs : Nat) : Int)))), (32, tIs (.bool (true))), (33, tIs (.bool (true)))]) (fun m n => [⟨b4, 25, cTs [tIs (.bool (false)), tSl encD ([])]⟩, ⟨b3, 25, cTs [tIs (.bool (y.neg)), tSl encD (y.abs)]⟩, ⟨b2, 25, cTs [tIs (.bool (x.neg)), tSl encD (x.abs)]⟩]) (fun m n => m < 18446744073709551616 ∧ n < 18446744073709551616 ∧ Nat.gcd m n = Nat.gcd (val x.abs) (val y.abs)) (fun m n => n) (val x.abs) (val y.abs) ⟨hb.1, hb.2, rfl⟩ ?lsub1 ?round1
    case lsub1 => exact sub_trans (sub_heap (.keep (fun _ _ h => h) (.keep (fun _ _ h => h) (.keep (fun _ _ h => h) .nil)))) (sub_cons (.tmp rfl) (sub_cons (.tmp rfl) (sub_cons (.tmp rfl) (sub_cons (.eq (.tmp rfl) (by first | rfl | (congr 3; omega) | (congr 2; omega))) (sub_cons (.tmp rfl) (sub_cons (.eq (.tmp rfl) (by first | rfl | (congr 3; omega) | (congr 2; omega))) (sub_cons (.tmp rfl) (sub_cons (.tmp rfl) (sub_cons (.tmp rfl) (sub_cons (.tmp rfl) (sub_cons (.tmp rfl) (sub_cons (.tmp rfl) (sub_cons (.tmp rfl) (sub_cons (.tmp rfl) (sub_cons (.tmp rfl) (sub_cons (.tmp rfl) (sub_cons (.tmp rfl) (sub_cons (.tmp rfl) (sub_cons (.tmp rfl) (sub_cons (.tmp rfl) (sub_cons (.tmp rfl) (sub_cons (.tmp rfl) (sub_nil)))))))))))))))))))))))
    intro m n hinv
    obtain ⟨hm, hn, hg⟩ := hinv
    have hlt : 0 < n → m % n < n := Nat.mod_lt m
    refine JC.seq ?_
    refine JC.seq ?_
    refine JC.region ?_
    refine J.op (ot_move (.tmp rfl)) rfl (ltN rfl) rfl ?_
    refine J.op (ot_neq (.tmp rfl) .is) rfl (ltN rfl) rfl ?_
    refine J.nil ?_
    refine JQ.then_normal ?_
    -- cond3: tIs (.bool (!decide (((n : Nat) : Int) = 0)))
    refine JC.cond (.tmp rfl) (fun hc3 => ?_) (fun hc3 => ?_)
    · try simp only [Bool.and_eq_true, Bool.or_eq_true, Bool.not_eq_true', Bool.not_eq_false', Bool.and_eq_false_iff, Bool.or_eq_false_iff, Bool.not_true, Bool.not_false, decide_eq_true_eq, decide_eq_false_iff_not, beq_iff_eq, beq_eq_false_iff_ne, Bool.not_eq_eq_eq_not] at hc3
      have hs35 := hc3
      refine JC.skip ?_
      refine JQ.then_normal ?_
      refine JC.block ?_
      refine JC.draw (Γ' := ?g2) mo (by kernel_rfl) ?tw2 ?k2
      case tw2 =>
        refine TW.op (ot_move (.tmp rfl)) rfl (ltN rfl) rfl ?_
        refine TW.op (ot_move (.tmp rfl)) rfl (ltN rfl) rfl ?_
        refine TW.op (ot_move (.tmp rfl)) rfl (ltN rfl) rfl ?_
        refine TW.op (ot_rem (.tmp rfl) (.tmp rfl) (by omega) (by rfl)) rfl (ltN rfl) rfl ?_
        refine TW.op (ot_assign (.tmp rfl)) rfl (ltN rfl) rfl ?_
        refine TW.op (ot_assign (.tmp rfl)) rfl (ltN rfl) rfl ?_
        exact TW.nil
      refine JQ.block_normal ?_
      exact JQ.round2 (i := m) (i2 := n) n (m % n) ⟨hn, by have := hlt (by omega); omega, by rw [← hg, Nat.gcd_comm m n, Nat.gcd_rec n m, Nat.gcd_comm]⟩ (hlt (by omega)) (sub_trans (sub_heap (.keep (fun _ _ h => h) (.keep (fun _ _ h => h) (.keep (fun _ _ h => h) .nil)))) (sub_cons (.tmp rfl) (sub_cons (.tmp rfl) (sub_cons (.tmp rfl) (sub_cons (.tmp rfl) (sub_cons (.tmp rfl) (sub_cons (.eq (.tmp rfl) (by first | rfl | (congr 3; omega) | (congr 2; omega))) (sub_cons (.tmp rfl) (sub_cons (.tmp rfl) (sub_cons (.tmp rfl) (sub_cons (.tmp rfl) (sub_cons (.tmp rfl) (sub_cons (.tmp rfl) (sub_cons (.tmp rfl) (sub_cons (.tmp rfl) (sub_cons (.tmp rfl) (sub_cons (.tmp rfl) (sub_cons (.tmp rfl) (sub_cons (.tmp rfl) (sub_cons (.tmp rfl) (sub_cons (.tmp rfl) (sub_cons (.tmp rfl) (sub_cons (.tmp rfl) (sub_nil))))))))))))))))))))))))
    · try simp only [Bool.and_eq_true, Bool.or_eq_true, Bool.not_eq_true', Bool.not_eq_false', Bool.and_eq_false_iff, Bool.or_eq_false_iff, Bool.not_true, Bool.not_false, decide_eq_true_eq, decide_eq_false_iff_not, beq_iff_eq, beq_eq_false_iff_ne, Bool.not_eq_eq_eq_not] at hc3
      have hs35 := hc3
      refine JC.exit ?_
      refine JQ.then_exit ?_
      refine JQ.then_exit ?_
      refine JQ.block_exit ?_
      refine JQ.then_normal ?_
      refine JC.seq ?_
      refine JC.region ?_
      refine J.op (ot_move (.tmp rfl)) rfl (ltN rfl) rfl ?_
      refine J.op (ot_eqt (T' := tSl encD (dig m)) (ot_call fn42 (natOf_c ((m : Nat) : Int) (by omega)) (.cons (.tmp rfl) .nil)) (by rw [Int.toNat_natCast])) rfl (ltN rfl) rfl ?_
      refine J.op (ot_call fn62 (intFrom_c false (dig m) (by have := dig_len_pow (n := m) (k := 2) (by show m < B32 ^ 2; simp [B32]; omega); omega)) (.cons .is (.cons (.tmp rfl) .nil))) rfl (ltN rfl) rfl ?_
      refine J.store (.tmp rfl) (.eq (.tmp rfl) (tV_F (Ts := [tIs (.bool ((ofI (zval (Z.mk (false) ((dig m))))).neg)), tSl encD ((ofI (zval (Z.mk (false) ((dig m))))).abs)]) rfl)) .here sz25 (st_agg (Ts' := [tIs (.bool ((ofI (zval (Z.mk (false) ((dig m))))).neg)), tSl encD ((ofI (zval (Z.mk (false) ((dig m))))).abs)]) (o := 0) rfl) ?_
      refine J.nil ?_
      refine JQ.then_normal ?_
      refine JC.ret ?_
      refine JQ.then_ret ?_
      refine JQ.block_ret ?_
      refine JQ.then_ret ?_
      refine JQ.block_ret ?_
      refine JQ.then_ret ?_
      -- ret0
      exact JQ.ret1 rfl (.agg (.tmp rfl) (.head _) ag25 (agg_eq (T := tV encI (ofI (zval (Z.mk (false) ((dig m)))))) (T' := tV encI (ofI (Int.gcd (zval x) (zval y)))) (by rw [gcd_ret hg (by omega)]) (cTs_ldV (g := zT) (y := (ofI (zval (Z.mk (false) ((dig m)))))) rfl rfl)))
  · try simp only [Bool.and_eq_true, Bool.or_eq_true, Bool.not_eq_true', Bool.not_eq_false', Bool.and_eq_false_iff, Bool.or_eq_false_iff, Bool.not_true, Bool.not_false, decide_eq_true_eq, decide_eq_false_iff_not, beq_iff_eq, beq_eq_false_iff_ne, Bool.not_eq_eq_eq_not] at hc0
    have hs21 := hc0
    refine JC.exit ?_
    refine JQ.then_exit ?_
    refine JQ.then_exit ?_
    refine JQ.block_exit ?_
    refine JQ.then_normal ?_
    refine JC.seq ?_
    refine JC.region ?_
    refine J.op (ot_move (.tmp rfl)) rfl (ltN rfl) rfl ?_
    refine J.op (ot_call fn62 (intFrom_c false (trimD x.abs) (by omega)) (.cons .is (.cons (.tmp rfl) .nil))) rfl (ltN rfl) rfl ?_
    refine J.store (.tmp rfl) (.eq (.tmp rfl) (tV_F (Ts := [tIs (.bool ((ofI (zval (Z.mk (false) ((trimD x.abs))))).neg)), tSl encD ((ofI (zval (Z.mk (false) ((trimD x.abs))))).abs)]) rfl)) .here sz25 (st_agg (Ts' := [tIs (.bool ((ofI (zval (Z.mk (false) ((trimD x.abs))))).neg)), tSl encD ((ofI (zval (Z.mk (false) ((trimD x.abs))))).abs)]) (o := 0) rfl) ?_
    refine J.nil ?_
    refine JQ.then_normal ?_
    refine JC.ret ?_
    -- ret1
    exact JQ.ret1 rfl (.agg (.tmp rfl) (.head _) ag25 (agg_eq (T := tV encI (ofI (zval (Z.mk (false) ((trimD x.abs)))))) (T' := tV encI (ofI (Int.gcd (zval x) (zval y)))) (by rw [gcd_ret0 hdx (t0.1 (by omega))]) (cTs_ldV (g := zT) (y := (ofI (zval (Z.mk (false) ((trimD x.abs)))))) rfl rfl)))

theorem terms_c {B : Nat} (p : Pol) (m : Mo) (hv : Lev 4 p) (hln : (termsP p m).length ≤ 4294967296) (hf : Fit B p) : Ctr Try.prog 40 [tV encP (p), tV encMo (m)] (tSl encTm (termsP p m)) := by
  induction p using Pol.ind generalizing m
  rename_i p ih
  have hcs := hf.cs
  rw [termsP_eq] at hln
  refine Ctr.of Try.func40 rfl Try.ntmps40 (Nat.le_of_ble_eq_true rfl) fun w0 M0 => ?_
  refine JC.seq ?_
  refine JC.region ?_
  refine J.boxF (Ts := [tIs (.int .i64 (p.lv)), tIs (.bool (p.c.neg)), tSl encD (p.c.abs), tSl encP (p.cs)]) (.tmp rfl) (polT_eq _) (ltN rfl) fun b2 => ?_
  refine J.boxF (Ts := [tIs (.int .i64 (m.a)), tIs (.int .i64 (m.b)), tIs (.int .i64 (m.c)), tIs (.int .i64 (m.d))]) (.tmp rfl) rfl (ltN rfl) fun b3 => ?_
  refine J.op (ot_assign (.nil (E := encTm))) rfl (ltN rfl) rfl ?_
  refine J.nil ?_
  refine JQ.then_normal ?_
  refine JC.seq ?_
  refine JC.seq ?_
  refine JC.region ?_
  refine J.op (ot_fieldAddr_own (.tmp rfl) fd28_0) rfl (ltN rfl) rfl ?_
  refine J.op (ot_load_own (.tmp rfl) (.tail _ (.head _)) sc3 (cTs_ld rfl)) rfl (ltN rfl) rfl ?_
  refine J.op (ot_eql (.tmp rfl) .is) rfl (ltN rfl) rfl ?_
  refine J.nil ?_
  refine JQ.then_normal ?_
  -- cond0: tIs (.bool (decide (p.lv = 0)))
  refine JC.cond (.tmp rfl) (fun hc0 => ?_) (fun hc0 => ?_)
  · try simp only [Bool.and_eq_true, Bool.or_eq_true, Bool.not_eq_true', Bool.not_eq_false', Bool.and_eq_false_iff, Bool.or_eq_false_iff, Bool.not_true, Bool.not_false, decide_eq_true_eq, decide_eq_false_iff_not, beq_iff_eq, beq_eq_false_iff_ne, Bool.not_eq_eq_eq_not] at hc0
    have hs10 := hc0
    refine JC.seq ?_
    refine JC.region ?_
    refine J.op (ot_fieldAddr_own (.tmp rfl) fd28_1) rfl (ltN rfl) rfl ?_
    refine J.op (ot_load_own_agg (.tmp rfl) (.tail _ (.head _)) ag25 (cTs_ldV (g := zT) (y := p.c) rfl rfl)) rfl (ltN rfl) rfl ?_
    refine J.op (ot_load_own_agg (.tmp rfl) (.head _) ag61 (cTs_ldV (g := moT) (y := m) rfl rfl)) rfl (ltN rfl) rfl ?_
    refine J.op (ot_eqt (T' := tV encTm (Tm.mk (p.c) (m))) (ot_build (Ts := [tIs (.bool (false)), tSl encD ([]), tIs (.int .i64 (0)), tIs (.int .i64 (0)), tIs (.int .i64 (0)), tIs (.int .i64 (0))]) pl63 (fun _ => ⟨rfl, rfl, slP_nil _ _, rfl, rfl, rfl, rfl, rfl, rfl, rfl, rfl, rfl, trivial⟩) ((.agg (off := 0) rfl (.eq (.tmp rfl) (tV_F (Ts := [tIs (.bool (p.c.neg)), tSl encD (p.c.abs)]) rfl)) (Ts' := [tIs (.bool (p.c.neg)), tSl encD (p.c.abs), tIs (.int .i64 (0)), tIs (.int .i64 (0)), tIs (.int .i64 (0)), tIs (.int .i64 (0))]) rfl rfl (.agg (off := 2) rfl (.eq (.tmp rfl) (tV_F (Ts := [tIs (.int .i64 (m.a)), tIs (.int .i64 (m.b)), tIs (.int .i64 (m.c)), tIs (.int .i64 (m.d))]) rfl)) (Ts' := [tIs (.bool (p.c.neg)), tSl encD (p.c.abs), tIs (.int .i64 (m.a)), tIs (.int .i64 (m.b)), tIs (.int .i64 (m.c)), tIs (.int .i64 (m.d))]) rfl rfl .nil))) rfl) (tV_F' rfl)) rfl (ltN rfl) rfl ?_
    refine J.op (ot_buildSlice (E := encTm) (zs := [Tm.mk (p.c) (m)]) sl65 (.cons (.tmp rfl) .nil) rfl zr63 rfl (by decide) (by decide)) rfl (ltN rfl) rfl ?_
    refine J.op (ot_assign (.tmp rfl)) rfl (ltN rfl) rfl ?_
    refine J.nil ?_
    refine JQ.then_normal ?_
    refine JC.ret ?_
    refine JQ.then_ret ?_
    -- ret0
    exact JQ.ret1 rfl (.tmp (.eq (.tmp rfl) (by rw [termsP_eq, if_pos hc0])))
  · try simp only [Bool.and_eq_true, Bool.or_eq_true, Bool.not_eq_true', Bool.not_eq_false', Bool.and_eq_false_iff, Bool.or_eq_false_iff, Bool.not_true, Bool.not_false, decide_eq_true_eq, decide_eq_false_iff_not, beq_iff_eq, beq_eq_false_iff_ne, Bool.not_eq_eq_eq_not] at hc0
    have hs10 := hc0
    rw [if_neg hc0] at hln
    obtain ⟨hcl, hl0, hl4, hsub⟩ := hv.sub hc0
    refine JC.skip ?_
    refine JQ.then_normal ?_
    refine JC.seq ?_
    refine JC.region ?_
    refine J.op (ot_assign .is) rfl (ltN rfl) rfl ?_
    refine J.nil ?_
    refine JQ.then_normal ?_
    refine JC.seq ?_
    refine JC.seq ?_
    refine JC.region ?_
    refine J.op (ot_fieldAddr_own (.tmp rfl) fd28_2) rfl (ltN rfl) rfl ?_
    refine J.op (ot_load_own (.tmp rfl) (.tail _ (.head _)) sc26 (cTs_ld rfl)) rfl (ltN rfl) rfl ?_
    refine J.op (ot_len (.tmp rfl) sl26 rfl) rfl (ltN rfl) rfl ?_
    refine J.op (ot_move .is) rfl (ltN rfl) rfl ?_
    refine J.nil ?_
    refine JQ.then_normal ?_
    refine JC.block ?_
    refine JC.peel4 (α := Nat) (β := Mo) (γ := Nat) (δ := Nat) (fun k M b c => [(2, pOwn b2 (0)), (3, pOwn b3 (0)), (4, tSl encTm ([])), (5, sIs b 0 ((termsK (fun q i => termsP q (m.set (p.lv - 1).toNat (i : Int))) p.cs k).length) (c)), (17, tSl encP (p.cs)), (18, tIs (.int .i64 (((p.cs).length : Int)))), (19, tIs (.int .i64 (((k : Nat) : Int))))]) (fun k M b c => [⟨b, 63, cRow encTm (termsK (fun q i => termsP q (m.set (p.lv - 1).toNat (i : Int))) p.cs k) (c)⟩, ⟨b3, 61, cTs [tIs (.int .i64 (M.a)), tIs (.int .i64 (M.b)), tIs (.int .i64 (M.c)), tIs (.int .i64 (M.d))]⟩, ⟨b2, 28, cTs [tIs (.int .i64 (p.lv)), tIs (.bool (p.c.neg)), tSl encD (p.c.abs), tSl encP (p.cs)]⟩]) (fun k M b c => 1 ≤ k ∧ k ≤ p.cs.length ∧ (∀ x, M.set (p.lv - 1).toNat x = m.set (p.lv - 1).toNat x)) (fun k M b c => p.cs.length - k) p.cs.length ?first0 ?round0
    case first0 =>
      refine JC.seq ?_
      refine JC.region ?_
      refine J.op (ot_lss (.tmp rfl) (.tmp rfl)) rfl (ltN rfl) rfl ?_
      refine J.nil ?_
      refine JQ.then_normal ?_
      refine JC.seq ?_
      refine JC.cond_true (.eq (.tmp rfl) (by rw [decide_eq_true (by omega)])) ?_
      refine JC.skip ?_
      refine JQ.then_normal ?_
      refine JC.seq ?_
      refine JC.block ?_
      refine JC.seq ?_
      refine JC.region ?_
      refine J.op (ot_move (.tmp rfl)) rfl (ltN rfl) rfl ?_
      refine J.op (ot_index (z := atP p.cs 0) (.tmp rfl) (.tmp rfl) sl26 (by omega) (atP_at (by omega) (by omega))) rfl (ltN rfl) rfl ?_
      refine J.op (ot_load_agg (.tmp rfl) ag28 ldp_whole) rfl (ltN rfl) rfl ?_
      refine J.alloc (R := cTs [tIs (.int .i64 (0)), tIs (.bool (false)), tSl encD ([]), tSl encP ([])]) zr28 (fun _ => ⟨rfl, rfl, rfl, rfl, slP_nil _ _, rfl, slP_nil _ _, rfl, trivial⟩) (ltN rfl) fun b7 => ?_
      refine J.op (ot_assign (.tmp rfl)) rfl (ltN rfl) rfl ?_
      refine J.store (.tmp rfl) (.eq (.tmp rfl) (tV_F (Ts := [tIs (.int .i64 ((atP p.cs 0).lv)), tIs (.bool (((atP p.cs 0).c).neg)), tSl encD (((atP p.cs 0).c).abs), tSl encP ((atP p.cs 0).cs)]) (polT_eq _))) .here sz28 (st_agg (Ts' := [tIs (.int .i64 ((atP p.cs 0).lv)), tIs (.bool (((atP p.cs 0).c).neg)), tSl encD (((atP p.cs 0).c).abs), tSl encP ((atP p.cs 0).cs)]) (o := 0) rfl) ?_
      refine J.nil ?_
      refine JQ.then_normal ?_
      refine JC.seq ?_
      refine JC.region ?_
      refine J.op (ot_fieldAddr_own (.tmp rfl) fd28_0) rfl (ltN rfl) rfl ?_
      refine J.op (ot_load_own (.tmp rfl) (.tail _ (.tail _ (.head _))) sc3 (cTs_ld rfl)) rfl (ltN rfl) rfl ?_
      refine J.op (ot_sub (.tmp rfl) .is (w64 (by omega) (by omega))) rfl (ltN rfl) rfl ?_
      refine J.op (ot_move (.tmp rfl)) rfl (ltN rfl) rfl ?_
      refine J.op (ot_eqt (T' := pOwn b3 ((p.lv - 1).toNat)) (ot_indexAddrA (.tmp rfl) (.tmp rfl) ar4_61 (by omega) (by omega)) (own_off2 (by omega))) rfl (ltN rfl) rfl ?_
      refine J.store (.tmp rfl) (.tmp rfl) (.there .here) sz3 (mo_st (m := m) (by omega)) ?_
      refine J.nil ?_
      refine JQ.then_normal ?_
      refine JC.region ?_
      refine J.op (ot_move (.tmp rfl)) rfl (ltN rfl) rfl ?_
      refine J.op (ot_load_own_agg (.tmp rfl) (.head _) ag28 (cTs_ldV (g := polT) (y := (atP p.cs 0)) (polT_eq (atP p.cs 0)).symm rfl)) rfl (ltN rfl) rfl ?_
      refine J.op (ot_load_own_agg (.tmp rfl) (.tail _ (.head _)) ag61 (cTs_ldV (g := moT) (y := (Mo.set (m) ((p.lv - 1).toNat) (0))) rfl rfl)) rfl (ltN rfl) rfl ?_
      refine J.op (ot_call fn40 (ih (atP p.cs 0) (atP_mem (by omega)) (Mo.set (m) ((p.lv - 1).toNat) (0)) (hsub _ (atP_mem (by omega))) (Nat.le_trans (termsK_at (fun q i => termsP q (m.set (p.lv - 1).toNat (i : Int))) p.cs (k := 0) (by omega)) hln) (hf.at (by omega))) (.cons (.tmp rfl) (.cons (.tmp rfl) .nil))) rfl (ltN rfl) rfl ?_
      refine J.append0 (E := encTm) (ys := termsP (atP p.cs 0) (Mo.set (m) ((p.lv - 1).toNat) (0))) (.sub (.tmp rfl) nil_z) (.tmp rfl) (termsP_ne (hsub _ (atP_mem (by omega)))) sl65 rfl zr63 rfl (by have := termsK_at (fun q i => termsP q (m.set (p.lv - 1).toNat (i : Int))) p.cs (k := 0) (show 0 < p.cs.length by omega); have h2 : (termsP (atP p.cs 0) (m.set (p.lv - 1).toNat 0)).length ≤ 4294967296 := Nat.le_trans this hln; omega) (by have := termsK_at (fun q i => termsP q (m.set (p.lv - 1).toNat (i : Int))) p.cs (k := 0) (show 0 < p.cs.length by omega); have h2 : (termsP (atP p.cs 0) (m.set (p.lv - 1).toNat 0)).length ≤ 4294967296 := Nat.le_trans this hln; omega) (ltN rfl) fun b33 c33 => ?_
      refine J.op (ot_assign (.tmp rfl)) rfl (ltN rfl) rfl ?_
      refine J.nil ?_
      refine JQ.block_normal ?_
      refine JQ.then_normal ?_
      refine JC.region ?_
      refine J.op (ot_add (.tmp rfl) .is (w64 (by omega) (by omega))) rfl (ltN rfl) rfl ?_
      refine J.op (ot_move (.tmp rfl)) rfl (ltN rfl) rfl ?_
      refine J.nil ?_
      exact JQ.first4 1 (m.set (p.lv - 1).toNat 0) b33 c33 ⟨by omega, by omega, fun x => Mo.set_set⟩ (by omega) (sub_trans (sub_heap (.keep (cRow_eq (by simp [termsK])) (.drop (.keep (fun _ _ h => by first | exact h | simpa using h) (.keep (fun _ _ h => h) .nil))))) (sub_cons (.tmp rfl) (sub_cons (.tmp rfl) (sub_cons (.tmp rfl) (sub_cons (.eq (.tmp rfl) (by simp [termsK])) (sub_cons (.tmp rfl) (sub_cons (.tmp rfl) (sub_cons (.eq (.tmp rfl) (by first | rfl | (congr 3; omega) | (congr 2; omega))) (sub_nil)))))))))
    intro k M b c hinv
    obtain ⟨hk1, hk, hM⟩ := hinv
    have htk := termsK_mono (fun q i => termsP q (m.set (p.lv - 1).toNat (i : Int))) p.cs hk
    refine JC.seq ?_
    refine JC.region ?_
    refine J.op (ot_lss (.tmp rfl) (.tmp rfl)) rfl (ltN rfl) rfl ?_
    refine J.nil ?_
    refine JQ.then_normal ?_
    refine JC.seq ?_
    -- cond2: tIs (.bool (decide (((k : Nat) : Int) < ((p.cs).length : Int))))
    refine JC.cond (.tmp rfl) (fun hc2 => ?_) (fun hc2 => ?_)
    · try simp only [Bool.and_eq_true, Bool.or_eq_true, Bool.not_eq_true', Bool.not_eq_false', Bool.and_eq_false_iff, Bool.or_eq_false_iff, Bool.not_true, Bool.not_false, decide_eq_true_eq, decide_eq_false_iff_not, beq_iff_eq, beq_eq_false_iff_ne, Bool.not_eq_eq_eq_not] at hc2
      have hs20 := hc2
      refine JC.skip ?_
      refine JQ.then_normal ?_
      refine JC.seq ?_
      refine JC.block ?_
      refine JC.seq ?_
      refine JC.region ?_
      refine J.op (ot_move (.tmp rfl)) rfl (ltN rfl) rfl ?_
      refine J.op (ot_index (z := atP p.cs k) (.tmp rfl) (.tmp rfl) sl26 (by omega) (atP_at (by omega) (by omega))) rfl (ltN rfl) rfl ?_
      refine J.op (ot_load_agg (.tmp rfl) ag28 ldp_whole) rfl (ltN rfl) rfl ?_
      refine J.alloc (R := cTs [tIs (.int .i64 (0)), tIs (.bool (false)), tSl encD ([]), tSl encP ([])]) zr28 (fun _ => ⟨rfl, rfl, rfl, rfl, slP_nil _ _, rfl, slP_nil _ _, rfl, trivial⟩) (ltN rfl) fun b7 => ?_
      refine J.op (ot_assign (.tmp rfl)) rfl (ltN rfl) rfl ?_
      refine J.store (.tmp rfl) (.eq (.tmp rfl) (tV_F (Ts := [tIs (.int .i64 ((atP p.cs k).lv)), tIs (.bool (((atP p.cs k).c).neg)), tSl encD (((atP p.cs k).c).abs), tSl encP ((atP p.cs k).cs)]) (polT_eq _))) .here sz28 (st_agg (Ts' := [tIs (.int .i64 ((atP p.cs k).lv)), tIs (.bool (((atP p.cs k).c).neg)), tSl encD (((atP p.cs k).c).abs), tSl encP ((atP p.cs k).cs)]) (o := 0) rfl) ?_
      refine J.nil ?_
      refine JQ.then_normal ?_
      refine JC.seq ?_
      refine JC.region ?_
      refine J.op (ot_fieldAddr_own (.tmp rfl) fd28_0) rfl (ltN rfl) rfl ?_
      refine J.op (ot_load_own (.tmp rfl) (.tail _ (.tail _ (.tail _ (.head _)))) sc3 (cTs_ld rfl)) rfl (ltN rfl) rfl ?_
      refine J.op (ot_sub (.tmp rfl) .is (w64 (by omega) (by omega))) rfl (ltN rfl) rfl ?_
      refine J.op (ot_move (.tmp rfl)) rfl (ltN rfl) rfl ?_
      refine J.op (ot_eqt (T' := pOwn b3 ((p.lv - 1).toNat)) (ot_indexAddrA (.tmp rfl) (.tmp rfl) ar4_61 (by omega) (by omega)) (own_off2 (by omega))) rfl (ltN rfl) rfl ?_
      refine J.store (.tmp rfl) (.tmp rfl) (.there (.there .here)) sz3 (mo_st (m := M) (by omega)) ?_
      refine J.nil ?_
      refine JQ.then_normal ?_
      refine JC.region ?_
      refine J.op (ot_move (.tmp rfl)) rfl (ltN rfl) rfl ?_
      refine J.op (ot_load_own_agg (.tmp rfl) (.head _) ag28 (cTs_ldV (g := polT) (y := (atP p.cs k)) (polT_eq (atP p.cs k)).symm rfl)) rfl (ltN rfl) rfl ?_
      refine J.op (ot_load_own_agg (.tmp rfl) (.tail _ (.tail _ (.head _))) ag61 (cTs_ldV (g := moT) (y := (Mo.set (M) ((p.lv - 1).toNat) (((k : Nat) : Int)))) rfl rfl)) rfl (ltN rfl) rfl ?_
      refine J.op (ot_call fn40 (ih (atP p.cs k) (atP_mem (by omega)) (Mo.set (M) ((p.lv - 1).toNat) (((k : Nat) : Int))) (hsub _ (atP_mem (by omega))) (Nat.le_trans (by rw [hM]; exact termsK_at (fun q i => termsP q (m.set (p.lv - 1).toNat (i : Int))) p.cs (k := k) (by omega)) hln) (hf.at (by omega))) (.cons (.tmp rfl) (.cons (.tmp rfl) .nil))) rfl (ltN rfl) rfl ?_
      refine J.append (E := encTm) (xs := termsK (fun q i => termsP q (m.set (p.lv - 1).toNat (i : Int))) p.cs k) (ys := termsP (atP p.cs k) (Mo.set (M) ((p.lv - 1).toNat) (((k : Nat) : Int)))) (.tmp rfl) rfl (.tmp rfl) sl65 rfl zr63 rfl (.there .here) (by have := termsK_mono (fun q i => termsP q (m.set (p.lv - 1).toNat (i : Int))) p.cs (show k + 1 ≤ p.cs.length by omega); rw [termsK_succ, List.length_append] at this; rw [← hM] at this; omega) (by have := termsK_mono (fun q i => termsP q (m.set (p.lv - 1).toNat (i : Int))) p.cs (show k + 1 ≤ p.cs.length by omega); rw [termsK_succ, List.length_append] at this; rw [← hM] at this; omega) (ltN rfl) fun b33 c33 => ?_
      refine J.op (ot_assign (.tmp rfl)) rfl (ltN rfl) rfl ?_
      refine J.nil ?_
      refine JQ.block_normal ?_
      refine JQ.then_normal ?_
      refine JC.region ?_
      refine J.op (ot_add (.tmp rfl) .is (w64 (by omega) (by omega))) rfl (ltN rfl) rfl ?_
      refine J.op (ot_move (.tmp rfl)) rfl (ltN rfl) rfl ?_
      refine J.nil ?_
      exact JQ.round4 (i := k) (i2 := M) (i3 := b) (i4 := c) (k + 1) (M.set (p.lv - 1).toNat (k : Int)) b33 c33 ⟨by omega, by omega, fun x => by rw [Mo.set_set]; exact hM x⟩ (by omega) (sub_trans (sub_heap (.keep (cRow_eq (by rw [termsK_succ, hM])) (.drop (.keep (fun _ _ h => by first | exact h | simpa using h) (.keep (fun _ _ h => h) .nil))))) (sub_cons (.tmp rfl) (sub_cons (.tmp rfl) (sub_cons (.tmp rfl) (sub_cons (.eq (.tmp rfl) (by rw [termsK_succ, hM])) (sub_cons (.tmp rfl) (sub_cons (.tmp rfl) (sub_cons (.eq (.tmp rfl) (by first | rfl | (congr 3; omega) | (congr 2; omega))) (sub_nil)))))))))
    · try simp only [Bool.and_eq_true, Bool.or_eq_true, Bool.not_eq_true', Bool.not_eq_false', Bool.and_eq_false_iff, Bool.or_eq_false_iff, Bool.not_true, Bool.not_false, decide_eq_true_eq, decide_eq_false_iff_not, beq_iff_eq, beq_eq_false_iff_ne, Bool.not_eq_eq_eq_not] at hc2
      have hs20 := hc2
      refine JC.exit ?_
      refine JQ.then_exit ?_
      refine JQ.then_exit ?_
      refine JQ.block_exit ?_
      refine JQ.then_normal ?_
      refine JC.seq ?_
      refine JC.weak (sub_freeze0 (E := encTm) (xs := termsK (fun q i => termsP q (m.set (p.lv - 1).toNat (i : Int))) p.cs k) (n := (termsK (fun q i => termsP q (m.set (p.lv - 1).toNat (i : Int))) p.cs k).length) (c := c) [5] ⟨rfl, trivial⟩ .here rfl (by omega)) ?_
      refine JC.region ?_
      refine J.op (ot_move (.tmp rfl)) rfl (ltN rfl) rfl ?_
      refine J.op (ot_assign (.tmp rfl)) rfl (ltN rfl) rfl ?_
      refine J.nil ?_
      refine JQ.then_normal ?_
      refine JC.ret ?_
      -- ret1
      exact JQ.ret1 rfl (.tmp (.eq (.tmp rfl) (by rw [termsP_eq, if_neg hc0]; congr 2; omega)))

theorem to_c {B : Nat} (p : Pol) (hf : Fit B p) (hb : B + 2 ≤ 1000000000000) (hn : p.lv ≤ 0 ∨ 4 < p.lv ∨ canonB p 5 = true) (hlv : Lev 4 (normC p)) (hlen : (termsP (normC p) mo0).length < 20) : Ctr Try.prog 26 [tV encP (p)] (tSl encTm (normS (termsP (normC p) mo0))) := by
  have hfn := normC_fit hf
  refine Ctr.of Try.func26 rfl Try.ntmps26 (Nat.le_of_ble_eq_true rfl) fun w0 M0 => ?_
  refine JC.seq ?_
  refine JC.region ?_
  refine J.boxF (Ts := [tIs (.int .i64 (p.lv)), tIs (.bool (p.c.neg)), tSl encD (p.c.abs), tSl encP (p.cs)]) (.tmp rfl) (polT_eq _) (ltN rfl) fun b1 => ?_
  refine J.op (ot_assign (.nil (E := encTm))) rfl (ltN rfl) rfl ?_
  refine J.nil ?_
  refine JQ.then_normal ?_
  refine JC.seq ?_
  refine JC.region ?_
  refine J.op (ot_load_own_agg (.tmp rfl) (.head _) ag28 (cTs_ldV (g := polT) (y := p) (polT_eq p).symm rfl)) rfl (ltN rfl) rfl ?_
  refine J.op (ot_call fn29 (rnormal_c p hf (by omega) hn) (.cons (.tmp rfl) .nil)) rfl (ltN rfl) rfl ?_
  refine J.op (ot_eqt (T' := tV encMo mo0) (ot_buildA0 ar4_61 zr61) rfl) rfl (ltN rfl) rfl ?_
  refine J.op (ot_call fn40 (terms_c (normC p) mo0 hlv (by show (termsP (normC p) mo0).length ≤ _; omega) hfn) (.cons (.tmp rfl) (.cons (.tmp rfl) .nil))) rfl (ltN rfl) rfl ?_
  refine J.op (ot_call fn39 (normS_c (termsP (normC p) mo0) hlen (fun t ht => (termsP_fit hfn t ht).1) (fun t ht => (termsP_fit hfn t ht).2) (by omega)) (.cons (.tmp rfl) .nil)) rfl (ltN rfl) rfl ?_
  refine J.op (ot_assign (.tmp rfl)) rfl (ltN rfl) rfl ?_
  refine J.nil ?_
  refine JQ.then_normal ?_
  refine JC.ret ?_
  -- ret0
  exact JQ.ret1 rfl (.tmp (.tmp rfl))

theorem bits_c (r : Int) : Ctr Try.prog 22 [tIs (.int .i64 (r))] (tIs (.int .i64 (bitsR r))) := by
  refine Ctr.of Try.func22 rfl Try.ntmps22 (Nat.le_of_ble_eq_true rfl) fun w0 M0 => ?_
  refine JC.seq ?_
  refine JC.region ?_
  refine J.op (ot_assign .is) rfl (ltN rfl) rfl ?_
  refine J.nil ?_
  refine JQ.then_normal ?_
  refine JC.seq ?_
  refine JC.seq ?_
  refine JC.region ?_
  refine J.op (ot_move (.tmp rfl)) rfl (ltN rfl) rfl ?_
  refine J.nil ?_
  refine JQ.then_normal ?_
  refine JC.block ?_
  refine JC.seq ?_
  refine JC.region ?_
  refine J.op (ot_eql (.tmp rfl) .is) rfl (ltN rfl) rfl ?_
  refine J.op (ot_assign (.tmp rfl)) rfl (ltN rfl) rfl ?_
  refine J.nil ?_
  refine JQ.then_normal ?_
  -- cond0: tIs (.bool (decide (r = 1)))
  refine JC.cond (.tmp rfl) (fun hc0 => ?_) (fun hc0 => ?_)
  · try simp only [Bool.and_eq_true, Bool.or_eq_true, Bool.not_eq_true', Bool.not_eq_false', Bool.and_eq_false_iff, Bool.or_eq_false_iff, Bool.not_true, Bool.not_false, decide_eq_true_eq, decide_eq_false_iff_not, beq_iff_eq, beq_eq_false_iff_ne, Bool.not_eq_eq_eq_not] at hc0
    have hs4 := hc0
    refine JC.seq ?_
    refine JC.region ?_
    refine J.op (ot_assign .is) rfl (ltN rfl) rfl ?_
    refine J.nil ?_
    refine JQ.then_normal ?_
    refine JC.ret ?_
    refine JQ.block_ret ?_
    refine JQ.then_ret ?_
    -- ret0
    exact JQ.ret1 rfl (.tmp (.eq (.tmp rfl) (by simp [bitsR, *])))
  · try simp only [Bool.and_eq_true, Bool.or_eq_true, Bool.not_eq_true', Bool.not_eq_false', Bool.and_eq_false_iff, Bool.or_eq_false_iff, Bool.not_true, Bool.not_false, decide_eq_true_eq, decide_eq_false_iff_not, beq_iff_eq, beq_eq_false_iff_ne, Bool.not_eq_eq_eq_not] at hc0
    have hs4 := hc0
    refine JC.seq ?_
    refine JC.region ?_
    refine J.op (ot_eql (.tmp rfl) .is) rfl (ltN rfl) rfl ?_
    refine J.op (ot_assign (.tmp rfl)) rfl (ltN rfl) rfl ?_
    refine J.nil ?_
    refine JQ.then_normal ?_
    -- cond1: tIs (.bool (decide (r = 2)))
    refine JC.cond (.tmp rfl) (fun hc1 => ?_) (fun hc1 => ?_)
    · try simp only [Bool.and_eq_true, Bool.or_eq_true, Bool.not_eq_true', Bool.not_eq_false', Bool.and_eq_false_iff, Bool.or_eq_false_iff, Bool.not_true, Bool.not_false, decide_eq_true_eq, decide_eq_false_iff_not, beq_iff_eq, beq_eq_false_iff_ne, Bool.not_eq_eq_eq_not] at hc1
      have hs6 := hc1
      refine JC.seq ?_
      refine JC.region ?_
      refine J.op (ot_assign .is) rfl (ltN rfl) rfl ?_
      refine J.nil ?_
      refine JQ.then_normal ?_
      refine JC.ret ?_
      refine JQ.block_ret ?_
      refine JQ.then_ret ?_
      -- ret1
      exact JQ.ret1 rfl (.tmp (.eq (.tmp rfl) (by simp [bitsR, *])))
    · try simp only [Bool.and_eq_true, Bool.or_eq_true, Bool.not_eq_true', Bool.not_eq_false', Bool.and_eq_false_iff, Bool.or_eq_false_iff, Bool.not_true, Bool.not_false, decide_eq_true_eq, decide_eq_false_iff_not, beq_iff_eq, beq_eq_false_iff_ne, Bool.not_eq_eq_eq_not] at hc1
      have hs6 := hc1
      refine JC.seq ?_
      refine JC.region ?_
      refine J.op (ot_eql (.tmp rfl) .is) rfl (ltN rfl) rfl ?_
      refine J.op (ot_assign (.tmp rfl)) rfl (ltN rfl) rfl ?_
      refine J.nil ?_
      refine JQ.then_normal ?_
      -- cond2: tIs (.bool (decide (r = 4)))
      refine JC.cond (.tmp rfl) (fun hc2 => ?_) (fun hc2 => ?_)
      · try simp only [Bool.and_eq_true, Bool.or_eq_true, Bool.not_eq_true', Bool.not_eq_false', Bool.and_eq_false_iff, Bool.or_eq_false_iff, Bool.not_true, Bool.not_false, decide_eq_true_eq, decide_eq_false_iff_not, beq_iff_eq, beq_eq_false_iff_ne, Bool.not_eq_eq_eq_not] at hc2
        have hs8 := hc2
        refine JC.seq ?_
        refine JC.region ?_
        refine J.op (ot_assign .is) rfl (ltN rfl) rfl ?_
        refine J.nil ?_
        refine JQ.then_normal ?_
        refine JC.ret ?_
        refine JQ.block_ret ?_
        refine JQ.then_ret ?_
        -- ret2
        exact JQ.ret1 rfl (.tmp (.eq (.tmp rfl) (by simp [bitsR, *])))
      · try simp only [Bool.and_eq_true, Bool.or_eq_true, Bool.not_eq_true', Bool.not_eq_false', Bool.and_eq_false_iff, Bool.or_eq_false_iff, Bool.not_true, Bool.not_false, decide_eq_true_eq, decide_eq_false_iff_not, beq_iff_eq, beq_eq_false_iff_ne, Bool.not_eq_eq_eq_not] at hc2
        have hs8 := hc2
        refine JC.seq ?_
        refine JC.region ?_
        refine J.op (ot_eql (.tmp rfl) .is) rfl (ltN rfl) rfl ?_
        refine J.op (ot_assign (.tmp rfl)) rfl (ltN rfl) rfl ?_
        refine J.nil ?_
        refine JQ.then_normal ?_
        -- cond3: tIs (.bool (decide (r = 5)))
        refine JC.cond (.tmp rfl) (fun hc3 => ?_) (fun hc3 => ?_)
        · try simp only [Bool.and_eq_true, Bool.or_eq_true, Bool.not_eq_true', Bool.not_eq_false', Bool.and_eq_false_iff, Bool.or_eq_false_iff, Bool.not_true, Bool.not_false, decide_eq_true_eq, decide_eq_false_iff_not, beq_iff_eq, beq_eq_false_iff_ne, Bool.not_eq_eq_eq_not] at hc3
          have hs10 := hc3
          refine JC.seq ?_
          refine JC.region ?_
          refine J.op (ot_assign .is) rfl (ltN rfl) rfl ?_
          refine J.nil ?_
          refine JQ.then_normal ?_
          refine JC.ret ?_
          refine JQ.block_ret ?_
          refine JQ.then_ret ?_
          -- ret3
          exact JQ.ret1 rfl (.tmp (.eq (.tmp rfl) (by simp [bitsR, *])))
        · try simp only [Bool.and_eq_true, Bool.or_eq_true, Bool.not_eq_true', Bool.not_eq_false', Bool.and_eq_false_iff, Bool.or_eq_false_iff, Bool.not_true, Bool.not_false, decide_eq_true_eq, decide_eq_false_iff_not, beq_iff_eq, beq_eq_false_iff_ne, Bool.not_eq_eq_eq_not] at hc3
          have hs10 := hc3
          refine JC.seq ?_
          refine JC.region ?_
          refine J.op (ot_eql (.tmp rfl) .is) rfl (ltN rfl) rfl ?_
          refine J.op (ot_assign (.tmp rfl)) rfl (ltN rfl) rfl ?_
          refine J.nil ?_
          refine JQ.then_normal ?_
          -- cond4: tIs (.bool (decide (r = 6)))
          refine JC.cond (.tmp rfl) (fun hc4 => ?_) (fun hc4 => ?_)
          · try simp only [Bool.and_eq_true, Bool.or_eq_true, Bool.not_eq_true', Bool.not_eq_false', Bool.and_eq_false_iff, Bool.or_eq_false_iff, Bool.not_true, Bool.not_false, decide_eq_true_eq, decide_eq_false_iff_not, beq_iff_eq, beq_eq_false_iff_ne, Bool.not_eq_eq_eq_not] at hc4
            have hs12 := hc4
            refine JC.seq ?_
            refine JC.region ?_
            refine J.op (ot_assign .is) rfl (ltN rfl) rfl ?_
            refine J.nil ?_
            refine JQ.then_normal ?_
            refine JC.ret ?_
            refine JQ.block_ret ?_
            refine JQ.then_ret ?_
            -- ret4
            exact JQ.ret1 rfl (.tmp (.eq (.tmp rfl) (by simp [bitsR, *])))
          · try simp only [Bool.and_eq_true, Bool.or_eq_true, Bool.not_eq_true', Bool.not_eq_false', Bool.and_eq_false_iff, Bool.or_eq_false_iff, Bool.not_true, Bool.not_false, decide_eq_true_eq, decide_eq_false_iff_not, beq_iff_eq, beq_eq_false_iff_ne, Bool.not_eq_eq_eq_not] at hc4
            have hs12 := hc4
            refine JC.skip ?_
            refine JQ.block_normal ?_
            refine JQ.then_normal ?_
            refine JC.seq ?_
            refine JC.region ?_
            refine J.op (ot_assign .is) rfl (ltN rfl) rfl ?_
            refine J.nil ?_
            refine JQ.then_normal ?_
            refine JC.ret ?_
            -- ret5
            exact JQ.ret1 rfl (.tmp (.eq (.tmp rfl) (by simp [bitsR, *])))

theorem relation_c (b : Int) : Ctr Try.prog 27 [tIs (.int .i64 (b))] (tTup [tIs (.int .i64 ((relR b).1)), tIs (.bool ((relR b).2))]) := by
  refine Ctr.of Try.func27 rfl Try.ntmps27 (Nat.le_of_ble_eq_true rfl) fun w0 M0 => ?_
  refine JC.seq ?_
  refine JC.region ?_
  refine J.op (ot_assign .is) rfl (ltN rfl) rfl ?_
  refine J.op (ot_assign .is) rfl (ltN rfl) rfl ?_
  refine J.nil ?_
  refine JQ.then_normal ?_
  refine JC.seq ?_
  refine JC.seq ?_
  refine JC.region ?_
  refine J.op (ot_assign .is) rfl (ltN rfl) rfl ?_
  refine J.nil ?_
  refine JQ.then_normal ?_
  refine JC.block ?_
  refine JC.loop (ι := Nat) (fun n => [(0, tIs (.int .i64 (b))), (4, tIs (.int .i64 (((n : Nat) : Int) + 1)))]) (fun n => []) (fun n => n ≤ 6 ∧ ∀ i : Nat, i < n → ¬ bitsR ((i : Int) + 1) = b) (fun n => 6 - n) 0 ⟨by omega, fun i hi => by omega⟩ ?lsub0 ?round0
  case lsub0 => exact sub_trans (sub_heap .nil) (sub_cons (.tmp rfl) (sub_cons (.eq (.tmp rfl) (by rfl)) (sub_nil)))
  intro n hinv
  obtain ⟨hn, hno⟩ := hinv
  refine JC.seq ?_
  refine JC.seq ?_
  refine JC.region ?_
  refine J.op (ot_move (.tmp rfl)) rfl (ltN rfl) rfl ?_
  refine J.op (ot_leq (.tmp rfl) .is) rfl (ltN rfl) rfl ?_
  refine J.nil ?_
  refine JQ.then_normal ?_
  -- cond0: tIs (.bool (decide ((((n : Nat) : Int) + 1) ≤ 6)))
  refine JC.cond (.tmp rfl) (fun hc0 => ?_) (fun hc0 => ?_)
  · try simp only [Bool.and_eq_true, Bool.or_eq_true, Bool.not_eq_true', Bool.not_eq_false', Bool.and_eq_false_iff, Bool.or_eq_false_iff, Bool.not_true, Bool.not_false, decide_eq_true_eq, decide_eq_false_iff_not, beq_iff_eq, beq_eq_false_iff_ne, Bool.not_eq_eq_eq_not] at hc0
    have hs6 := hc0
    refine JC.skip ?_
    refine JQ.then_normal ?_
    refine JC.seq ?_
    refine JC.block ?_
    refine JC.seq ?_
    refine JC.region ?_
    refine J.op (ot_move (.tmp rfl)) rfl (ltN rfl) rfl ?_
    refine J.op (ot_call fn22 (bits_c (((n : Nat) : Int) + 1) ) (.cons (.tmp rfl) .nil)) rfl (ltN rfl) rfl ?_
    refine J.op (ot_move (.tmp rfl)) rfl (ltN rfl) rfl ?_
    refine J.op (ot_eql (.tmp rfl) (.tmp rfl)) rfl (ltN rfl) rfl ?_
    refine J.nil ?_
    refine JQ.then_normal ?_
    -- cond1: tIs (.bool (decide ((bitsR (((n : Nat) : Int) + 1)) = b)))
    refine JC.cond (.tmp rfl) (fun hc1 => ?_) (fun hc1 => ?_)
    · try simp only [Bool.and_eq_true, Bool.or_eq_true, Bool.not_eq_true', Bool.not_eq_false', Bool.and_eq_false_iff, Bool.or_eq_false_iff, Bool.not_true, Bool.not_false, decide_eq_true_eq, decide_eq_false_iff_not, beq_iff_eq, beq_eq_false_iff_ne, Bool.not_eq_eq_eq_not] at hc1
      have hs12 := hc1
      refine JC.seq ?_
      refine JC.region ?_
      refine J.op (ot_move (.tmp rfl)) rfl (ltN rfl) rfl ?_
      refine J.op (ot_assign (.tmp rfl)) rfl (ltN rfl) rfl ?_
      refine J.op (ot_assign .is) rfl (ltN rfl) rfl ?_
      refine J.nil ?_
      refine JQ.then_normal ?_
      refine JC.ret ?_
      refine JQ.block_ret ?_
      refine JQ.then_ret ?_
      refine JQ.then_ret ?_
      refine JQ.block_ret ?_
      refine JQ.then_ret ?_
      -- ret0
      exact JQ.ret2 rfl (.tmp (.eq (.tmp rfl) (by rw [relR_at (by omega) hno hs12]))) (.tmp (.eq (.tmp rfl) (by rw [relR_at (by omega) hno hs12])))
    · try simp only [Bool.and_eq_true, Bool.or_eq_true, Bool.not_eq_true', Bool.not_eq_false', Bool.and_eq_false_iff, Bool.or_eq_false_iff, Bool.not_true, Bool.not_false, decide_eq_true_eq, decide_eq_false_iff_not, beq_iff_eq, beq_eq_false_iff_ne, Bool.not_eq_eq_eq_not] at hc1
      have hs12 := hc1
      refine JC.skip ?_
      refine JQ.block_normal ?_
      refine JQ.then_normal ?_
      refine JC.region ?_
      refine J.op (ot_move (.tmp rfl)) rfl (ltN rfl) rfl ?_
      refine J.op (ot_add (.tmp rfl) .is (w64 (by omega) (by omega))) rfl (ltN rfl) rfl ?_
      refine J.op (ot_assign (.tmp rfl)) rfl (ltN rfl) rfl ?_
      refine J.nil ?_
      exact JQ.round (n + 1) ⟨by omega, fun i hi => by rcases Nat.lt_or_ge i n with q | q; exact hno i q; rw [show i = n by omega]; exact hs12⟩ (by omega) (sub_trans (sub_heap .nil) (sub_cons (.tmp rfl) (sub_cons (.eq (.tmp rfl) (by first | rfl | (congr 3; omega) | (congr 2; omega))) (sub_nil))))
  · try simp only [Bool.and_eq_true, Bool.or_eq_true, Bool.not_eq_true', Bool.not_eq_false', Bool.and_eq_false_iff, Bool.or_eq_false_iff, Bool.not_true, Bool.not_false, decide_eq_true_eq, decide_eq_false_iff_not, beq_iff_eq, beq_eq_false_iff_ne, Bool.not_eq_eq_eq_not] at hc0
    have hs6 := hc0
    refine JC.exit ?_
    refine JQ.then_exit ?_
    refine JQ.then_exit ?_
    refine JQ.block_exit ?_
    refine JQ.then_normal ?_
    refine JC.seq ?_
    refine JC.region ?_
    refine J.op (ot_assign .is) rfl (ltN rfl) rfl ?_
    refine J.op (ot_assign .is) rfl (ltN rfl) rfl ?_
    refine J.nil ?_
    refine JQ.then_normal ?_
    refine JC.ret ?_
    -- ret1
    exact JQ.ret2 rfl (.tmp (.eq (.tmp rfl) (by rw [relR_no (by omega) hno]))) (.tmp (.eq (.tmp rfl) (by rw [relR_no (by omega) hno])))

theorem meet_c (a b : Int) : Ctr Try.prog 16 [tIs (.int .i64 (a)), tIs (.int .i64 (b))] (tTup [tIs (.int .i64 ((meetR a b).1)), tIs (.bool ((meetR a b).2))]) := by
  refine Ctr.of Try.func16 rfl Try.ntmps16 (Nat.le_of_ble_eq_true rfl) fun w0 M0 => ?_
  refine JC.seq ?_
  refine JC.region ?_
  refine J.op (ot_assign .is) rfl (ltN rfl) rfl ?_
  refine J.op (ot_assign .is) rfl (ltN rfl) rfl ?_
  refine J.nil ?_
  refine JQ.then_normal ?_
  refine JC.seq ?_
  refine JC.region ?_
  refine J.op (ot_move (.tmp rfl)) rfl (ltN rfl) rfl ?_
  refine J.op (ot_call fn22 (bits_c a ) (.cons (.tmp rfl) .nil)) rfl (ltN rfl) rfl ?_
  refine J.op (ot_move (.tmp rfl)) rfl (ltN rfl) rfl ?_
  refine J.op (ot_call fn22 (bits_c b ) (.cons (.tmp rfl) .nil)) rfl (ltN rfl) rfl ?_
  refine J.op (ot_and (.tmp rfl) (.tmp rfl) rfl) rfl (ltN rfl) rfl ?_
  refine J.op (ot_call fn27 (relation_c (bitsOf .and .i64 (bitsR a) (bitsR b)) ) (.cons (.tmp rfl) .nil)) rfl (ltN rfl) rfl ?_
  refine J.op (ot_extract (.tmp rfl) rfl) rfl (ltN rfl) rfl ?_
  refine J.op (ot_extract (.tmp rfl) rfl) rfl (ltN rfl) rfl ?_
  refine J.op (ot_assign (.tmp rfl)) rfl (ltN rfl) rfl ?_
  refine J.op (ot_assign (.tmp rfl)) rfl (ltN rfl) rfl ?_
  refine J.nil ?_
  refine JQ.then_normal ?_
  refine JC.ret ?_
  -- ret0
  exact JQ.ret2 rfl (.tmp (.eq (.tmp rfl) (by first | rfl | (congr 3; omega) | (congr 2; omega) | simp [*]))) (.tmp (.eq (.tmp rfl) (by first | rfl | (congr 3; omega) | (congr 2; omega) | simp [*])))

theorem joinrel_c (a b : Int) : Ctr Try.prog 17 [tIs (.int .i64 (a)), tIs (.int .i64 (b))] (tTup [tIs (.int .i64 ((joinR a b).1)), tIs (.bool ((joinR a b).2))]) := by
  refine Ctr.of Try.func17 rfl Try.ntmps17 (Nat.le_of_ble_eq_true rfl) fun w0 M0 => ?_
  refine JC.seq ?_
  refine JC.region ?_
  refine J.op (ot_assign .is) rfl (ltN rfl) rfl ?_
  refine J.op (ot_assign .is) rfl (ltN rfl) rfl ?_
  refine J.nil ?_
  refine JQ.then_normal ?_
  refine JC.seq ?_
  refine JC.region ?_
  refine J.op (ot_move (.tmp rfl)) rfl (ltN rfl) rfl ?_
  refine J.op (ot_call fn22 (bits_c a ) (.cons (.tmp rfl) .nil)) rfl (ltN rfl) rfl ?_
  refine J.op (ot_move (.tmp rfl)) rfl (ltN rfl) rfl ?_
  refine J.op (ot_call fn22 (bits_c b ) (.cons (.tmp rfl) .nil)) rfl (ltN rfl) rfl ?_
  refine J.op (ot_or (.tmp rfl) (.tmp rfl) rfl) rfl (ltN rfl) rfl ?_
  refine J.op (ot_call fn27 (relation_c (bitsOf .or .i64 (bitsR a) (bitsR b)) ) (.cons (.tmp rfl) .nil)) rfl (ltN rfl) rfl ?_
  refine J.op (ot_extract (.tmp rfl) rfl) rfl (ltN rfl) rfl ?_
  refine J.op (ot_extract (.tmp rfl) rfl) rfl (ltN rfl) rfl ?_
  refine J.op (ot_assign (.tmp rfl)) rfl (ltN rfl) rfl ?_
  refine J.op (ot_assign (.tmp rfl)) rfl (ltN rfl) rfl ?_
  refine J.nil ?_
  refine JQ.then_normal ?_
  refine JC.ret ?_
  -- ret0
  exact JQ.ret2 rfl (.tmp (.eq (.tmp rfl) (by first | rfl | (congr 3; omega) | (congr 2; omega) | simp [*]))) (.tmp (.eq (.tmp rfl) (by first | rfl | (congr 3; omega) | (congr 2; omega) | simp [*])))

theorem holds_c (r s : Int) : Ctr Try.prog 35 [tIs (.int .i64 (r)), tIs (.int .i64 (s))] (tIs (.bool (holdsR r s))) := by
  refine Ctr.of Try.func35 rfl Try.ntmps35 (Nat.le_of_ble_eq_true rfl) fun w0 M0 => ?_
  refine JC.seq ?_
  refine JC.region ?_
  refine J.op (ot_assign .is) rfl (ltN rfl) rfl ?_
  refine J.nil ?_
  refine JQ.then_normal ?_
  refine JC.seq ?_
  refine JC.seq ?_
  refine JC.region ?_
  refine J.op (ot_move (.tmp rfl)) rfl (ltN rfl) rfl ?_
  refine J.nil ?_
  refine JQ.then_normal ?_
  refine JC.block ?_
  refine JC.seq ?_
  refine JC.region ?_
  refine J.op (ot_eql (.tmp rfl) .is) rfl (ltN rfl) rfl ?_
  refine J.op (ot_assign (.tmp rfl)) rfl (ltN rfl) rfl ?_
  refine J.nil ?_
  refine JQ.then_normal ?_
  -- cond0: tIs (.bool (decide (r = 1)))
  refine JC.cond (.tmp rfl) (fun hc0 => ?_) (fun hc0 => ?_)
  · try simp only [Bool.and_eq_true, Bool.or_eq_true, Bool.not_eq_true', Bool.not_eq_false', Bool.and_eq_false_iff, Bool.or_eq_false_iff, Bool.not_true, Bool.not_false, decide_eq_true_eq, decide_eq_false_iff_not, beq_iff_eq, beq_eq_false_iff_ne, Bool.not_eq_eq_eq_not] at hc0
    have hs6 := hc0
    refine JC.seq ?_
    refine JC.region ?_
    refine J.op (ot_move (.tmp rfl)) rfl (ltN rfl) rfl ?_
    refine J.op (ot_lss (.tmp rfl) .is) rfl (ltN rfl) rfl ?_
    refine J.op (ot_assign (.tmp rfl)) rfl (ltN rfl) rfl ?_
    refine J.nil ?_
    refine JQ.then_normal ?_
    refine JC.ret ?_
    refine JQ.block_ret ?_
    refine JQ.then_ret ?_
    -- ret0
    exact JQ.ret1 rfl (.tmp (.eq (.tmp rfl) (by simp [holdsR, *])))
  · try simp only [Bool.and_eq_true, Bool.or_eq_true, Bool.not_eq_true', Bool.not_eq_false', Bool.and_eq_false_iff, Bool.or_eq_false_iff, Bool.not_true, Bool.not_false, decide_eq_true_eq, decide_eq_false_iff_not, beq_iff_eq, beq_eq_false_iff_ne, Bool.not_eq_eq_eq_not] at hc0
    have hs6 := hc0
    refine JC.seq ?_
    refine JC.region ?_
    refine J.op (ot_eql (.tmp rfl) .is) rfl (ltN rfl) rfl ?_
    refine J.op (ot_assign (.tmp rfl)) rfl (ltN rfl) rfl ?_
    refine J.nil ?_
    refine JQ.then_normal ?_
    -- cond1: tIs (.bool (decide (r = 2)))
    refine JC.cond (.tmp rfl) (fun hc1 => ?_) (fun hc1 => ?_)
    · try simp only [Bool.and_eq_true, Bool.or_eq_true, Bool.not_eq_true', Bool.not_eq_false', Bool.and_eq_false_iff, Bool.or_eq_false_iff, Bool.not_true, Bool.not_false, decide_eq_true_eq, decide_eq_false_iff_not, beq_iff_eq, beq_eq_false_iff_ne, Bool.not_eq_eq_eq_not] at hc1
      have hs10 := hc1
      refine JC.seq ?_
      refine JC.region ?_
      refine J.op (ot_move (.tmp rfl)) rfl (ltN rfl) rfl ?_
      refine J.op (ot_leq (.tmp rfl) .is) rfl (ltN rfl) rfl ?_
      refine J.op (ot_assign (.tmp rfl)) rfl (ltN rfl) rfl ?_
      refine J.nil ?_
      refine JQ.then_normal ?_
      refine JC.ret ?_
      refine JQ.block_ret ?_
      refine JQ.then_ret ?_
      -- ret1
      exact JQ.ret1 rfl (.tmp (.eq (.tmp rfl) (by simp [holdsR, *])))
    · try simp only [Bool.and_eq_true, Bool.or_eq_true, Bool.not_eq_true', Bool.not_eq_false', Bool.and_eq_false_iff, Bool.or_eq_false_iff, Bool.not_true, Bool.not_false, decide_eq_true_eq, decide_eq_false_iff_not, beq_iff_eq, beq_eq_false_iff_ne, Bool.not_eq_eq_eq_not] at hc1
      have hs10 := hc1
      refine JC.seq ?_
      refine JC.region ?_
      refine J.op (ot_eql (.tmp rfl) .is) rfl (ltN rfl) rfl ?_
      refine J.op (ot_assign (.tmp rfl)) rfl (ltN rfl) rfl ?_
      refine J.nil ?_
      refine JQ.then_normal ?_
      -- cond2: tIs (.bool (decide (r = 4)))
      refine JC.cond (.tmp rfl) (fun hc2 => ?_) (fun hc2 => ?_)
      · try simp only [Bool.and_eq_true, Bool.or_eq_true, Bool.not_eq_true', Bool.not_eq_false', Bool.and_eq_false_iff, Bool.or_eq_false_iff, Bool.not_true, Bool.not_false, decide_eq_true_eq, decide_eq_false_iff_not, beq_iff_eq, beq_eq_false_iff_ne, Bool.not_eq_eq_eq_not] at hc2
        have hs14 := hc2
        refine JC.seq ?_
        refine JC.region ?_
        refine J.op (ot_move (.tmp rfl)) rfl (ltN rfl) rfl ?_
        refine J.op (ot_neq (.tmp rfl) .is) rfl (ltN rfl) rfl ?_
        refine J.op (ot_assign (.tmp rfl)) rfl (ltN rfl) rfl ?_
        refine J.nil ?_
        refine JQ.then_normal ?_
        refine JC.ret ?_
        refine JQ.block_ret ?_
        refine JQ.then_ret ?_
        -- ret2
        exact JQ.ret1 rfl (.tmp (.eq (.tmp rfl) (by simp [holdsR, *])))
      · try simp only [Bool.and_eq_true, Bool.or_eq_true, Bool.not_eq_true', Bool.not_eq_false', Bool.and_eq_false_iff, Bool.or_eq_false_iff, Bool.not_true, Bool.not_false, decide_eq_true_eq, decide_eq_false_iff_not, beq_iff_eq, beq_eq_false_iff_ne, Bool.not_eq_eq_eq_not] at hc2
        have hs14 := hc2
        refine JC.seq ?_
        refine JC.region ?_
        refine J.op (ot_eql (.tmp rfl) .is) rfl (ltN rfl) rfl ?_
        refine J.op (ot_assign (.tmp rfl)) rfl (ltN rfl) rfl ?_
        refine J.nil ?_
        refine JQ.then_normal ?_
        -- cond3: tIs (.bool (decide (r = 5)))
        refine JC.cond (.tmp rfl) (fun hc3 => ?_) (fun hc3 => ?_)
        · try simp only [Bool.and_eq_true, Bool.or_eq_true, Bool.not_eq_true', Bool.not_eq_false', Bool.and_eq_false_iff, Bool.or_eq_false_iff, Bool.not_true, Bool.not_false, decide_eq_true_eq, decide_eq_false_iff_not, beq_iff_eq, beq_eq_false_iff_ne, Bool.not_eq_eq_eq_not] at hc3
          have hs18 := hc3
          refine JC.seq ?_
          refine JC.region ?_
          refine J.op (ot_move (.tmp rfl)) rfl (ltN rfl) rfl ?_
          refine J.op (ot_geq (.tmp rfl) .is) rfl (ltN rfl) rfl ?_
          refine J.op (ot_assign (.tmp rfl)) rfl (ltN rfl) rfl ?_
          refine J.nil ?_
          refine JQ.then_normal ?_
          refine JC.ret ?_
          refine JQ.block_ret ?_
          refine JQ.then_ret ?_
          -- ret3
          exact JQ.ret1 rfl (.tmp (.eq (.tmp rfl) (by simp [holdsR, *])))
        · try simp only [Bool.and_eq_true, Bool.or_eq_true, Bool.not_eq_true', Bool.not_eq_false', Bool.and_eq_false_iff, Bool.or_eq_false_iff, Bool.not_true, Bool.not_false, decide_eq_true_eq, decide_eq_false_iff_not, beq_iff_eq, beq_eq_false_iff_ne, Bool.not_eq_eq_eq_not] at hc3
          have hs18 := hc3
          refine JC.seq ?_
          refine JC.region ?_
          refine J.op (ot_eql (.tmp rfl) .is) rfl (ltN rfl) rfl ?_
          refine J.op (ot_assign (.tmp rfl)) rfl (ltN rfl) rfl ?_
          refine J.nil ?_
          refine JQ.then_normal ?_
          -- cond4: tIs (.bool (decide (r = 6)))
          refine JC.cond (.tmp rfl) (fun hc4 => ?_) (fun hc4 => ?_)
          · try simp only [Bool.and_eq_true, Bool.or_eq_true, Bool.not_eq_true', Bool.not_eq_false', Bool.and_eq_false_iff, Bool.or_eq_false_iff, Bool.not_true, Bool.not_false, decide_eq_true_eq, decide_eq_false_iff_not, beq_iff_eq, beq_eq_false_iff_ne, Bool.not_eq_eq_eq_not] at hc4
            have hs22 := hc4
            refine JC.seq ?_
            refine JC.region ?_
            refine J.op (ot_move (.tmp rfl)) rfl (ltN rfl) rfl ?_
            refine J.op (ot_gtr (.tmp rfl) .is) rfl (ltN rfl) rfl ?_
            refine J.op (ot_assign (.tmp rfl)) rfl (ltN rfl) rfl ?_
            refine J.nil ?_
            refine JQ.then_normal ?_
            refine JC.ret ?_
            refine JQ.block_ret ?_
            refine JQ.then_ret ?_
            -- ret4
            exact JQ.ret1 rfl (.tmp (.eq (.tmp rfl) (by simp [holdsR, *])))
          · try simp only [Bool.and_eq_true, Bool.or_eq_true, Bool.not_eq_true', Bool.not_eq_false', Bool.and_eq_false_iff, Bool.or_eq_false_iff, Bool.not_true, Bool.not_false, decide_eq_true_eq, decide_eq_false_iff_not, beq_iff_eq, beq_eq_false_iff_ne, Bool.not_eq_eq_eq_not] at hc4
            have hs22 := hc4
            refine JC.skip ?_
            refine JQ.block_normal ?_
            refine JQ.then_normal ?_
            refine JC.seq ?_
            refine JC.region ?_
            refine J.op (ot_move (.tmp rfl)) rfl (ltN rfl) rfl ?_
            refine J.op (ot_eql (.tmp rfl) .is) rfl (ltN rfl) rfl ?_
            refine J.op (ot_assign (.tmp rfl)) rfl (ltN rfl) rfl ?_
            refine J.nil ?_
            refine JQ.then_normal ?_
            refine JC.ret ?_
            -- ret5
            exact JQ.ret1 rfl (.tmp (.eq (.tmp rfl) (by simp [holdsR, *])))

theorem permits_c (r s : Int) : Ctr Try.prog 15 [tIs (.int .i64 (r)), tIs (.int .i64 (s))] (tIs (.bool (holdsR r s))) := by
  refine Ctr.of Try.func15 rfl Try.ntmps15 (Nat.le_of_ble_eq_true rfl) fun w0 M0 => ?_
  refine JC.seq ?_
  refine JC.region ?_
  refine J.op (ot_assign .is) rfl (ltN rfl) rfl ?_
  refine J.nil ?_
  refine JQ.then_normal ?_
  refine JC.seq ?_
  refine JC.region ?_
  refine J.op (ot_move (.tmp rfl)) rfl (ltN rfl) rfl ?_
  refine J.op (ot_move (.tmp rfl)) rfl (ltN rfl) rfl ?_
  refine J.op (ot_call fn35 (holds_c r s ) (.cons (.tmp rfl) (.cons (.tmp rfl) .nil))) rfl (ltN rfl) rfl ?_
  refine J.op (ot_assign (.tmp rfl)) rfl (ltN rfl) rfl ?_
  refine J.nil ?_
  refine JQ.then_normal ?_
  refine JC.ret ?_
  -- ret0
  exact JQ.ret1 rfl (.tmp (.tmp rfl))

theorem polys1_c {B : Nat} (m : Mx) (hk : m.kind = 2) (hf : Fit B m.poly) (hb : B ≤ 1000000000000) (hn : m.poly.lv ≤ 0 ∨ 4 < m.poly.lv ∨ canonB m.poly 5 = true) : Ctr Try.prog 37 [tV encM (m)] (tSl encP ([normC m.poly])) := by
  refine Ctr.of Try.func37 rfl Try.ntmps37 (Nat.le_of_ble_eq_true rfl) fun w0 M0 => ?_
  refine JC.seq ?_
  refine JC.region ?_
  refine J.boxF (Ts := [tIs (.int .i64 (m.kind)), tIs (.int .i64 (m.rel)), tIs (.int .i64 (m.poly.lv)), tIs (.bool (m.poly.c.neg)), tSl encD (m.poly.c.abs), tSl encP (m.poly.cs), tSl encM (m.kids)]) (.tmp rfl) (mxT_eq _) (ltN rfl) fun b1 => ?_
  refine J.op (ot_assign (.nil (E := encP))) rfl (ltN rfl) rfl ?_
  refine J.nil ?_
  refine JQ.then_normal ?_
  refine JC.seq ?_
  refine JC.region ?_
  refine J.op (ot_assign .is) rfl (ltN rfl) rfl ?_
  refine J.nil ?_
  refine JQ.then_normal ?_
  refine JC.seq ?_
  refine JC.seq ?_
  refine JC.region ?_
  refine J.op (ot_fieldAddr_own (.tmp rfl) fd37_0) rfl (ltN rfl) rfl ?_
  refine J.op (ot_load_own (.tmp rfl) (.head _) sc3 (cTs_ld rfl)) rfl (ltN rfl) rfl ?_
  refine J.nil ?_
  refine JQ.then_normal ?_
  refine JC.block ?_
  refine JC.seq ?_
  refine JC.region ?_
  refine J.op (ot_eql (.tmp rfl) .is) rfl (ltN rfl) rfl ?_
  refine J.op (ot_assign (.tmp rfl)) rfl (ltN rfl) rfl ?_
  refine J.nil ?_
  refine JQ.then_normal ?_
  refine JC.cond_true (.eq (.tmp rfl) (by rw [decide_eq_true hk])) ?_
  refine JC.region ?_
  refine J.op (ot_move (.tmp rfl)) rfl (ltN rfl) rfl ?_
  refine J.op (ot_fieldAddr_own (.tmp rfl) fd37_2) rfl (ltN rfl) rfl ?_
  refine J.op (ot_load_own_agg (.tmp rfl) (.head _) ag28 (cTs_ldV (g := polT) (y := m.poly) (polT_eq m.poly).symm rfl)) rfl (ltN rfl) rfl ?_
  refine J.op (ot_call fn29 (rnormal_c m.poly (by assumption) (by assumption) (by assumption)) (.cons (.tmp rfl) .nil)) rfl (ltN rfl) rfl ?_
  refine J.op (ot_buildSlice (E := encP) (zs := [normC m.poly]) sl26 (.cons (.tmp rfl) .nil) rfl zr28 rfl (by decide) (by decide)) rfl (ltN rfl) rfl ?_
  refine J.append0 (E := encP) (ys := [normC m.poly]) (.sub (.tmp rfl) nil_z) (.tmp rfl) (by simp) sl26 rfl zr28 rfl (by simp <;> omega) (by simp <;> omega) (ltN rfl) fun b15 c15 => ?_
  refine J.op (ot_assign (.tmp rfl)) rfl (ltN rfl) rfl ?_
  refine J.nil ?_
  refine JQ.block_normal ?_
  refine JQ.then_normal ?_
  refine JC.seq ?_
  refine JC.weak (sub_freeze0 (E := encP) (xs := [normC m.poly]) (n := ([normC m.poly]).length) (c := c15) [3, 15] ⟨rfl, rfl, trivial⟩ .here rfl (by omega)) ?_
  refine JC.region ?_
  refine J.op (ot_move (.tmp rfl)) rfl (ltN rfl) rfl ?_
  refine J.op (ot_assign (.tmp rfl)) rfl (ltN rfl) rfl ?_
  refine J.nil ?_
  refine JQ.then_normal ?_
  refine JC.ret ?_
  -- ret0
  exact JQ.ret1 rfl (.tmp (.tmp rfl))

theorem atoms1_c {B : Nat} (m : Mx) (hk : m.kind = 2) (hf : Fit B m.poly) (hb : B ≤ 1000000000000) (hn : m.poly.lv ≤ 0 ∨ 4 < m.poly.lv ∨ canonB m.poly 5 = true) : Ctr Try.prog 20 [tV encM (m)] (tIs (.int .i64 (1))) := by
  refine Ctr.of Try.func20 rfl Try.ntmps20 (Nat.le_of_ble_eq_true rfl) fun w0 M0 => ?_
  refine JC.seq ?_
  refine JC.region ?_
  refine J.boxF (Ts := [tIs (.int .i64 (m.kind)), tIs (.int .i64 (m.rel)), tIs (.int .i64 (m.poly.lv)), tIs (.bool (m.poly.c.neg)), tSl encD (m.poly.c.abs), tSl encP (m.poly.cs), tSl encM (m.kids)]) (.tmp rfl) (mxT_eq _) (ltN rfl) fun b1 => ?_
  refine J.op (ot_assign .is) rfl (ltN rfl) rfl ?_
  refine J.nil ?_
  refine JQ.then_normal ?_
  refine JC.seq ?_
  refine JC.region ?_
  refine J.op (ot_load_own_agg (.tmp rfl) (.head _) ag37 (cTs_ldV (g := mxT) (y := m) (mxT_eq m).symm rfl)) rfl (ltN rfl) rfl ?_
  refine J.op (ot_call fn37 (polys1_c m (by assumption) (by assumption) (by assumption) (by assumption)) (.cons (.tmp rfl) .nil)) rfl (ltN rfl) rfl ?_
  refine J.op (ot_len (.tmp rfl) sl26 rfl) rfl (ltN rfl) rfl ?_
  refine J.op (ot_assign (.tmp rfl)) rfl (ltN rfl) rfl ?_
  refine J.nil ?_
  refine JQ.then_normal ?_
  refine JC.ret ?_
  -- ret0
  exact JQ.ret1 rfl (.tmp (.eq (.tmp rfl) (by rfl)))

theorem clipO_c (b n c : Nat) (h : n ≤ c) : Ctr Try.prog 61 [sIs b 0 (n) (c)] (sIs b 0 (n) (n)) := by
  refine Ctr.of Try.func61 rfl Try.ntmps61 (Nat.le_of_ble_eq_true rfl) fun w0 M0 => ?_
  refine JC.seq ?_
  refine JC.region ?_
  refine J.op (ot_assign (.nil (E := encTm))) rfl (ltN rfl) rfl ?_
  refine J.nil ?_
  refine JQ.then_normal ?_
  refine JC.seq ?_
  refine JC.region ?_
  refine J.op (ot_move (.tmp rfl)) rfl (ltN rfl) rfl ?_
  refine J.op (ot_move (.tmp rfl)) rfl (ltN rfl) rfl ?_
  refine J.op (ot_len_own (.tmp rfl) sl65 rfl) rfl (ltN rfl) rfl ?_
  refine J.op (ot_move (.tmp rfl)) rfl (ltN rfl) rfl ?_
  refine J.op (ot_len_own (.tmp rfl) sl65 rfl) rfl (ltN rfl) rfl ?_
  refine J.op (ot_slice3_own (h := n) (m := n) (kh := .i64) (km := .i64) (.tmp rfl) sl65 (.eq (.tmp rfl) rfl) (.eq (.tmp rfl) rfl) (Nat.le_refl _) h) rfl (ltN rfl) rfl ?_
  refine J.op (ot_assign (.tmp rfl)) rfl (ltN rfl) rfl ?_
  refine J.nil ?_
  refine JQ.then_normal ?_
  refine JC.ret ?_
  -- ret0
  exact JQ.ret1 rfl (.tmp (.tmp rfl))

end Go.Proofs.Ytkpmcldbcljkfaa
