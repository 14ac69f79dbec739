/- Walks through the program: each function called at values of the kinds that its contract names returns what the contract says. Conditions: those in the contracts. Written by the program wip/gen. -/
import Derived.Test.YtkpmcldbcljkfaaW3
set_option linter.unusedVariables false
set_option linter.unusedSimpArgs false
set_option maxRecDepth 100000
namespace Go.Proofs.Ytkpmcldbcljkfaa
open Go Go.RowKit Go.Rt
theorem normO_c {B : Nat} (ts : List Tm) (hl : ts.length < 20) (hd : ∀ t ∈ ts, Digs t.coef.abs) (hz : ∀ t ∈ ts, t.coef.abs.length ≤ B) (hb : B ≤ 1000000000000) (hne : normS ts ≠ []) : CtrO Try.prog 39 [tSl encTm (ts)] 63 ((normS ts).length) (fun cap => cRow encTm (normS ts) cap) := by
  have hkl := keepT_len ts
  have hsl := sortT_len (keepT ts)
  have hm : ∀ t ∈ sortT (keepT ts), t ∈ ts := fun t h => (List.mem_filter.1 (sortT_mem t h)).1
  refine CtrO.of Try.func39 rfl Try.ntmps39 (Nat.le_of_ble_eq_true rfl) fun w0 M0 => ?_
  refine JC.seq ?_
  refine JC.region ?_
  refine J.op (ot_assign (.nil (E := encTm))) rfl (ltN rfl) rfl ?_
  refine J.nil ?_
  refine JQ.then_normal ?_
  refine JC.seq ?_
  refine JC.region ?_
  refine J.op (ot_assign .is) rfl (ltN rfl) rfl ?_
  refine J.nil ?_
  refine JQ.then_normal ?_
  refine JC.seq ?_
  refine JC.seq ?_
  refine JC.region ?_
  refine J.op (ot_move (.tmp rfl)) rfl (ltN rfl) rfl ?_
  refine J.op (ot_len (.tmp rfl) sl65 rfl) rfl (ltN rfl) rfl ?_
  refine J.op (ot_move .is) rfl (ltN rfl) rfl ?_
  refine J.nil ?_
  refine JQ.then_normal ?_
  refine JC.block ?_
  refine JC.loop4 (α := Bool) (β := Nat) (γ := Nat) (δ := Nat) (fun e k b c => bif e then [(2, tSl encTm ([])), (3, tIs (.slice none 0 0)), (9, tSl encTm (ts)), (10, tIs (.int .i64 (((ts).length : Int)))), (11, tIs (.int .i64 (((k : Nat) : Int))))] else [(2, tSl encTm ([])), (3, sIs b 0 ((keepT (ts.take k)).length) (c)), (9, tSl encTm (ts)), (10, tIs (.int .i64 (((ts).length : Int)))), (11, tIs (.int .i64 (((k : Nat) : Int))))]) (fun e k b c => bif e then [] else [⟨b, 63, cRow encTm (keepT (ts.take k)) (c)⟩]) (fun e k b c => k ≤ ts.length ∧ (e = true → keepT (ts.take k) = [])) (fun e k b c => ts.length - k) true 0 0 0 ⟨by omega, fun _ => rfl⟩ ?lsub0 ?round0
  case lsub0 => exact sub_trans (sub_heap .nil) (sub_cons (.tmp rfl) (sub_cons (.tmp rfl) (sub_cons (.tmp rfl) (sub_cons (.tmp rfl) (sub_cons (.eq (.tmp rfl) (by first | rfl | (congr 3; omega) | (congr 2; omega))) (sub_nil))))))
  intro e k b c hinv
  rcases e with _ | _
  · change JC _ _ _ [(2, tSl encTm ([])), (3, sIs b 0 ((keepT (ts.take k)).length) (c)), (9, tSl encTm (ts)), (10, tIs (.int .i64 (((ts).length : Int)))), (11, tIs (.int .i64 (((k : Nat) : Int))))] [⟨b, 63, cRow encTm (keepT (ts.take k)) (c)⟩]
    obtain ⟨hk, he⟩ := hinv
    have hkk := keepT_len (ts.take k)
    rw [List.length_take] at hkk
    refine JC.seq ?_
    refine JC.region ?_
    refine J.op (ot_lss (.tmp rfl) (.tmp rfl)) rfl (ltN rfl) rfl ?_
    refine J.nil ?_
    refine JQ.then_normal ?_
    refine JC.seq ?_
    -- cond0: tIs (.bool (decide (((k : Nat) : Int) < ((ts).length : Int))))
    refine JC.cond (.tmp rfl) (fun hc0 => ?_) (fun hc0 => ?_)
    · try simp only [Bool.and_eq_true, Bool.or_eq_true, Bool.not_eq_true', Bool.not_eq_false', Bool.and_eq_false_iff, Bool.or_eq_false_iff, Bool.not_true, Bool.not_false, decide_eq_true_eq, decide_eq_false_iff_not, beq_iff_eq, beq_eq_false_iff_ne, Bool.not_eq_eq_eq_not] at hc0
      have hs12 := hc0
      refine JC.skip ?_
      refine JQ.then_normal ?_
      refine JC.seq ?_
      refine JC.block ?_
      refine JC.seq ?_
      refine JC.region ?_
      refine J.op (ot_index (z := atT ts k) (.tmp rfl) (.tmp rfl) sl65 (by omega) (atT_at (by omega) (by omega))) rfl (ltN rfl) rfl ?_
      refine J.op (ot_load_agg (.tmp rfl) ag63 ldp_whole) rfl (ltN rfl) rfl ?_
      refine J.alloc (R := cTs [tIs (.bool (false)), tSl encD ([]), tIs (.int .i64 (0)), tIs (.int .i64 (0)), tIs (.int .i64 (0)), tIs (.int .i64 (0))]) zr63 (fun _ => ⟨rfl, rfl, slP_nil _ _, rfl, rfl, rfl, rfl, rfl, rfl, rfl, rfl, rfl, trivial⟩) (ltN rfl) fun b5 => ?_
      refine J.store (.tmp rfl) (.eq (.tmp rfl) (tV_F (Ts := [tIs (.bool (((atT ts k).coef).neg)), tSl encD (((atT ts k).coef).abs), tIs (.int .i64 (((atT ts k).exp).a)), tIs (.int .i64 (((atT ts k).exp).b)), tIs (.int .i64 (((atT ts k).exp).c)), tIs (.int .i64 (((atT ts k).exp).d))]) rfl)) .here sz63 (st_agg (Ts' := [tIs (.bool (((atT ts k).coef).neg)), tSl encD (((atT ts k).coef).abs), tIs (.int .i64 (((atT ts k).exp).a)), tIs (.int .i64 (((atT ts k).exp).b)), tIs (.int .i64 (((atT ts k).exp).c)), tIs (.int .i64 (((atT ts k).exp).d))]) (o := 0) rfl) ?_
      refine J.nil ?_
      refine JQ.then_normal ?_
      refine JC.seq ?_
      refine JC.weak (sub_freezeP (R' := cEnc encTm (atT ts k)) [5] ⟨rfl, trivial⟩ .here (cTs_F (f := tmT) (x := atT ts k) rfl rfl)) ?_
      refine JC.region ?_
      refine J.op (ot_fieldAddr (R' := cDrop (cEnc encTm (atT ts k)) 2) (.tmp rfl) fd63_1 (fun _ _ h => cDrop_mk h)) rfl (ltN rfl) rfl ?_
      refine J.op (ot_sliceA (.tmp rfl) ar4_61 tm_exp) rfl (ltN rfl) rfl ?_
      refine J.op (ot_call fn57 (min_c ((atT ts k).exp.list) (by simp [Mo.list])) (.cons (.tmp rfl) .nil)) rfl (ltN rfl) rfl ?_
      refine J.op (ot_geq (.tmp rfl) .is) rfl (ltN rfl) rfl ?_
      refine J.nil ?_
      refine JQ.then_normal ?_
      -- cond1: tIs (.bool (decide (0 ≤ (minL (atN ((atT ts k).exp.list) 0) (((atT ts k).exp.list).drop 1)))))
      refine JC.cond (.tmp rfl) (fun hc1 => ?_) (fun hc1 => ?_)
      · try simp only [Bool.and_eq_true, Bool.or_eq_true, Bool.not_eq_true', Bool.not_eq_false', Bool.and_eq_false_iff, Bool.or_eq_false_iff, Bool.not_true, Bool.not_false, decide_eq_true_eq, decide_eq_false_iff_not, beq_iff_eq, beq_eq_false_iff_ne, Bool.not_eq_eq_eq_not] at hc1
        have hs18 := hc1
        refine JC.region ?_
        refine J.op (ot_move (.tmp rfl)) rfl (ltN rfl) rfl ?_
        refine J.op (ot_load_agg (.tmp rfl) ag63 ldp_whole) rfl (ltN rfl) rfl ?_
        refine J.op (ot_buildSlice (E := encTm) (zs := [atT ts k]) sl65 (.cons (.tmp rfl) .nil) rfl zr63 rfl (by decide) (by decide)) rfl (ltN rfl) rfl ?_
        refine J.append (E := encTm) (xs := keepT (ts.take k)) (ys := [atT ts k]) (.tmp rfl) rfl (.tmp rfl) sl65 rfl zr63 rfl .here (by simp <;> omega) (by simp <;> omega) (ltN rfl) fun b22 c22 => ?_
        refine J.op (ot_assign (.tmp rfl)) rfl (ltN rfl) rfl ?_
        refine J.nil ?_
        refine JQ.block_normal ?_
        refine JQ.then_normal ?_
        refine JC.region ?_
        refine J.op (ot_add (.tmp rfl) .is (w64 (by omega) (by omega))) rfl (ltN rfl) rfl ?_
        refine J.op (ot_move (.tmp rfl)) rfl (ltN rfl) rfl ?_
        refine J.nil ?_
        have hyes := keepT_yes (show k < ts.length by omega) (okT_iff.2 hs18)
        exact JQ.round4 (i := false) (i2 := k) (i3 := b) (i4 := c) false (k + 1) b22 c22 ⟨by omega, fun h => by cases h⟩ (by omega) (sub_trans (sub_heap (.keep (cRow_eq hyes) .nil)) (sub_cons (.tmp rfl) (sub_cons (.eq (.tmp rfl) (by rw [hyes])) (sub_cons (.tmp rfl) (sub_cons (.tmp rfl) (sub_cons (.eq (.tmp rfl) (by first | rfl | (congr 3; omega) | (congr 2; omega))) (sub_nil)))))))
      · try simp only [Bool.and_eq_true, Bool.or_eq_true, Bool.not_eq_true', Bool.not_eq_false', Bool.and_eq_false_iff, Bool.or_eq_false_iff, Bool.not_true, Bool.not_false, decide_eq_true_eq, decide_eq_false_iff_not, beq_iff_eq, beq_eq_false_iff_ne, Bool.not_eq_eq_eq_not] at hc1
        have hs18 := hc1
        refine JC.skip ?_
        refine JQ.block_normal ?_
        refine JQ.then_normal ?_
        refine JC.region ?_
        refine J.op (ot_add (.tmp rfl) .is (w64 (by omega) (by omega))) rfl (ltN rfl) rfl ?_
        refine J.op (ot_move (.tmp rfl)) rfl (ltN rfl) rfl ?_
        refine J.nil ?_
        have hno := keepT_no (show k < ts.length by omega) (fun h => hs18 (okT_iff.1 h))
        exact JQ.round4 (i := false) (i2 := k) (i3 := b) (i4 := c) false (k + 1) b c ⟨by omega, fun h => by cases h⟩ (by omega) (sub_trans (sub_heap (.keep (cRow_eq hno) .nil)) (sub_cons (.tmp rfl) (sub_cons (.eq (.tmp rfl) (by rw [hno])) (sub_cons (.tmp rfl) (sub_cons (.tmp rfl) (sub_cons (.eq (.tmp rfl) (by first | rfl | (congr 3; omega) | (congr 2; omega))) (sub_nil)))))))
    · try simp only [Bool.and_eq_true, Bool.or_eq_true, Bool.not_eq_true', Bool.not_eq_false', Bool.and_eq_false_iff, Bool.or_eq_false_iff, Bool.not_true, Bool.not_false, decide_eq_true_eq, decide_eq_false_iff_not, beq_iff_eq, beq_eq_false_iff_ne, Bool.not_eq_eq_eq_not] at hc0
      have hs12 := hc0
      have hkt : keepT (ts.take k) = keepT ts := by rw [List.take_of_length_le (by omega)]
      refine JC.exit ?_
      refine JQ.then_exit ?_
      refine JQ.then_exit ?_
      refine JQ.block_exit ?_
      refine JQ.then_normal ?_
      refine JC.seq ?_
      refine JC.region ?_
      refine J.op (ot_move (.tmp rfl)) rfl (ltN rfl) rfl ?_
      refine J.callL (R' := cRow encTm (sortT (keepT (ts.take k))) (c)) (Us := []) (cap := []) fn58 (.func (fun _ => rfl)) (sort_c b c (keepT (ts.take k)) (by omega)) (.cons (.tmp rfl) (.cons (.func (fun _ => rfl)) .nil)) (fun _ => trivial) .here (ltN rfl) ?_
      refine J.nil ?_
      refine JQ.then_normal ?_
      refine JC.seq ?_
      refine JC.weak (sub_freeze0 (E := encTm) (xs := sortT (keepT (ts.take k))) (n := (keepT (ts.take k)).length) (c := c) [24, 3] ⟨rfl, rfl, trivial⟩ .here (by rw [sortT_len]) (by omega)) ?_
      refine JC.region ?_
      refine J.op (ot_assign .is) rfl (ltN rfl) rfl ?_
      refine J.nil ?_
      refine JQ.then_normal ?_
      refine JC.seq ?_
      refine JC.seq ?_
      refine JC.region ?_
      refine J.op (ot_assign .is) rfl (ltN rfl) rfl ?_
      refine J.nil ?_
      refine JQ.then_normal ?_
      refine JC.block ?_
      refine JC.loop5 (α := Bool) (β := Nat) (γ := List Tm) (δ := Nat) (ε := Nat) (fun e i O b c => bif e then [(2, tSl encTm ([])), (3, tSl encTm ((sortT (keepT ts)))), (6, tIs (.slice none 0 0)), (7, tIs (.int .i64 (((i : Nat) : Int))))] else [(2, tSl encTm ([])), (3, tSl encTm ((sortT (keepT ts)))), (6, sIs b 0 (O.length) (c)), (7, tIs (.int .i64 (((i : Nat) : Int))))]) (fun e i O b c => bif e then [] else [⟨b, 63, cRow encTm (O) (c)⟩]) (fun e i O b c => i ≤ (sortT (keepT ts)).length ∧ O ++ mergeT ((sortT (keepT ts)).drop i) = mergeT (sortT (keepT ts)) ∧ O.length ≤ i ∧ (e = true → O = [])) (fun e i O b c => (sortT (keepT ts)).length - i) true 0 ([]) 0 0 ⟨by omega, by simp, by simp, fun _ => rfl⟩ ?lsub1 ?round1
      case lsub1 => exact sub_trans (sub_heap .nil) (sub_cons (.tmp rfl) (sub_cons (.eq (.tmp rfl) (by rw [hkt])) (sub_cons (.tmp rfl) (sub_cons (.eq (.tmp rfl) (by first | rfl | (congr 3; omega) | (congr 2; omega))) (sub_nil)))))
      intro e i O b c hinv
      rcases e with _ | _
      · change JC _ _ _ [(2, tSl encTm ([])), (3, tSl encTm ((sortT (keepT ts)))), (6, sIs b 0 (O.length) (c)), (7, tIs (.int .i64 (((i : Nat) : Int))))] [⟨b, 63, cRow encTm (O) (c)⟩]
        obtain ⟨hi, hO, hOl, hOe⟩ := hinv
        refine JC.seq ?_
        refine JC.seq ?_
        refine JC.region ?_
        refine J.op (ot_move (.tmp rfl)) rfl (ltN rfl) rfl ?_
        refine J.op (ot_move (.tmp rfl)) rfl (ltN rfl) rfl ?_
        refine J.op (ot_len (.tmp rfl) sl65 rfl) rfl (ltN rfl) rfl ?_
        refine J.op (ot_lss (.tmp rfl) (.tmp rfl)) rfl (ltN rfl) rfl ?_
        refine J.nil ?_
        refine JQ.then_normal ?_
        -- cond2: tIs (.bool (decide (((i : Nat) : Int) < (((sortT (keepT ts))).length : Int))))
        refine JC.cond (.tmp rfl) (fun hc2 => ?_) (fun hc2 => ?_)
        · try simp only [Bool.and_eq_true, Bool.or_eq_true, Bool.not_eq_true', Bool.not_eq_false', Bool.and_eq_false_iff, Bool.or_eq_false_iff, Bool.not_true, Bool.not_false, decide_eq_true_eq, decide_eq_false_iff_not, beq_iff_eq, beq_eq_false_iff_ne, Bool.not_eq_eq_eq_not] at hc2
          have hs29 := hc2
          refine JC.skip ?_
          refine JQ.then_normal ?_
          refine JC.block ?_
          refine JC.seq ?_
          refine JC.region ?_
          refine J.op (ot_move (.tmp rfl)) rfl (ltN rfl) rfl ?_
          refine J.op (ot_move (.tmp rfl)) rfl (ltN rfl) rfl ?_
          refine J.op (ot_index (z := atT (sortT (keepT ts)) i) (.tmp rfl) (.tmp rfl) sl65 (by omega) (atT_at (by omega) (by omega))) rfl (ltN rfl) rfl ?_
          refine J.op (ot_fieldAddr (R' := cDrop (cEnc encTm (atT (sortT (keepT ts)) i)) 2) (.tmp rfl) fd63_1 (fun _ _ h => cDrop_mk h)) rfl (ltN rfl) rfl ?_
          refine J.op (ot_load_agg (.tmp rfl) ag61 (ldFV (g := moT) (y := (atT (sortT (keepT ts)) i).exp) rfl rfl)) rfl (ltN rfl) rfl ?_
          refine J.op (ot_eqt (T' := tV encTm (Tm.mk (Z.mk (false) ([])) ((atT (sortT (keepT ts)) i).exp))) (ot_build (Ts := [tIs (.bool (false)), tSl encD ([]), tIs (.int .i64 (0)), tIs (.int .i64 (0)), tIs (.int .i64 (0)), tIs (.int .i64 (0))]) pl63 (fun _ => ⟨rfl, rfl, slP_nil _ _, rfl, rfl, rfl, rfl, rfl, rfl, rfl, rfl, rfl, trivial⟩) ((.agg (off := 2) rfl (.eq (.tmp rfl) (tV_F (Ts := [tIs (.int .i64 (((atT (sortT (keepT ts)) i).exp).a)), tIs (.int .i64 (((atT (sortT (keepT ts)) i).exp).b)), tIs (.int .i64 (((atT (sortT (keepT ts)) i).exp).c)), tIs (.int .i64 (((atT (sortT (keepT ts)) i).exp).d))]) rfl)) (Ts' := [tIs (.bool (false)), tSl encD ([]), tIs (.int .i64 (((atT (sortT (keepT ts)) i).exp).a)), tIs (.int .i64 (((atT (sortT (keepT ts)) i).exp).b)), tIs (.int .i64 (((atT (sortT (keepT ts)) i).exp).c)), tIs (.int .i64 (((atT (sortT (keepT ts)) i).exp).d))]) rfl rfl .nil)) rfl) (tV_F' rfl)) rfl (ltN rfl) rfl ?_
          refine J.alloc (R := cTs [tIs (.bool (false)), tSl encD ([]), tIs (.int .i64 (0)), tIs (.int .i64 (0)), tIs (.int .i64 (0)), tIs (.int .i64 (0))]) zr63 (fun _ => ⟨rfl, rfl, slP_nil _ _, rfl, rfl, rfl, rfl, rfl, rfl, rfl, rfl, rfl, trivial⟩) (ltN rfl) fun b8 => ?_
          refine J.store (.tmp rfl) (.eq (.tmp rfl) (tV_F (Ts := [tIs (.bool (false)), tSl encD ([]), tIs (.int .i64 (((atT (sortT (keepT ts)) i).exp).a)), tIs (.int .i64 (((atT (sortT (keepT ts)) i).exp).b)), tIs (.int .i64 (((atT (sortT (keepT ts)) i).exp).c)), tIs (.int .i64 (((atT (sortT (keepT ts)) i).exp).d))]) rfl)) .here sz63 (st_agg (Ts' := [tIs (.bool (false)), tSl encD ([]), tIs (.int .i64 (((atT (sortT (keepT ts)) i).exp).a)), tIs (.int .i64 (((atT (sortT (keepT ts)) i).exp).b)), tIs (.int .i64 (((atT (sortT (keepT ts)) i).exp).c)), tIs (.int .i64 (((atT (sortT (keepT ts)) i).exp).d))]) (o := 0) rfl) ?_
          refine J.nil ?_
          refine JQ.then_normal ?_
          refine JC.seq ?_
          refine JC.block ?_
          refine JC.loop2 (α := Nat) (β := Int) (fun j q => [(2, tSl encTm ([])), (3, tSl encTm ((sortT (keepT ts)))), (6, sIs b 0 (O.length) (c)), (7, tIs (.int .i64 (((j : Nat) : Int)))), (8, pOwn b8 (0)), (26, tIs (.int .i64 (((i : Nat) : Int)))), (27, tSl encTm ((sortT (keepT ts)))), (28, tIs (.int .i64 ((((sortT (keepT ts))).length : Int)))), (29, tIs (.bool (decide (((i : Nat) : Int) < (((sortT (keepT ts))).length : Int))))), (30, tSl encTm ((sortT (keepT ts)))), (31, tIs (.int .i64 (((i : Nat) : Int)))), (32, tPtr (cEnc encTm (atT (sortT (keepT ts)) i))), (33, tPtr (cDrop (cEnc encTm (atT (sortT (keepT ts)) i)) 2)), (34, tV encMo ((atT (sortT (keepT ts)) i).exp)), (35, tV encTm (Tm.mk (Z.mk (false) ([])) ((atT (sortT (keepT ts)) i).exp)))]) (fun j q => [⟨b8, 63, cTs [tIs (.bool ((ofI q).neg)), tSl encD ((ofI q).abs), tIs (.int .i64 (((atT (sortT (keepT ts)) i).exp).a)), tIs (.int .i64 (((atT (sortT (keepT ts)) i).exp).b)), tIs (.int .i64 (((atT (sortT (keepT ts)) i).exp).c)), tIs (.int .i64 (((atT (sortT (keepT ts)) i).exp).d))]⟩, ⟨b, 63, cRow encTm (O) (c)⟩]) (fun j q => i ≤ j ∧ j ≤ (sortT (keepT ts)).length ∧ sumRun (atT (sortT (keepT ts)) i).exp q ((sortT (keepT ts)).drop j) = sumRun (atT (sortT (keepT ts)) i).exp 0 ((sortT (keepT ts)).drop i) ∧ q.natAbs ≤ j * B32 ^ B) (fun j q => (sortT (keepT ts)).length - j) i 0 ⟨by omega, by omega, rfl, by simp⟩ ?lsub2 ?round2
          case lsub2 => exact sub_trans (sub_heap (.keep (fun _ _ h => by rw [ofI_zero]; exact h) (.keep (fun _ _ h => h) .nil))) (sub_cons (.tmp rfl) (sub_cons (.tmp rfl) (sub_cons (.tmp rfl) (sub_cons (.tmp rfl) (sub_cons (.tmp rfl) (sub_cons (.tmp rfl) (sub_cons (.tmp rfl) (sub_cons (.tmp rfl) (sub_cons (.tmp rfl) (sub_cons (.tmp rfl) (sub_cons (.tmp rfl) (sub_cons (.tmp rfl) (sub_cons (.tmp rfl) (sub_cons (.tmp rfl) (sub_cons (.tmp rfl) (sub_nil))))))))))))))))
          intro j q hinv
          obtain ⟨hij, hjl, hrun, hq⟩ := hinv
          have hqf := sum_fit hq (by omega)
          have hqf2 : (ofI q).abs.length ≤ B + 1 := hqf
          refine JC.seq ?_
          refine JC.seq ?_
          refine JC.draw (Γ' := ?g1) mo (by kernel_rfl) ?tw1 ?k1
          case tw1 =>
            refine TW.op (ot_move (.tmp rfl)) rfl (ltN rfl) rfl ?_
            refine TW.op (ot_move (.tmp rfl)) rfl (ltN rfl) rfl ?_
            refine TW.op (ot_len (.tmp rfl) sl65 rfl) rfl (ltN rfl) rfl ?_
            refine TW.op (ot_lss (.tmp rfl) (.tmp rfl)) rfl (ltN rfl) rfl ?_
            refine TW.op (ot_move (.tmp rfl)) rfl (ltN rfl) rfl ?_
            refine TW.opg rfl rfl rfl (ltN rfl) (fun hg => ot_move (.tmp rfl)) rfl (ltN rfl) ?_
            refine TW.opg rfl rfl rfl (ltN rfl) (fun hg => ot_move (.tmp rfl)) rfl (ltN rfl) ?_
            refine TW.opg rfl rfl rfl (ltN rfl) (fun hg => (by have hg' := hg; simp only [Bool.and_eq_true, Bool.or_eq_true, Bool.not_eq_true', Bool.not_eq_false', Bool.and_eq_false_iff, Bool.or_eq_false_iff, Bool.not_true, Bool.not_false, decide_eq_true_eq, decide_eq_false_iff_not, beq_iff_eq, beq_eq_false_iff_ne, Bool.not_eq_eq_eq_not] at hg'; exact ot_index (z := atT (sortT (keepT ts)) j) (.iff hg (.tmp rfl)) (.iff hg (.tmp rfl)) sl65 (by omega) (atT_at (by omega) (by omega)))) rfl (ltN rfl) ?_
            refine TW.opg rfl rfl rfl (ltN rfl) (fun hg => ot_fieldAddr (R' := cDrop (cEnc encTm (atT (sortT (keepT ts)) j)) 2) (.iff hg (.tmp rfl)) fd63_1 (fun _ _ h => cDrop_mk h)) rfl (ltN rfl) ?_
            refine TW.opg rfl rfl rfl (ltN rfl) (fun hg => ot_load_agg (.iff hg (.tmp rfl)) ag61 (ldFV (g := moT) (y := (atT (sortT (keepT ts)) j).exp) rfl rfl)) rfl (ltN rfl) ?_
            refine TW.opg rfl rfl rfl (ltN rfl) (fun hg => ot_fieldAddr_own (.tmp rfl) fd63_1) rfl (ltN rfl) ?_
            refine TW.opg rfl rfl rfl (ltN rfl) (fun hg => ot_load_own_agg (.iff hg (.tmp rfl)) (.head _) ag61 (cTs_ldV (g := moT) (y := ((atT (sortT (keepT ts)) i).exp)) rfl rfl)) rfl (ltN rfl) ?_
            refine TW.opg rfl rfl rfl (ltN rfl) (fun hg => ot_eqA (.iff hg (.tmp rfl)) (.iff hg (.tmp rfl)) ar4_61) rfl (ltN rfl) ?_
            refine TW.op (ot_and2 (.tmp rfl) (.tmp rfl) .is) rfl (ltN rfl) rfl ?_
            exact TW.nil
          refine JQ.then_normal ?_
          -- cond3: tIs (.bool ((decide (((j : Nat) : Int) < (((sortT (keepT ts))).length : Int))) && (decide (((atT (sortT (keepT ts)) j).exp) = ((atT (sortT (keepT ts)) i).exp)))))
          refine JC.cond (.tmp rfl) (fun hc3 => ?_) (fun hc3 => ?_)
          · try simp only [Bool.and_eq_true, Bool.or_eq_true, Bool.not_eq_true', Bool.not_eq_false', Bool.and_eq_false_iff, Bool.or_eq_false_iff, Bool.not_true, Bool.not_false, decide_eq_true_eq, decide_eq_false_iff_not, beq_iff_eq, beq_eq_false_iff_ne, Bool.not_eq_eq_eq_not] at hc3
            have hs49 := hc3
            have hmj : atT (sortT (keepT ts)) j ∈ ts := hm _ (atT_mem (by omega))
            have hzj := hz _ hmj
            refine JC.skip ?_
            refine JQ.then_normal ?_
            refine JC.block ?_
            refine JC.seq ?_
            refine JC.drawAt (Γ' := ?g2) 9 mo (by kernel_rfl) ?tw2 ?k2
            case tw2 =>
              refine TW.op (ot_fieldAddr_own (.tmp rfl) fd63_0) rfl (ltN rfl) rfl ?_
              refine TW.op (ot_load_own_agg (.tmp rfl) (.head _) ag25 (cTs_ldV (g := zT) (y := (ofI q)) rfl rfl)) rfl (ltN rfl) rfl ?_
              refine TW.op (ot_move (.tmp rfl)) rfl (ltN rfl) rfl ?_
              refine TW.op (ot_move (.tmp rfl)) rfl (ltN rfl) rfl ?_
              refine TW.op (ot_index (z := atT (sortT (keepT ts)) j) (.tmp rfl) (.tmp rfl) sl65 (by omega) (atT_at (by omega) (by omega))) rfl (ltN rfl) rfl ?_
              refine TW.op (ot_fieldAddr (.tmp rfl) fd63_0 (fun _ _ h => h)) rfl (ltN rfl) rfl ?_
              refine TW.op (ot_load_agg (.tmp rfl) ag25 (ldFV0 (g := zT) (y := (atT (sortT (keepT ts)) j).coef) rfl rfl)) rfl (ltN rfl) rfl ?_
              refine TW.op (ot_eqt (T' := tV encI (ofI (q + zval (atT (sortT (keepT ts)) j).coef))) (ot_call fn48 (intAdd_c (ofI q) ((atT (sortT (keepT ts)) j).coef) (by omega) (by omega)) (.cons (.tmp rfl) (.cons (.tmp rfl) .nil))) (by rw [zval_ofI])) rfl (ltN rfl) rfl ?_
              refine TW.op (ot_fieldAddr_own (.tmp rfl) fd63_0) rfl (ltN rfl) rfl ?_
              exact TW.nil
            refine J.store (.tmp rfl) (.eq (.tmp rfl) (tV_F (Ts := [tIs (.bool ((ofI (q + zval (atT (sortT (keepT ts)) j).coef)).neg)), tSl encD ((ofI (q + zval (atT (sortT (keepT ts)) j).coef)).abs)]) rfl)) .here sz25 (st_agg (Ts' := [tIs (.bool ((ofI (q + zval (atT (sortT (keepT ts)) j).coef)).neg)), tSl encD ((ofI (q + zval (atT (sortT (keepT ts)) j).coef)).abs), tIs (.int .i64 (((atT (sortT (keepT ts)) i).exp).a)), tIs (.int .i64 (((atT (sortT (keepT ts)) i).exp).b)), tIs (.int .i64 (((atT (sortT (keepT ts)) i).exp).c)), tIs (.int .i64 (((atT (sortT (keepT ts)) i).exp).d))]) (o := 0) rfl) ?_
            refine J.nil ?_
            refine JQ.then_normal ?_
            refine JC.region ?_
            refine J.op (ot_move (.tmp rfl)) rfl (ltN rfl) rfl ?_
            refine J.op (ot_add (.tmp rfl) .is (w64 (by omega) (by omega))) rfl (ltN rfl) rfl ?_
            refine J.op (ot_assign (.tmp rfl)) rfl (ltN rfl) rfl ?_
            refine J.nil ?_
            refine JQ.block_normal ?_
            exact JQ.round2 (i := j) (i2 := q) (j + 1) (q + zval (atT (sortT (keepT ts)) j).coef) ⟨by omega, by omega, by rw [← hrun]; exact sumRun_step (by omega) hs49.2, sum_next hq (hd _ hmj) (hz _ hmj)⟩ (by omega) (sub_trans (sub_heap (.keep (fun _ _ h => h) (.keep (fun _ _ h => h) .nil))) (sub_cons (.tmp rfl) (sub_cons (.tmp rfl) (sub_cons (.tmp rfl) (sub_cons (.eq (.tmp rfl) (by first | rfl | (congr 3; omega) | (congr 2; omega))) (sub_cons (.tmp rfl) (sub_cons (.tmp rfl) (sub_cons (.tmp rfl) (sub_cons (.tmp rfl) (sub_cons (.tmp rfl) (sub_cons (.tmp rfl) (sub_cons (.tmp rfl) (sub_cons (.tmp rfl) (sub_cons (.tmp rfl) (sub_cons (.tmp rfl) (sub_cons (.tmp rfl) (sub_nil)))))))))))))))))
          · try simp only [Bool.and_eq_true, Bool.or_eq_true, Bool.not_eq_true', Bool.not_eq_false', Bool.and_eq_false_iff, Bool.or_eq_false_iff, Bool.not_true, Bool.not_false, decide_eq_true_eq, decide_eq_false_iff_not, beq_iff_eq, beq_eq_false_iff_ne, Bool.not_eq_eq_eq_not] at hc3
            have hs49 := hc3
            have hst := sumRun_stop (c := q) (show ¬ j < (sortT (keepT ts)).length ∨ ¬ (atT (sortT (keepT ts)) j).exp = (atT (sortT (keepT ts)) i).exp from hs49.imp (fun h => by omega) id)
            rw [hrun] at hst
            have hlt : i < j := by rcases Nat.lt_or_eq_of_le hij with h | h; exact h; subst h; rcases hs49 with q | q; omega; exact absurd rfl q
            refine JC.exit ?_
            refine JQ.then_exit ?_
            refine JQ.then_exit ?_
            refine JQ.block_exit ?_
            refine JQ.then_normal ?_
            refine JC.seq ?_
            refine JC.region ?_
            refine J.op (ot_fieldAddr_own (.tmp rfl) fd63_0) rfl (ltN rfl) rfl ?_
            refine J.op (ot_load_own_agg (.tmp rfl) (.head _) ag25 (cTs_ldV (g := zT) (y := (ofI q)) rfl rfl)) rfl (ltN rfl) rfl ?_
            refine J.op (ot_eqt (T' := tIs (.int .i64 (sgn q))) (ot_call fn25 (intSign_c (ofI q) (by omega)) (.cons (.tmp rfl) .nil)) (by rw [zval_ofI])) rfl (ltN rfl) rfl ?_
            refine J.op (ot_neq (.tmp rfl) .is) rfl (ltN rfl) rfl ?_
            refine J.nil ?_
            refine JQ.then_normal ?_
            -- cond4: tIs (.bool (!decide ((sgn q) = 0)))
            refine JC.cond (.tmp rfl) (fun hc4 => ?_) (fun hc4 => ?_)
            · try simp only [Bool.and_eq_true, Bool.or_eq_true, Bool.not_eq_true', Bool.not_eq_false', Bool.and_eq_false_iff, Bool.or_eq_false_iff, Bool.not_true, Bool.not_false, decide_eq_true_eq, decide_eq_false_iff_not, beq_iff_eq, beq_eq_false_iff_ne, Bool.not_eq_eq_eq_not] at hc4
              have hs64 := hc4
              refine JC.region ?_
              refine J.op (ot_move (.tmp rfl)) rfl (ltN rfl) rfl ?_
              refine J.op (ot_load_own_agg (.tmp rfl) (.head _) ag63 (cTs_ldV (g := tmT) (y := (Tm.mk (ofI q) ((atT (sortT (keepT ts)) i).exp))) rfl rfl)) rfl (ltN rfl) rfl ?_
              refine J.op (ot_buildSlice (E := encTm) (zs := [Tm.mk (ofI q) ((atT (sortT (keepT ts)) i).exp)]) sl65 (.cons (.tmp rfl) .nil) rfl zr63 rfl (by decide) (by decide)) rfl (ltN rfl) rfl ?_
              refine J.append (E := encTm) (xs := O) (ys := [Tm.mk (ofI q) ((atT (sortT (keepT ts)) i).exp)]) (.tmp rfl) rfl (.tmp rfl) sl65 rfl zr63 rfl (.there .here) (by simp <;> omega) (by simp <;> omega) (ltN rfl) fun b68 c68 => ?_
              refine J.op (ot_assign (.tmp rfl)) rfl (ltN rfl) rfl ?_
              refine J.nil ?_
              refine JQ.block_normal ?_
              have hq0 : ¬ q = 0 := fun h => hs64 (by rw [h]; rfl)
              exact JQ.round5 (i := false) (i2 := i) (i3 := O) (i4 := b) (i5 := c) false j (O ++ [Tm.mk (ofI q) ((atT (sortT (keepT ts)) i).exp)]) b68 c68 ⟨hjl, merge_yes (by omega) hO hst hq0, by simp; omega, fun h => by cases h⟩ (by omega) (sub_trans (sub_heap (.keep (fun _ _ h => by first | exact h | simpa using h) (.drop .nil))) (sub_cons (.tmp rfl) (sub_cons (.tmp rfl) (sub_cons (.eq (.tmp rfl) (by first | rfl | (congr 3; omega) | (congr 2; omega))) (sub_cons (.tmp rfl) (sub_nil))))))
            · try simp only [Bool.and_eq_true, Bool.or_eq_true, Bool.not_eq_true', Bool.not_eq_false', Bool.and_eq_false_iff, Bool.or_eq_false_iff, Bool.not_true, Bool.not_false, decide_eq_true_eq, decide_eq_false_iff_not, beq_iff_eq, beq_eq_false_iff_ne, Bool.not_eq_eq_eq_not] at hc4
              have hs64 := hc4
              refine JC.skip ?_
              refine JQ.block_normal ?_
              have hq0 : q = 0 := by rcases sgn_cases q with h | h | h <;> omega
              exact JQ.round5 (i := false) (i2 := i) (i3 := O) (i4 := b) (i5 := c) false j O b c ⟨hjl, merge_no (by omega) hO hst hq0, by omega, fun h => by cases h⟩ (by omega) (sub_trans (sub_heap (.drop (.keep (fun _ _ h => h) .nil))) (sub_cons (.tmp rfl) (sub_cons (.tmp rfl) (sub_cons (.tmp rfl) (sub_cons (.tmp rfl) (sub_nil))))))
        · try simp only [Bool.and_eq_true, Bool.or_eq_true, Bool.not_eq_true', Bool.not_eq_false', Bool.and_eq_false_iff, Bool.or_eq_false_iff, Bool.not_true, Bool.not_false, decide_eq_true_eq, decide_eq_false_iff_not, beq_iff_eq, beq_eq_false_iff_ne, Bool.not_eq_eq_eq_not] at hc2
          have hs29 := hc2
          refine JC.exit ?_
          refine JQ.then_exit ?_
          refine JQ.then_exit ?_
          refine JQ.block_exit ?_
          refine JQ.then_normal ?_
          refine JC.seq ?_
          refine JC.rowcap (.head _) fun hcap => ?_
          refine JC.region ?_
          refine J.op (ot_move (.tmp rfl)) rfl (ltN rfl) rfl ?_
          refine J.op (ot_call fn61 (clipO_c b O.length c hcap) (.cons (.tmp rfl) .nil)) rfl (ltN rfl) rfl ?_
          refine J.op (ot_assign (.tmp rfl)) rfl (ltN rfl) rfl ?_
          refine J.nil ?_
          refine JQ.then_normal ?_
          refine JC.ret ?_
          -- ret0
          exact JQ.retO (b := b) (cap := c) (n := (normS ts).length) (R := fun cap => cRow encTm (normS ts) cap) rfl ((show O = normS ts from merge_end (by omega) hO mergeT_nil) ▸ .head _) (.eq (.tmp rfl) (by rw [show O = normS ts from merge_end (by omega) hO mergeT_nil]))
      · change JC _ _ _ [(2, tSl encTm ([])), (3, tSl encTm ((sortT (keepT ts)))), (6, tIs (.slice none 0 0)), (7, tIs (.int .i64 (((i : Nat) : Int))))] []
        obtain ⟨hi, hO, hOl, hOe⟩ := hinv
        refine JC.seq ?_
        refine JC.seq ?_
        refine JC.region ?_
        refine J.op (ot_move (.tmp rfl)) rfl (ltN rfl) rfl ?_
        refine J.op (ot_move (.tmp rfl)) rfl (ltN rfl) rfl ?_
        refine J.op (ot_len (.tmp rfl) sl65 rfl) rfl (ltN rfl) rfl ?_
        refine J.op (ot_lss (.tmp rfl) (.tmp rfl)) rfl (ltN rfl) rfl ?_
        refine J.nil ?_
        refine JQ.then_normal ?_
        -- cond5: tIs (.bool (decide (((i : Nat) : Int) < (((sortT (keepT ts))).length : Int))))
        refine JC.cond (.tmp rfl) (fun hc5 => ?_) (fun hc5 => ?_)
        · try simp only [Bool.and_eq_true, Bool.or_eq_true, Bool.not_eq_true', Bool.not_eq_false', Bool.and_eq_false_iff, Bool.or_eq_false_iff, Bool.not_true, Bool.not_false, decide_eq_true_eq, decide_eq_false_iff_not, beq_iff_eq, beq_eq_false_iff_ne, Bool.not_eq_eq_eq_not] at hc5
          have hs29 := hc5
          refine JC.skip ?_
          refine JQ.then_normal ?_
          refine JC.block ?_
          refine JC.seq ?_
          refine JC.region ?_
          refine J.op (ot_move (.tmp rfl)) rfl (ltN rfl) rfl ?_
          refine J.op (ot_move (.tmp rfl)) rfl (ltN rfl) rfl ?_
          refine J.op (ot_index (z := atT (sortT (keepT ts)) i) (.tmp rfl) (.tmp rfl) sl65 (by omega) (atT_at (by omega) (by omega))) rfl (ltN rfl) rfl ?_
          refine J.op (ot_fieldAddr (R' := cDrop (cEnc encTm (atT (sortT (keepT ts)) i)) 2) (.tmp rfl) fd63_1 (fun _ _ h => cDrop_mk h)) rfl (ltN rfl) rfl ?_
          refine J.op (ot_load_agg (.tmp rfl) ag61 (ldFV (g := moT) (y := (atT (sortT (keepT ts)) i).exp) rfl rfl)) rfl (ltN rfl) rfl ?_
          refine J.op (ot_eqt (T' := tV encTm (Tm.mk (Z.mk (false) ([])) ((atT (sortT (keepT ts)) i).exp))) (ot_build (Ts := [tIs (.bool (false)), tSl encD ([]), tIs (.int .i64 (0)), tIs (.int .i64 (0)), tIs (.int .i64 (0)), tIs (.int .i64 (0))]) pl63 (fun _ => ⟨rfl, rfl, slP_nil _ _, rfl, rfl, rfl, rfl, rfl, rfl, rfl, rfl, rfl, trivial⟩) ((.agg (off := 2) rfl (.eq (.tmp rfl) (tV_F (Ts := [tIs (.int .i64 (((atT (sortT (keepT ts)) i).exp).a)), tIs (.int .i64 (((atT (sortT (keepT ts)) i).exp).b)), tIs (.int .i64 (((atT (sortT (keepT ts)) i).exp).c)), tIs (.int .i64 (((atT (sortT (keepT ts)) i).exp).d))]) rfl)) (Ts' := [tIs (.bool (false)), tSl encD ([]), tIs (.int .i64 (((atT (sortT (keepT ts)) i).exp).a)), tIs (.int .i64 (((atT (sortT (keepT ts)) i).exp).b)), tIs (.int .i64 (((atT (sortT (keepT ts)) i).exp).c)), tIs (.int .i64 (((atT (sortT (keepT ts)) i).exp).d))]) rfl rfl .nil)) rfl) (tV_F' rfl)) rfl (ltN rfl) rfl ?_
          refine J.alloc (R := cTs [tIs (.bool (false)), tSl encD ([]), tIs (.int .i64 (0)), tIs (.int .i64 (0)), tIs (.int .i64 (0)), tIs (.int .i64 (0))]) zr63 (fun _ => ⟨rfl, rfl, slP_nil _ _, rfl, rfl, rfl, rfl, rfl, rfl, rfl, rfl, rfl, trivial⟩) (ltN rfl) fun b8 => ?_
          refine J.store (.tmp rfl) (.eq (.tmp rfl) (tV_F (Ts := [tIs (.bool (false)), tSl encD ([]), tIs (.int .i64 (((atT (sortT (keepT ts)) i).exp).a)), tIs (.int .i64 (((atT (sortT (keepT ts)) i).exp).b)), tIs (.int .i64 (((atT (sortT (keepT ts)) i).exp).c)), tIs (.int .i64 (((atT (sortT (keepT ts)) i).exp).d))]) rfl)) .here sz63 (st_agg (Ts' := [tIs (.bool (false)), tSl encD ([]), tIs (.int .i64 (((atT (sortT (keepT ts)) i).exp).a)), tIs (.int .i64 (((atT (sortT (keepT ts)) i).exp).b)), tIs (.int .i64 (((atT (sortT (keepT ts)) i).exp).c)), tIs (.int .i64 (((atT (sortT (keepT ts)) i).exp).d))]) (o := 0) rfl) ?_
          refine J.nil ?_
          refine JQ.then_normal ?_
          refine JC.seq ?_
          refine JC.block ?_
          refine JC.loop2 (α := Nat) (β := Int) (fun j q => [(2, tSl encTm ([])), (3, tSl encTm ((sortT (keepT ts)))), (6, tIs (.slice none 0 0)), (7, tIs (.int .i64 (((j : Nat) : Int)))), (8, pOwn b8 (0)), (26, tIs (.int .i64 (((i : Nat) : Int)))), (27, tSl encTm ((sortT (keepT ts)))), (28, tIs (.int .i64 ((((sortT (keepT ts))).length : Int)))), (29, tIs (.bool (decide (((i : Nat) : Int) < (((sortT (keepT ts))).length : Int))))), (30, tSl encTm ((sortT (keepT ts)))), (31, tIs (.int .i64 (((i : Nat) : Int)))), (32, tPtr (cEnc encTm (atT (sortT (keepT ts)) i))), (33, tPtr (cDrop (cEnc encTm (atT (sortT (keepT ts)) i)) 2)), (34, tV encMo ((atT (sortT (keepT ts)) i).exp)), (35, tV encTm (Tm.mk (Z.mk (false) ([])) ((atT (sortT (keepT ts)) i).exp)))]) (fun j q => [⟨b8, 63, cTs [tIs (.bool ((ofI q).neg)), tSl encD ((ofI q).abs), tIs (.int .i64 (((atT (sortT (keepT ts)) i).exp).a)), tIs (.int .i64 (((atT (sortT (keepT ts)) i).exp).b)), tIs (.int .i64 (((atT (sortT (keepT ts)) i).exp).c)), tIs (.int .i64 (((atT (sortT (keepT ts)) i).exp).d))]⟩]) (fun j q => i ≤ j ∧ j ≤ (sortT (keepT ts)).length ∧ sumRun (atT (sortT (keepT ts)) i).exp q ((sortT (keepT ts)).drop j) = sumRun (atT (sortT (keepT ts)) i).exp 0 ((sortT (keepT ts)).drop i) ∧ q.natAbs ≤ j * B32 ^ B) (fun j q => (sortT (keepT ts)).length - j) i 0 ⟨by omega, by omega, rfl, by simp⟩ ?lsub3 ?round3
          case lsub3 => exact sub_trans (sub_heap (.keep (fun _ _ h => by rw [ofI_zero]; exact h) .nil)) (sub_cons (.tmp rfl) (sub_cons (.tmp rfl) (sub_cons (.tmp rfl) (sub_cons (.tmp rfl) (sub_cons (.tmp rfl) (sub_cons (.tmp rfl) (sub_cons (.tmp rfl) (sub_cons (.tmp rfl) (sub_cons (.tmp rfl) (sub_cons (.tmp rfl) (sub_cons (.tmp rfl) (sub_cons (.tmp rfl) (sub_cons (.tmp rfl) (sub_cons (.tmp rfl) (sub_cons (.tmp rfl) (sub_nil))))))))))))))))
          intro j q hinv
          obtain ⟨hij, hjl, hrun, hq⟩ := hinv
          have hqf := sum_fit hq (by omega)
          have hqf2 : (ofI q).abs.length ≤ B + 1 := hqf
          refine JC.seq ?_
          refine JC.seq ?_
          refine JC.draw (Γ' := ?g3) mo (by kernel_rfl) ?tw3 ?k3
          case tw3 =>
            refine TW.op (ot_move (.tmp rfl)) rfl (ltN rfl) rfl ?_
            refine TW.op (ot_move (.tmp rfl)) rfl (ltN rfl) rfl ?_
            refine TW.op (ot_len (.tmp rfl) sl65 rfl) rfl (ltN rfl) rfl ?_
            refine TW.op (ot_lss (.tmp rfl) (.tmp rfl)) rfl (ltN rfl) rfl ?_
            refine TW.op (ot_move (.tmp rfl)) rfl (ltN rfl) rfl ?_
            refine TW.opg rfl rfl rfl (ltN rfl) (fun hg => ot_move (.tmp rfl)) rfl (ltN rfl) ?_
            refine TW.opg rfl rfl rfl (ltN rfl) (fun hg => ot_move (.tmp rfl)) rfl (ltN rfl) ?_
            refine TW.opg rfl rfl rfl (ltN rfl) (fun hg => (by have hg' := hg; simp only [Bool.and_eq_true, Bool.or_eq_true, Bool.not_eq_true', Bool.not_eq_false', Bool.and_eq_false_iff, Bool.or_eq_false_iff, Bool.not_true, Bool.not_false, decide_eq_true_eq, decide_eq_false_iff_not, beq_iff_eq, beq_eq_false_iff_ne, Bool.not_eq_eq_eq_not] at hg'; exact ot_index (z := atT (sortT (keepT ts)) j) (.iff hg (.tmp rfl)) (.iff hg (.tmp rfl)) sl65 (by omega) (atT_at (by omega) (by omega)))) rfl (ltN rfl) ?_
            refine TW.opg rfl rfl rfl (ltN rfl) (fun hg => ot_fieldAddr (R' := cDrop (cEnc encTm (atT (sortT (keepT ts)) j)) 2) (.iff hg (.tmp rfl)) fd63_1 (fun _ _ h => cDrop_mk h)) rfl (ltN rfl) ?_
            refine TW.opg rfl rfl rfl (ltN rfl) (fun hg => ot_load_agg (.iff hg (.tmp rfl)) ag61 (ldFV (g := moT) (y := (atT (sortT (keepT ts)) j).exp) rfl rfl)) rfl (ltN rfl) ?_
            refine TW.opg rfl rfl rfl (ltN rfl) (fun hg => ot_fieldAddr_own (.tmp rfl) fd63_1) rfl (ltN rfl) ?_
            refine TW.opg rfl rfl rfl (ltN rfl) (fun hg => ot_load_own_agg (.iff hg (.tmp rfl)) (.head _) ag61 (cTs_ldV (g := moT) (y := ((atT (sortT (keepT ts)) i).exp)) rfl rfl)) rfl (ltN rfl) ?_
            refine TW.opg rfl rfl rfl (ltN rfl) (fun hg => ot_eqA (.iff hg (.tmp rfl)) (.iff hg (.tmp rfl)) ar4_61) rfl (ltN rfl) ?_
            refine TW.op (ot_and2 (.tmp rfl) (.tmp rfl) .is) rfl (ltN rfl) rfl ?_
            exact TW.nil
          refine JQ.then_normal ?_
          -- cond6: tIs (.bool ((decide (((j : Nat) : Int) < (((sortT (keepT ts))).length : Int))) && (decide (((atT (sortT (keepT ts)) j).exp) = ((atT (sortT (keepT ts)) i).exp)))))
          refine JC.cond (.tmp rfl) (fun hc6 => ?_) (fun hc6 => ?_)
          · try simp only [Bool.and_eq_true, Bool.or_eq_true, Bool.not_eq_true', Bool.not_eq_false', Bool.and_eq_false_iff, Bool.or_eq_false_iff, Bool.not_true, Bool.not_false, decide_eq_true_eq, decide_eq_false_iff_not, beq_iff_eq, beq_eq_false_iff_ne, Bool.not_eq_eq_eq_not] at hc6
            have hs49 := hc6
            have hmj : atT (sortT (keepT ts)) j ∈ ts := hm _ (atT_mem (by omega))
            have hzj := hz _ hmj
            refine JC.skip ?_
            refine JQ.then_normal ?_
            refine JC.block ?_
            refine JC.seq ?_
            refine JC.drawAt (Γ' := ?g4) 9 mo (by kernel_rfl) ?tw4 ?k4
            case tw4 =>
              refine TW.op (ot_fieldAddr_own (.tmp rfl) fd63_0) rfl (ltN rfl) rfl ?_
              refine TW.op (ot_load_own_agg (.tmp rfl) (.head _) ag25 (cTs_ldV (g := zT) (y := (ofI q)) rfl rfl)) rfl (ltN rfl) rfl ?_
              refine TW.op (ot_move (.tmp rfl)) rfl (ltN rfl) rfl ?_
              refine TW.op (ot_move (.tmp rfl)) rfl (ltN rfl) rfl ?_
              refine TW.op (ot_index (z := atT (sortT (keepT ts)) j) (.tmp rfl) (.tmp rfl) sl65 (by omega) (atT_at (by omega) (by omega))) rfl (ltN rfl) rfl ?_
              refine TW.op (ot_fieldAddr (.tmp rfl) fd63_0 (fun _ _ h => h)) rfl (ltN rfl) rfl ?_
              refine TW.op (ot_load_agg (.tmp rfl) ag25 (ldFV0 (g := zT) (y := (atT (sortT (keepT ts)) j).coef) rfl rfl)) rfl (ltN rfl) rfl ?_
              refine TW.op (ot_eqt (T' := tV encI (ofI (q + zval (atT (sortT (keepT ts)) j).coef))) (ot_call fn48 (intAdd_c (ofI q) ((atT (sortT (keepT ts)) j).coef) (by omega) (by omega)) (.cons (.tmp rfl) (.cons (.tmp rfl) .nil))) (by rw [zval_ofI])) rfl (ltN rfl) rfl ?_
              refine TW.op (ot_fieldAddr_own (.tmp rfl) fd63_0) rfl (ltN rfl) rfl ?_
              exact TW.nil
            refine J.store (.tmp rfl) (.eq (.tmp rfl) (tV_F (Ts := [tIs (.bool ((ofI (q + zval (atT (sortT (keepT ts)) j).coef)).neg)), tSl encD ((ofI (q + zval (atT (sortT (keepT ts)) j).coef)).abs)]) rfl)) .here sz25 (st_agg (Ts' := [tIs (.bool ((ofI (q + zval (atT (sortT (keepT ts)) j).coef)).neg)), tSl encD ((ofI (q + zval (atT (sortT (keepT ts)) j).coef)).abs), tIs (.int .i64 (((atT (sortT (keepT ts)) i).exp).a)), tIs (.int .i64 (((atT (sortT (keepT ts)) i).exp).b)), tIs (.int .i64 (((atT (sortT (keepT ts)) i).exp).c)), tIs (.int .i64 (((atT (sortT (keepT ts)) i).exp).d))]) (o := 0) rfl) ?_
            refine J.nil ?_
            refine JQ.then_normal ?_
            refine JC.region ?_
            refine J.op (ot_move (.tmp rfl)) rfl (ltN rfl) rfl ?_
            refine J.op (ot_add (.tmp rfl) .is (w64 (by omega) (by omega))) rfl (ltN rfl) rfl ?_
            refine J.op (ot_assign (.tmp rfl)) rfl (ltN rfl) rfl ?_
            refine J.nil ?_
            refine JQ.block_normal ?_
            exact JQ.round2 (i := j) (i2 := q) (j + 1) (q + zval (atT (sortT (keepT ts)) j).coef) ⟨by omega, by omega, by rw [← hrun]; exact sumRun_step (by omega) hs49.2, sum_next hq (hd _ hmj) (hz _ hmj)⟩ (by omega) (sub_trans (sub_heap (.keep (fun _ _ h => h) .nil)) (sub_cons (.tmp rfl) (sub_cons (.tmp rfl) (sub_cons (.tmp rfl) (sub_cons (.eq (.tmp rfl) (by first | rfl | (congr 3; omega) | (congr 2; omega))) (sub_cons (.tmp rfl) (sub_cons (.tmp rfl) (sub_cons (.tmp rfl) (sub_cons (.tmp rfl) (sub_cons (.tmp rfl) (sub_cons (.tmp rfl) (sub_cons (.tmp rfl) (sub_cons (.tmp rfl) (sub_cons (.tmp rfl) (sub_cons (.tmp rfl) (sub_cons (.tmp rfl) (sub_nil)))))))))))))))))
          · try simp only [Bool.and_eq_true, Bool.or_eq_true, Bool.not_eq_true', Bool.not_eq_false', Bool.and_eq_false_iff, Bool.or_eq_false_iff, Bool.not_true, Bool.not_false, decide_eq_true_eq, decide_eq_false_iff_not, beq_iff_eq, beq_eq_false_iff_ne, Bool.not_eq_eq_eq_not] at hc6
            have hs49 := hc6
            have hst := sumRun_stop (c := q) (show ¬ j < (sortT (keepT ts)).length ∨ ¬ (atT (sortT (keepT ts)) j).exp = (atT (sortT (keepT ts)) i).exp from hs49.imp (fun h => by omega) id)
            rw [hrun] at hst
            have hlt : i < j := by rcases Nat.lt_or_eq_of_le hij with h | h; exact h; subst h; rcases hs49 with q | q; omega; exact absurd rfl q
            refine JC.exit ?_
            refine JQ.then_exit ?_
            refine JQ.then_exit ?_
            refine JQ.block_exit ?_
            refine JQ.then_normal ?_
            refine JC.seq ?_
            refine JC.region ?_
            refine J.op (ot_fieldAddr_own (.tmp rfl) fd63_0) rfl (ltN rfl) rfl ?_
            refine J.op (ot_load_own_agg (.tmp rfl) (.head _) ag25 (cTs_ldV (g := zT) (y := (ofI q)) rfl rfl)) rfl (ltN rfl) rfl ?_
            refine J.op (ot_eqt (T' := tIs (.int .i64 (sgn q))) (ot_call fn25 (intSign_c (ofI q) (by omega)) (.cons (.tmp rfl) .nil)) (by rw [zval_ofI])) rfl (ltN rfl) rfl ?_
            refine J.op (ot_neq (.tmp rfl) .is) rfl (ltN rfl) rfl ?_
            refine J.nil ?_
            refine JQ.then_normal ?_
            -- cond7: tIs (.bool (!decide ((sgn q) = 0)))
            refine JC.cond (.tmp rfl) (fun hc7 => ?_) (fun hc7 => ?_)
            · try simp only [Bool.and_eq_true, Bool.or_eq_true, Bool.not_eq_true', Bool.not_eq_false', Bool.and_eq_false_iff, Bool.or_eq_false_iff, Bool.not_true, Bool.not_false, decide_eq_true_eq, decide_eq_false_iff_not, beq_iff_eq, beq_eq_false_iff_ne, Bool.not_eq_eq_eq_not] at hc7
              have hs64 := hc7
              refine JC.region ?_
              refine J.op (ot_move (.tmp rfl)) rfl (ltN rfl) rfl ?_
              refine J.op (ot_load_own_agg (.tmp rfl) (.head _) ag63 (cTs_ldV (g := tmT) (y := (Tm.mk (ofI q) ((atT (sortT (keepT ts)) i).exp))) rfl rfl)) rfl (ltN rfl) rfl ?_
              refine J.op (ot_buildSlice (E := encTm) (zs := [Tm.mk (ofI q) ((atT (sortT (keepT ts)) i).exp)]) sl65 (.cons (.tmp rfl) .nil) rfl zr63 rfl (by decide) (by decide)) rfl (ltN rfl) rfl ?_
              refine J.append0 (E := encTm) (ys := [Tm.mk (ofI q) ((atT (sortT (keepT ts)) i).exp)]) (.sub (.tmp rfl) nil_z) (.tmp rfl) (by simp) sl65 rfl zr63 rfl (by simp <;> omega) (by simp <;> omega) (ltN rfl) fun b68 c68 => ?_
              refine J.op (ot_assign (.tmp rfl)) rfl (ltN rfl) rfl ?_
              refine J.nil ?_
              refine JQ.block_normal ?_
              have hq0 : ¬ q = 0 := fun h => hs64 (by rw [h]; rfl)
              have hO0 := hOe rfl
              exact JQ.round5 (i := true) (i2 := i) (i3 := O) (i4 := b) (i5 := c) false j (O ++ [Tm.mk (ofI q) ((atT (sortT (keepT ts)) i).exp)]) b68 c68 ⟨hjl, merge_yes (by omega) hO hst hq0, by simp; omega, fun h => by cases h⟩ (by omega) (sub_trans (sub_heap (.keep (cRow_eq (by rw [hO0]; rfl)) (.drop .nil))) (sub_cons (.tmp rfl) (sub_cons (.tmp rfl) (sub_cons (.eq (.tmp rfl) (by rw [hO0]; rfl)) (sub_cons (.tmp rfl) (sub_nil))))))
            · try simp only [Bool.and_eq_true, Bool.or_eq_true, Bool.not_eq_true', Bool.not_eq_false', Bool.and_eq_false_iff, Bool.or_eq_false_iff, Bool.not_true, Bool.not_false, decide_eq_true_eq, decide_eq_false_iff_not, beq_iff_eq, beq_eq_false_iff_ne, Bool.not_eq_eq_eq_not] at hc7
              have hs64 := hc7
              refine JC.skip ?_
              refine JQ.block_normal ?_
              have hq0 : q = 0 := by rcases sgn_cases q with h | h | h <;> omega
              exact JQ.round5 (i := true) (i2 := i) (i3 := O) (i4 := b) (i5 := c) true j O 0 0 ⟨hjl, merge_no (by omega) hO hst hq0, by omega, fun _ => hOe rfl⟩ (by omega) (sub_trans (sub_heap (.drop .nil)) (sub_cons (.tmp rfl) (sub_cons (.tmp rfl) (sub_cons (.tmp rfl) (sub_cons (.tmp rfl) (sub_nil))))))
        · try simp only [Bool.and_eq_true, Bool.or_eq_true, Bool.not_eq_true', Bool.not_eq_false', Bool.and_eq_false_iff, Bool.or_eq_false_iff, Bool.not_true, Bool.not_false, decide_eq_true_eq, decide_eq_false_iff_not, beq_iff_eq, beq_eq_false_iff_ne, Bool.not_eq_eq_eq_not] at hc5
          have hs29 := hc5
          refine JC.exit ?_
          refine JQ.then_exit ?_
          refine JQ.then_exit ?_
          refine JQ.block_exit ?_
          refine JQ.then_normal ?_
          refine JC.seq ?_
          refine JC.region ?_
          refine J.op (ot_move (.tmp rfl)) rfl (ltN rfl) rfl ?_
          refine J.op (ot_call fn61 (clip_c ([]) (by simp)) (.cons (.sub (.tmp rfl) nil_sl) .nil)) rfl (ltN rfl) rfl ?_
          refine J.op (ot_assign (.tmp rfl)) rfl (ltN rfl) rfl ?_
          refine J.nil ?_
          refine JQ.then_normal ?_
          refine JC.ret ?_
          -- ret1
          exact absurd (show normS ts = [] by rw [normS, ← merge_end (by omega) hO mergeT_nil, hOe rfl]) hne
  · change JC _ _ _ [(2, tSl encTm ([])), (3, tIs (.slice none 0 0)), (9, tSl encTm (ts)), (10, tIs (.int .i64 (((ts).length : Int)))), (11, tIs (.int .i64 (((k : Nat) : Int))))] []
    obtain ⟨hk, he⟩ := hinv
    have hkk := keepT_len (ts.take k)
    rw [List.length_take] at hkk
    refine JC.seq ?_
    refine JC.region ?_
    refine J.op (ot_lss (.tmp rfl) (.tmp rfl)) rfl (ltN rfl) rfl ?_
    refine J.nil ?_
    refine JQ.then_normal ?_
    refine JC.seq ?_
    -- cond8: tIs (.bool (decide (((k : Nat) : Int) < ((ts).length : Int))))
    refine JC.cond (.tmp rfl) (fun hc8 => ?_) (fun hc8 => ?_)
    · try simp only [Bool.and_eq_true, Bool.or_eq_true, Bool.not_eq_true', Bool.not_eq_false', Bool.and_eq_false_iff, Bool.or_eq_false_iff, Bool.not_true, Bool.not_false, decide_eq_true_eq, decide_eq_false_iff_not, beq_iff_eq, beq_eq_false_iff_ne, Bool.not_eq_eq_eq_not] at hc8
      have hs12 := hc8
      refine JC.skip ?_
      refine JQ.then_normal ?_
      refine JC.seq ?_
      refine JC.block ?_
      refine JC.seq ?_
      refine JC.region ?_
      refine J.op (ot_index (z := atT ts k) (.tmp rfl) (.tmp rfl) sl65 (by omega) (atT_at (by omega) (by omega))) rfl (ltN rfl) rfl ?_
      refine J.op (ot_load_agg (.tmp rfl) ag63 ldp_whole) rfl (ltN rfl) rfl ?_
      refine J.alloc (R := cTs [tIs (.bool (false)), tSl encD ([]), tIs (.int .i64 (0)), tIs (.int .i64 (0)), tIs (.int .i64 (0)), tIs (.int .i64 (0))]) zr63 (fun _ => ⟨rfl, rfl, slP_nil _ _, rfl, rfl, rfl, rfl, rfl, rfl, rfl, rfl, rfl, trivial⟩) (ltN rfl) fun b5 => ?_
      refine J.store (.tmp rfl) (.eq (.tmp rfl) (tV_F (Ts := [tIs (.bool (((atT ts k).coef).neg)), tSl encD (((atT ts k).coef).abs), tIs (.int .i64 (((atT ts k).exp).a)), tIs (.int .i64 (((atT ts k).exp).b)), tIs (.int .i64 (((atT ts k).exp).c)), tIs (.int .i64 (((atT ts k).exp).d))]) rfl)) .here sz63 (st_agg (Ts' := [tIs (.bool (((atT ts k).coef).neg)), tSl encD (((atT ts k).coef).abs), tIs (.int .i64 (((atT ts k).exp).a)), tIs (.int .i64 (((atT ts k).exp).b)), tIs (.int .i64 (((atT ts k).exp).c)), tIs (.int .i64 (((atT ts k).exp).d))]) (o := 0) rfl) ?_
      refine J.nil ?_
      refine JQ.then_normal ?_
      refine JC.seq ?_
      refine JC.weak (sub_freezeP (R' := cEnc encTm (atT ts k)) [5] ⟨rfl, trivial⟩ .here (cTs_F (f := tmT) (x := atT ts k) rfl rfl)) ?_
      refine JC.region ?_
      refine J.op (ot_fieldAddr (R' := cDrop (cEnc encTm (atT ts k)) 2) (.tmp rfl) fd63_1 (fun _ _ h => cDrop_mk h)) rfl (ltN rfl) rfl ?_
      refine J.op (ot_sliceA (.tmp rfl) ar4_61 tm_exp) rfl (ltN rfl) rfl ?_
      refine J.op (ot_call fn57 (min_c ((atT ts k).exp.list) (by simp [Mo.list])) (.cons (.tmp rfl) .nil)) rfl (ltN rfl) rfl ?_
      refine J.op (ot_geq (.tmp rfl) .is) rfl (ltN rfl) rfl ?_
      refine J.nil ?_
      refine JQ.then_normal ?_
      -- cond9: tIs (.bool (decide (0 ≤ (minL (atN ((atT ts k).exp.list) 0) (((atT ts k).exp.list).drop 1)))))
      refine JC.cond (.tmp rfl) (fun hc9 => ?_) (fun hc9 => ?_)
      · try simp only [Bool.and_eq_true, Bool.or_eq_true, Bool.not_eq_true', Bool.not_eq_false', Bool.and_eq_false_iff, Bool.or_eq_false_iff, Bool.not_true, Bool.not_false, decide_eq_true_eq, decide_eq_false_iff_not, beq_iff_eq, beq_eq_false_iff_ne, Bool.not_eq_eq_eq_not] at hc9
        have hs18 := hc9
        refine JC.region ?_
        refine J.op (ot_move (.tmp rfl)) rfl (ltN rfl) rfl ?_
        refine J.op (ot_load_agg (.tmp rfl) ag63 ldp_whole) rfl (ltN rfl) rfl ?_
        refine J.op (ot_buildSlice (E := encTm) (zs := [atT ts k]) sl65 (.cons (.tmp rfl) .nil) rfl zr63 rfl (by decide) (by decide)) rfl (ltN rfl) rfl ?_
        refine J.append0 (E := encTm) (ys := [atT ts k]) (.sub (.tmp rfl) nil_z) (.tmp rfl) (by simp) sl65 rfl zr63 rfl (by simp <;> omega) (by simp <;> omega) (ltN rfl) fun b22 c22 => ?_
        refine J.op (ot_assign (.tmp rfl)) rfl (ltN rfl) rfl ?_
        refine J.nil ?_
        refine JQ.block_normal ?_
        refine JQ.then_normal ?_
        refine JC.region ?_
        refine J.op (ot_add (.tmp rfl) .is (w64 (by omega) (by omega))) rfl (ltN rfl) rfl ?_
        refine J.op (ot_move (.tmp rfl)) rfl (ltN rfl) rfl ?_
        refine J.nil ?_
        have hyes := keepT_yes (show k < ts.length by omega) (okT_iff.2 hs18)
        rw [he rfl, List.nil_append] at hyes
        exact JQ.round4 (i := true) (i2 := k) (i3 := b) (i4 := c) false (k + 1) b22 c22 ⟨by omega, fun h => by cases h⟩ (by omega) (sub_trans (sub_heap (.keep (cRow_eq hyes) .nil)) (sub_cons (.tmp rfl) (sub_cons (.eq (.tmp rfl) (by rw [hyes])) (sub_cons (.tmp rfl) (sub_cons (.tmp rfl) (sub_cons (.eq (.tmp rfl) (by first | rfl | (congr 3; omega) | (congr 2; omega))) (sub_nil)))))))
      · try simp only [Bool.and_eq_true, Bool.or_eq_true, Bool.not_eq_true', Bool.not_eq_false', Bool.and_eq_false_iff, Bool.or_eq_false_iff, Bool.not_true, Bool.not_false, decide_eq_true_eq, decide_eq_false_iff_not, beq_iff_eq, beq_eq_false_iff_ne, Bool.not_eq_eq_eq_not] at hc9
        have hs18 := hc9
        refine JC.skip ?_
        refine JQ.block_normal ?_
        refine JQ.then_normal ?_
        refine JC.region ?_
        refine J.op (ot_add (.tmp rfl) .is (w64 (by omega) (by omega))) rfl (ltN rfl) rfl ?_
        refine J.op (ot_move (.tmp rfl)) rfl (ltN rfl) rfl ?_
        refine J.nil ?_
        have hno := keepT_no (show k < ts.length by omega) (fun h => hs18 (okT_iff.1 h))
        exact JQ.round4 (i := true) (i2 := k) (i3 := b) (i4 := c) true (k + 1) 0 0 ⟨by omega, fun _ => hno ▸ he rfl⟩ (by omega) (sub_trans (sub_heap .nil) (sub_cons (.tmp rfl) (sub_cons (.tmp rfl) (sub_cons (.tmp rfl) (sub_cons (.tmp rfl) (sub_cons (.eq (.tmp rfl) (by first | rfl | (congr 3; omega) | (congr 2; omega))) (sub_nil)))))))
    · try simp only [Bool.and_eq_true, Bool.or_eq_true, Bool.not_eq_true', Bool.not_eq_false', Bool.and_eq_false_iff, Bool.or_eq_false_iff, Bool.not_true, Bool.not_false, decide_eq_true_eq, decide_eq_false_iff_not, beq_iff_eq, beq_eq_false_iff_ne, Bool.not_eq_eq_eq_not] at hc8
      have hs12 := hc8
      have hkt : keepT (ts.take k) = keepT ts := by rw [List.take_of_length_le (by omega)]
      refine JC.exit ?_
      refine JQ.then_exit ?_
      refine JQ.then_exit ?_
      refine JQ.block_exit ?_
      refine JQ.then_normal ?_
      refine JC.seq ?_
      refine JC.region ?_
      refine J.op (ot_move (.tmp rfl)) rfl (ltN rfl) rfl ?_
      refine J.op (ot_call fn58 (sort0_c  ) (.cons (.tmp rfl) (.cons (.func (fun _ => rfl)) .nil))) rfl (ltN rfl) rfl ?_
      refine J.nil ?_
      refine JQ.then_normal ?_
      refine JC.seq ?_
      refine JC.region ?_
      refine J.op (ot_assign .is) rfl (ltN rfl) rfl ?_
      refine J.nil ?_
      refine JQ.then_normal ?_
      refine JC.seq ?_
      refine JC.seq ?_
      refine JC.region ?_
      refine J.op (ot_assign .is) rfl (ltN rfl) rfl ?_
      refine J.nil ?_
      refine JQ.then_normal ?_
      refine JC.block ?_
      refine JC.loop (ι := Nat) (fun i => [(2, tSl encTm ([])), (3, tIs (.slice none 0 0)), (6, tIs (.slice none 0 0)), (7, tIs (.int .i64 (0)))]) (fun i => []) (fun i => i = 0) (fun i => i) 0 (by omega) ?lsub4 ?round4
      case lsub4 => exact sub_trans (sub_heap .nil) (sub_cons (.tmp rfl) (sub_cons (.tmp rfl) (sub_cons (.tmp rfl) (sub_cons (.tmp rfl) (sub_nil)))))
      intro i hinv
      refine JC.seq ?_
      refine JC.seq ?_
      refine JC.region ?_
      refine J.op (ot_move (.tmp rfl)) rfl (ltN rfl) rfl ?_
      refine J.op (ot_move (.tmp rfl)) rfl (ltN rfl) rfl ?_
      refine J.op (ot_len_nil (.tmp rfl) sl65 rfl) rfl (ltN rfl) rfl ?_
      refine J.op (ot_lss (.tmp rfl) (.tmp rfl)) rfl (ltN rfl) rfl ?_
      refine J.nil ?_
      refine JQ.then_normal ?_
      refine JC.cond_false (.eq (.tmp rfl) (by rfl)) ?_
      refine JC.exit ?_
      refine JQ.then_exit ?_
      refine JQ.then_exit ?_
      refine JQ.block_exit ?_
      refine JQ.then_normal ?_
      refine JC.seq ?_
      refine JC.region ?_
      refine J.op (ot_move (.tmp rfl)) rfl (ltN rfl) rfl ?_
      refine J.op (ot_call fn61 (clip_c ([]) (by simp)) (.cons (.sub (.tmp rfl) nil_sl) .nil)) rfl (ltN rfl) rfl ?_
      refine J.op (ot_assign (.tmp rfl)) rfl (ltN rfl) rfl ?_
      refine J.nil ?_
      refine JQ.then_normal ?_
      refine JC.ret ?_
      -- ret2
      exact absurd (show normS ts = [] by rw [normS, ← hkt, he rfl]; exact mergeT_nil) hne

theorem normL_c {B : Nat} (pb pc pq : Nat) (ts : List Tm) (hl : ts.length < 20) (hd : ∀ t ∈ ts, Digs t.coef.abs) (hz : ∀ t ∈ ts, t.coef.abs.length ≤ B) (hb : B ≤ 1000000000000) : CtrL Try.prog 39 [sIs pb 0 (ts.length) (pc)] pb 63 (cRow encTm (ts) (pq)) (cRow encTm (ts) (pq)) (tSl encTm (normS ts)) := by
  have hkl := keepT_len ts
  have hsl := sortT_len (keepT ts)
  have hm : ∀ t ∈ sortT (keepT ts), t ∈ ts := fun t h => (List.mem_filter.1 (sortT_mem t h)).1
  refine CtrL.of Try.func39 rfl Try.ntmps39 (Nat.le_of_ble_eq_true rfl) fun w0 M0 => ?_
  refine JC.seq ?_
  refine JC.region ?_
  refine J.op (ot_assign (.nil (E := encTm))) rfl (ltN rfl) rfl ?_
  refine J.nil ?_
  refine JQ.then_normal ?_
  refine JC.seq ?_
  refine JC.region ?_
  refine J.op (ot_assign .is) rfl (ltN rfl) rfl ?_
  refine J.nil ?_
  refine JQ.then_normal ?_
  refine JC.seq ?_
  refine JC.seq ?_
  refine JC.region ?_
  refine J.op (ot_move (.tmp rfl)) rfl (ltN rfl) rfl ?_
  refine J.op (ot_len_own (.tmp rfl) sl65 rfl) rfl (ltN rfl) rfl ?_
  refine J.op (ot_move .is) rfl (ltN rfl) rfl ?_
  refine J.nil ?_
  refine JQ.then_normal ?_
  refine JC.block ?_
  refine JC.loop4 (α := Bool) (β := Nat) (γ := Nat) (δ := Nat) (fun e k b c => bif e then [(2, tSl encTm ([])), (3, tIs (.slice none 0 0)), (9, sIs pb 0 (ts.length) (pc)), (10, tIs (.int .i64 (((ts.length : Nat) : Int)))), (11, tIs (.int .i64 (((k : Nat) : Int))))] else [(2, tSl encTm ([])), (3, sIs b 0 ((keepT (ts.take k)).length) (c)), (9, sIs pb 0 (ts.length) (pc)), (10, tIs (.int .i64 (((ts.length : Nat) : Int)))), (11, tIs (.int .i64 (((k : Nat) : Int))))]) (fun e k b c => bif e then [⟨pb, 63, cRow encTm (ts) (pq)⟩] else [⟨b, 63, cRow encTm (keepT (ts.take k)) (c)⟩, ⟨pb, 63, cRow encTm (ts) (pq)⟩]) (fun e k b c => k ≤ ts.length ∧ (e = true → keepT (ts.take k) = [])) (fun e k b c => ts.length - k) true 0 0 0 ⟨by omega, fun _ => rfl⟩ ?lsub0 ?round0
  case lsub0 => exact sub_trans (sub_heap (.keep (fun _ _ h => h) .nil)) (sub_cons (.tmp rfl) (sub_cons (.tmp rfl) (sub_cons (.tmp rfl) (sub_cons (.tmp rfl) (sub_cons (.eq (.tmp rfl) (by first | rfl | (congr 3; omega) | (congr 2; omega))) (sub_nil))))))
  intro e k b c hinv
  rcases e with _ | _
  · change JC _ _ _ [(2, tSl encTm ([])), (3, sIs b 0 ((keepT (ts.take k)).length) (c)), (9, sIs pb 0 (ts.length) (pc)), (10, tIs (.int .i64 (((ts.length : Nat) : Int)))), (11, tIs (.int .i64 (((k : Nat) : Int))))] [⟨b, 63, cRow encTm (keepT (ts.take k)) (c)⟩, ⟨pb, 63, cRow encTm (ts) (pq)⟩]
    obtain ⟨hk, he⟩ := hinv
    have hkk := keepT_len (ts.take k)
    rw [List.length_take] at hkk
    refine JC.seq ?_
    refine JC.region ?_
    refine J.op (ot_lss (.tmp rfl) (.tmp rfl)) rfl (ltN rfl) rfl ?_
    refine J.nil ?_
    refine JQ.then_normal ?_
    refine JC.seq ?_
    -- cond0: tIs (.bool (decide (((k : Nat) : Int) < ((ts.length : Nat) : Int))))
    refine JC.cond (.tmp rfl) (fun hc0 => ?_) (fun hc0 => ?_)
    · try simp only [Bool.and_eq_true, Bool.or_eq_true, Bool.not_eq_true', Bool.not_eq_false', Bool.and_eq_false_iff, Bool.or_eq_false_iff, Bool.not_true, Bool.not_false, decide_eq_true_eq, decide_eq_false_iff_not, beq_iff_eq, beq_eq_false_iff_ne, Bool.not_eq_eq_eq_not] at hc0
      have hs12 := hc0
      refine JC.skip ?_
      refine JQ.then_normal ?_
      refine JC.seq ?_
      refine JC.block ?_
      refine JC.seq ?_
      refine JC.region ?_
      refine J.op (ot_eqt (T' := pOwn pb (0 + k * 6)) (ot_index_own (.tmp rfl) (.tmp rfl) sl65 (by omega) (by omega)) (own_off2 (by omega))) rfl (ltN rfl) rfl ?_
      refine J.op (ot_load_own_agg (.tmp rfl) (.tail _ (.head _)) ag63 (row_agg rfl (atT_some (by omega)))) rfl (ltN rfl) rfl ?_
      refine J.alloc (R := cTs [tIs (.bool (false)), tSl encD ([]), tIs (.int .i64 (0)), tIs (.int .i64 (0)), tIs (.int .i64 (0)), tIs (.int .i64 (0))]) zr63 (fun _ => ⟨rfl, rfl, slP_nil _ _, rfl, rfl, rfl, rfl, rfl, rfl, rfl, rfl, rfl, trivial⟩) (ltN rfl) fun b5 => ?_
      refine J.store (.tmp rfl) (.eq (.tmp rfl) (tV_F (Ts := [tIs (.bool (((atT ts k).coef).neg)), tSl encD (((atT ts k).coef).abs), tIs (.int .i64 (((atT ts k).exp).a)), tIs (.int .i64 (((atT ts k).exp).b)), tIs (.int .i64 (((atT ts k).exp).c)), tIs (.int .i64 (((atT ts k).exp).d))]) rfl)) .here sz63 (st_agg (Ts' := [tIs (.bool (((atT ts k).coef).neg)), tSl encD (((atT ts k).coef).abs), tIs (.int .i64 (((atT ts k).exp).a)), tIs (.int .i64 (((atT ts k).exp).b)), tIs (.int .i64 (((atT ts k).exp).c)), tIs (.int .i64 (((atT ts k).exp).d))]) (o := 0) rfl) ?_
      refine J.nil ?_
      refine JQ.then_normal ?_
      refine JC.seq ?_
      refine JC.weak (sub_freezeP (R' := cEnc encTm (atT ts k)) [5] ⟨rfl, trivial⟩ .here (cTs_F (f := tmT) (x := atT ts k) rfl rfl)) ?_
      refine JC.region ?_
      refine J.op (ot_fieldAddr (R' := cDrop (cEnc encTm (atT ts k)) 2) (.tmp rfl) fd63_1 (fun _ _ h => cDrop_mk h)) rfl (ltN rfl) rfl ?_
      refine J.op (ot_sliceA (.tmp rfl) ar4_61 tm_exp) rfl (ltN rfl) rfl ?_
      refine J.op (ot_call fn57 (min_c ((atT ts k).exp.list) (by simp [Mo.list])) (.cons (.tmp rfl) .nil)) rfl (ltN rfl) rfl ?_
      refine J.op (ot_geq (.tmp rfl) .is) rfl (ltN rfl) rfl ?_
      refine J.nil ?_
      refine JQ.then_normal ?_
      -- cond1: tIs (.bool (decide (0 ≤ (minL (atN ((atT ts k).exp.list) 0) (((atT ts k).exp.list).drop 1)))))
      refine JC.cond (.tmp rfl) (fun hc1 => ?_) (fun hc1 => ?_)
      · try simp only [Bool.and_eq_true, Bool.or_eq_true, Bool.not_eq_true', Bool.not_eq_false', Bool.and_eq_false_iff, Bool.or_eq_false_iff, Bool.not_true, Bool.not_false, decide_eq_true_eq, decide_eq_false_iff_not, beq_iff_eq, beq_eq_false_iff_ne, Bool.not_eq_eq_eq_not] at hc1
        have hs18 := hc1
        refine JC.region ?_
        refine J.op (ot_move (.tmp rfl)) rfl (ltN rfl) rfl ?_
        refine J.op (ot_load_agg (.tmp rfl) ag63 ldp_whole) rfl (ltN rfl) rfl ?_
        refine J.op (ot_buildSlice (E := encTm) (zs := [atT ts k]) sl65 (.cons (.tmp rfl) .nil) rfl zr63 rfl (by decide) (by decide)) rfl (ltN rfl) rfl ?_
        refine J.append (E := encTm) (xs := keepT (ts.take k)) (ys := [atT ts k]) (.tmp rfl) rfl (.tmp rfl) sl65 rfl zr63 rfl .here (by simp <;> omega) (by simp <;> omega) (ltN rfl) fun b22 c22 => ?_
        refine J.op (ot_assign (.tmp rfl)) rfl (ltN rfl) rfl ?_
        refine J.nil ?_
        refine JQ.block_normal ?_
        refine JQ.then_normal ?_
        refine JC.region ?_
        refine J.op (ot_add (.tmp rfl) .is (w64 (by omega) (by omega))) rfl (ltN rfl) rfl ?_
        refine J.op (ot_move (.tmp rfl)) rfl (ltN rfl) rfl ?_
        refine J.nil ?_
        have hyes := keepT_yes (show k < ts.length by omega) (okT_iff.2 hs18)
        exact JQ.round4 (i := false) (i2 := k) (i3 := b) (i4 := c) false (k + 1) b22 c22 ⟨by omega, fun h => by cases h⟩ (by omega) (sub_trans (sub_heap (.keep (cRow_eq hyes) (.keep (fun _ _ h => h) .nil))) (sub_cons (.tmp rfl) (sub_cons (.eq (.tmp rfl) (by rw [hyes])) (sub_cons (.tmp rfl) (sub_cons (.tmp rfl) (sub_cons (.eq (.tmp rfl) (by first | rfl | (congr 3; omega) | (congr 2; omega))) (sub_nil)))))))
      · try simp only [Bool.and_eq_true, Bool.or_eq_true, Bool.not_eq_true', Bool.not_eq_false', Bool.and_eq_false_iff, Bool.or_eq_false_iff, Bool.not_true, Bool.not_false, decide_eq_true_eq, decide_eq_false_iff_not, beq_iff_eq, beq_eq_false_iff_ne, Bool.not_eq_eq_eq_not] at hc1
        have hs18 := hc1
        refine JC.skip ?_
        refine JQ.block_normal ?_
        refine JQ.then_normal ?_
        refine JC.region ?_
        refine J.op (ot_add (.tmp rfl) .is (w64 (by omega) (by omega))) rfl (ltN rfl) rfl ?_
        refine J.op (ot_move (.tmp rfl)) rfl (ltN rfl) rfl ?_
        refine J.nil ?_
        have hno := keepT_no (show k < ts.length by omega) (fun h => hs18 (okT_iff.1 h))
        exact JQ.round4 (i := false) (i2 := k) (i3 := b) (i4 := c) false (k + 1) b c ⟨by omega, fun h => by cases h⟩ (by omega) (sub_trans (sub_heap (.keep (cRow_eq hno) (.keep (fun _ _ h => h) .nil))) (sub_cons (.tmp rfl) (sub_cons (.eq (.tmp rfl) (by rw [hno])) (sub_cons (.tmp rfl) (sub_cons (.tmp rfl) (sub_cons (.eq (.tmp rfl) (by first | rfl | (congr 3; omega) | (congr 2; omega))) (sub_nil)))))))
    · try simp only [Bool.and_eq_true, Bool.or_eq_true, Bool.not_eq_true', Bool.not_eq_false', Bool.and_eq_false_iff, Bool.or_eq_false_iff, Bool.not_true, Bool.not_false, decide_eq_true_eq, decide_eq_false_iff_not, beq_iff_eq, beq_eq_false_iff_ne, Bool.not_eq_eq_eq_not] at hc0
      have hs12 := hc0
      have hkt : keepT (ts.take k) = keepT ts := by rw [List.take_of_length_le (by omega)]
      refine JC.exit ?_
      refine JQ.then_exit ?_
      refine JQ.then_exit ?_
      refine JQ.block_exit ?_
      refine JQ.then_normal ?_
      refine JC.seq ?_
      refine JC.region ?_
      refine J.op (ot_move (.tmp rfl)) rfl (ltN rfl) rfl ?_
      refine J.callL (R' := cRow encTm (sortT (keepT (ts.take k))) (c)) (Us := []) (cap := []) fn58 (.func (fun _ => rfl)) (sort_c b c (keepT (ts.take k)) (by omega)) (.cons (.tmp rfl) (.cons (.func (fun _ => rfl)) .nil)) (fun _ => trivial) .here (ltN rfl) ?_
      refine J.nil ?_
      refine JQ.then_normal ?_
      refine JC.seq ?_
      refine JC.weak (sub_freeze0 (E := encTm) (xs := sortT (keepT (ts.take k))) (n := (keepT (ts.take k)).length) (c := c) [24, 3] ⟨rfl, rfl, trivial⟩ .here (by rw [sortT_len]) (by omega)) ?_
      refine JC.region ?_
      refine J.op (ot_assign .is) rfl (ltN rfl) rfl ?_
      refine J.nil ?_
      refine JQ.then_normal ?_
      refine JC.seq ?_
      refine JC.seq ?_
      refine JC.region ?_
      refine J.op (ot_assign .is) rfl (ltN rfl) rfl ?_
      refine J.nil ?_
      refine JQ.then_normal ?_
      refine JC.block ?_
      refine JC.loop5 (α := Bool) (β := Nat) (γ := List Tm) (δ := Nat) (ε := Nat) (fun e i O b c => bif e then [(2, tSl encTm ([])), (3, tSl encTm ((sortT (keepT ts)))), (6, tIs (.slice none 0 0)), (7, tIs (.int .i64 (((i : Nat) : Int))))] else [(2, tSl encTm ([])), (3, tSl encTm ((sortT (keepT ts)))), (6, sIs b 0 (O.length) (c)), (7, tIs (.int .i64 (((i : Nat) : Int))))]) (fun e i O b c => bif e then [⟨pb, 63, cRow encTm (ts) (pq)⟩] else [⟨b, 63, cRow encTm (O) (c)⟩, ⟨pb, 63, cRow encTm (ts) (pq)⟩]) (fun e i O b c => i ≤ (sortT (keepT ts)).length ∧ O ++ mergeT ((sortT (keepT ts)).drop i) = mergeT (sortT (keepT ts)) ∧ O.length ≤ i ∧ (e = true → O = [])) (fun e i O b c => (sortT (keepT ts)).length - i) true 0 ([]) 0 0 ⟨by omega, by simp, by simp, fun _ => rfl⟩ ?lsub1 ?round1
      case lsub1 => exact sub_trans (sub_heap (.keep (fun _ _ h => h) .nil)) (sub_cons (.tmp rfl) (sub_cons (.eq (.tmp rfl) (by rw [hkt])) (sub_cons (.tmp rfl) (sub_cons (.eq (.tmp rfl) (by first | rfl | (congr 3; omega) | (congr 2; omega))) (sub_nil)))))
      intro e i O b c hinv
      rcases e with _ | _
      · change JC _ _ _ [(2, tSl encTm ([])), (3, tSl encTm ((sortT (keepT ts)))), (6, sIs b 0 (O.length) (c)), (7, tIs (.int .i64 (((i : Nat) : Int))))] [⟨b, 63, cRow encTm (O) (c)⟩, ⟨pb, 63, cRow encTm (ts) (pq)⟩]
        obtain ⟨hi, hO, hOl, hOe⟩ := hinv
        refine JC.seq ?_
        refine JC.seq ?_
        refine JC.region ?_
        refine J.op (ot_move (.tmp rfl)) rfl (ltN rfl) rfl ?_
        refine J.op (ot_move (.tmp rfl)) rfl (ltN rfl) rfl ?_
        refine J.op (ot_len (.tmp rfl) sl65 rfl) rfl (ltN rfl) rfl ?_
        refine J.op (ot_lss (.tmp rfl) (.tmp rfl)) rfl (ltN rfl) rfl ?_
        refine J.nil ?_
        refine JQ.then_normal ?_
        -- cond2: tIs (.bool (decide (((i : Nat) : Int) < (((sortT (keepT ts))).length : Int))))
        refine JC.cond (.tmp rfl) (fun hc2 => ?_) (fun hc2 => ?_)
        · try simp only [Bool.and_eq_true, Bool.or_eq_true, Bool.not_eq_true', Bool.not_eq_false', Bool.and_eq_false_iff, Bool.or_eq_false_iff, Bool.not_true, Bool.not_false, decide_eq_true_eq, decide_eq_false_iff_not, beq_iff_eq, beq_eq_false_iff_ne, Bool.not_eq_eq_eq_not] at hc2
          have hs29 := hc2
          refine JC.skip ?_
          refine JQ.then_normal ?_
          refine JC.block ?_
          refine JC.seq ?_
          refine JC.region ?_
          refine J.op (ot_move (.tmp rfl)) rfl (ltN rfl) rfl ?_
          refine J.op (ot_move (.tmp rfl)) rfl (ltN rfl) rfl ?_
          refine J.op (ot_index (z := atT (sortT (keepT ts)) i) (.tmp rfl) (.tmp rfl) sl65 (by omega) (atT_at (by omega) (by omega))) rfl (ltN rfl) rfl ?_
          refine J.op (ot_fieldAddr (R' := cDrop (cEnc encTm (atT (sortT (keepT ts)) i)) 2) (.tmp rfl) fd63_1 (fun _ _ h => cDrop_mk h)) rfl (ltN rfl) rfl ?_
          refine J.op (ot_load_agg (.tmp rfl) ag61 (ldFV (g := moT) (y := (atT (sortT (keepT ts)) i).exp) rfl rfl)) rfl (ltN rfl) rfl ?_
          refine J.op (ot_eqt (T' := tV encTm (Tm.mk (Z.mk (false) ([])) ((atT (sortT (keepT ts)) i).exp))) (ot_build (Ts := [tIs (.bool (false)), tSl encD ([]), tIs (.int .i64 (0)), tIs (.int .i64 (0)), tIs (.int .i64 (0)), tIs (.int .i64 (0))]) pl63 (fun _ => ⟨rfl, rfl, slP_nil _ _, rfl, rfl, rfl, rfl, rfl, rfl, rfl, rfl, rfl, trivial⟩) ((.agg (off := 2) rfl (.eq (.tmp rfl) (tV_F (Ts := [tIs (.int .i64 (((atT (sortT (keepT ts)) i).exp).a)), tIs (.int .i64 (((atT (sortT (keepT ts)) i).exp).b)), tIs (.int .i64 (((atT (sortT (keepT ts)) i).exp).c)), tIs (.int .i64 (((atT (sortT (keepT ts)) i).exp).d))]) rfl)) (Ts' := [tIs (.bool (false)), tSl encD ([]), tIs (.int .i64 (((atT (sortT (keepT ts)) i).exp).a)), tIs (.int .i64 (((atT (sortT (keepT ts)) i).exp).b)), tIs (.int .i64 (((atT (sortT (keepT ts)) i).exp).c)), tIs (.int .i64 (((atT (sortT (keepT ts)) i).exp).d))]) rfl rfl .nil)) rfl) (tV_F' rfl)) rfl (ltN rfl) rfl ?_
          refine J.alloc (R := cTs [tIs (.bool (false)), tSl encD ([]), tIs (.int .i64 (0)), tIs (.int .i64 (0)), tIs (.int .i64 (0)), tIs (.int .i64 (0))]) zr63 (fun _ => ⟨rfl, rfl, slP_nil _ _, rfl, rfl, rfl, rfl, rfl, rfl, rfl, rfl, rfl, trivial⟩) (ltN rfl) fun b8 => ?_
          refine J.store (.tmp rfl) (.eq (.tmp rfl) (tV_F (Ts := [tIs (.bool (false)), tSl encD ([]), tIs (.int .i64 (((atT (sortT (keepT ts)) i).exp).a)), tIs (.int .i64 (((atT (sortT (keepT ts)) i).exp).b)), tIs (.int .i64 (((atT (sortT (keepT ts)) i).exp).c)), tIs (.int .i64 (((atT (sortT (keepT ts)) i).exp).d))]) rfl)) .here sz63 (st_agg (Ts' := [tIs (.bool (false)), tSl encD ([]), tIs (.int .i64 (((atT (sortT (keepT ts)) i).exp).a)), tIs (.int .i64 (((atT (sortT (keepT ts)) i).exp).b)), tIs (.int .i64 (((atT (sortT (keepT ts)) i).exp).c)), tIs (.int .i64 (((atT (sortT (keepT ts)) i).exp).d))]) (o := 0) rfl) ?_
          refine J.nil ?_
          refine JQ.then_normal ?_
          refine JC.seq ?_
          refine JC.block ?_
          refine JC.loop2 (α := Nat) (β := Int) (fun j q => [(2, tSl encTm ([])), (3, tSl encTm ((sortT (keepT ts)))), (6, sIs b 0 (O.length) (c)), (7, tIs (.int .i64 (((j : Nat) : Int)))), (8, pOwn b8 (0)), (26, tIs (.int .i64 (((i : Nat) : Int)))), (27, tSl encTm ((sortT (keepT ts)))), (28, tIs (.int .i64 ((((sortT (keepT ts))).length : Int)))), (29, tIs (.bool (decide (((i : Nat) : Int) < (((sortT (keepT ts))).length : Int))))), (30, tSl encTm ((sortT (keepT ts)))), (31, tIs (.int .i64 (((i : Nat) : Int)))), (32, tPtr (cEnc encTm (atT (sortT (keepT ts)) i))), (33, tPtr (cDrop (cEnc encTm (atT (sortT (keepT ts)) i)) 2)), (34, tV encMo ((atT (sortT (keepT ts)) i).exp)), (35, tV encTm (Tm.mk (Z.mk (false) ([])) ((atT (sortT (keepT ts)) i).exp)))]) (fun j q => [⟨b8, 63, cTs [tIs (.bool ((ofI q).neg)), tSl encD ((ofI q).abs), tIs (.int .i64 (((atT (sortT (keepT ts)) i).exp).a)), tIs (.int .i64 (((atT (sortT (keepT ts)) i).exp).b)), tIs (.int .i64 (((atT (sortT (keepT ts)) i).exp).c)), tIs (.int .i64 (((atT (sortT (keepT ts)) i).exp).d))]⟩, ⟨b, 63, cRow encTm (O) (c)⟩, ⟨pb, 63, cRow encTm (ts) (pq)⟩]) (fun j q => i ≤ j ∧ j ≤ (sortT (keepT ts)).length ∧ sumRun (atT (sortT (keepT ts)) i).exp q ((sortT (keepT ts)).drop j) = sumRun (atT (sortT (keepT ts)) i).exp 0 ((sortT (keepT ts)).drop i) ∧ q.natAbs ≤ j * B32 ^ B) (fun j q => (sortT (keepT ts)).length - j) i 0 ⟨by omega, by omega, rfl, by simp⟩ ?lsub2 ?round2
          case lsub2 => exact sub_trans (sub_heap (.keep (fun _ _ h => by rw [ofI_zero]; exact h) (.keep (fun _ _ h => h) (.keep (fun _ _ h => h) .nil)))) (sub_cons (.tmp rfl) (sub_cons (.tmp rfl) (sub_cons (.tmp rfl) (sub_cons (.tmp rfl) (sub_cons (.tmp rfl) (sub_cons (.tmp rfl) (sub_cons (.tmp rfl) (sub_cons (.tmp rfl) (sub_cons (.tmp rfl) (sub_cons (.tmp rfl) (sub_cons (.tmp rfl) (sub_cons (.tmp rfl) (sub_cons (.tmp rfl) (sub_cons (.tmp rfl) (sub_cons (.tmp rfl) (sub_nil))))))))))))))))
          intro j q hinv
          obtain ⟨hij, hjl, hrun, hq⟩ := hinv
          have hqf := sum_fit hq (by omega)
          have hqf2 : (ofI q).abs.length ≤ B + 1 := hqf
          refine JC.seq ?_
          refine JC.seq ?_
          refine JC.draw (Γ' := ?g1) mo (by kernel_rfl) ?tw1 ?k1
          case tw1 =>
            refine TW.op (ot_move (.tmp rfl)) rfl (ltN rfl) rfl ?_
            refine TW.op (ot_move (.tmp rfl)) rfl (ltN rfl) rfl ?_
            refine TW.op (ot_len (.tmp rfl) sl65 rfl) rfl (ltN rfl) rfl ?_
            refine TW.op (ot_lss (.tmp rfl) (.tmp rfl)) rfl (ltN rfl) rfl ?_
            refine TW.op (ot_move (.tmp rfl)) rfl (ltN rfl) rfl ?_
            refine TW.opg rfl rfl rfl (ltN rfl) (fun hg => ot_move (.tmp rfl)) rfl (ltN rfl) ?_
            refine TW.opg rfl rfl rfl (ltN rfl) (fun hg => ot_move (.tmp rfl)) rfl (ltN rfl) ?_
            refine TW.opg rfl rfl rfl (ltN rfl) (fun hg => (by have hg' := hg; simp only [Bool.and_eq_true, Bool.or_eq_true, Bool.not_eq_true', Bool.not_eq_false', Bool.and_eq_false_iff, Bool.or_eq_false_iff, Bool.not_true, Bool.not_false, decide_eq_true_eq, decide_eq_false_iff_not, beq_iff_eq, beq_eq_false_iff_ne, Bool.not_eq_eq_eq_not] at hg'; exact ot_index (z := atT (sortT (keepT ts)) j) (.iff hg (.tmp rfl)) (.iff hg (.tmp rfl)) sl65 (by omega) (atT_at (by omega) (by omega)))) rfl (ltN rfl) ?_
            refine TW.opg rfl rfl rfl (ltN rfl) (fun hg => ot_fieldAddr (R' := cDrop (cEnc encTm (atT (sortT (keepT ts)) j)) 2) (.iff hg (.tmp rfl)) fd63_1 (fun _ _ h => cDrop_mk h)) rfl (ltN rfl) ?_
            refine TW.opg rfl rfl rfl (ltN rfl) (fun hg => ot_load_agg (.iff hg (.tmp rfl)) ag61 (ldFV (g := moT) (y := (atT (sortT (keepT ts)) j).exp) rfl rfl)) rfl (ltN rfl) ?_
            refine TW.opg rfl rfl rfl (ltN rfl) (fun hg => ot_fieldAddr_own (.tmp rfl) fd63_1) rfl (ltN rfl) ?_
            refine TW.opg rfl rfl rfl (ltN rfl) (fun hg => ot_load_own_agg (.iff hg (.tmp rfl)) (.head _) ag61 (cTs_ldV (g := moT) (y := ((atT (sortT (keepT ts)) i).exp)) rfl rfl)) rfl (ltN rfl) ?_
            refine TW.opg rfl rfl rfl (ltN rfl) (fun hg => ot_eqA (.iff hg (.tmp rfl)) (.iff hg (.tmp rfl)) ar4_61) rfl (ltN rfl) ?_
            refine TW.op (ot_and2 (.tmp rfl) (.tmp rfl) .is) rfl (ltN rfl) rfl ?_
            exact TW.nil
          refine JQ.then_normal ?_
          -- cond3: tIs (.bool ((decide (((j : Nat) : Int) < (((sortT (keepT ts))).length : Int))) && (decide (((atT (sortT (keepT ts)) j).exp) = ((atT (sortT (keepT ts)) i).exp)))))
          refine JC.cond (.tmp rfl) (fun hc3 => ?_) (fun hc3 => ?_)
          · try simp only [Bool.and_eq_true, Bool.or_eq_true, Bool.not_eq_true', Bool.not_eq_false', Bool.and_eq_false_iff, Bool.or_eq_false_iff, Bool.not_true, Bool.not_false, decide_eq_true_eq, decide_eq_false_iff_not, beq_iff_eq, beq_eq_false_iff_ne, Bool.not_eq_eq_eq_not] at hc3
            have hs49 := hc3
            have hmj : atT (sortT (keepT ts)) j ∈ ts := hm _ (atT_mem (by omega))
            have hzj := hz _ hmj
            refine JC.skip ?_
            refine JQ.then_normal ?_
            refine JC.block ?_
            refine JC.seq ?_
            refine JC.drawAt (Γ' := ?g2) 9 mo (by kernel_rfl) ?tw2 ?k2
            case tw2 =>
              refine TW.op (ot_fieldAddr_own (.tmp rfl) fd63_0) rfl (ltN rfl) rfl ?_
              refine TW.op (ot_load_own_agg (.tmp rfl) (.head _) ag25 (cTs_ldV (g := zT) (y := (ofI q)) rfl rfl)) rfl (ltN rfl) rfl ?_
              refine TW.op (ot_move (.tmp rfl)) rfl (ltN rfl) rfl ?_
              refine TW.op (ot_move (.tmp rfl)) rfl (ltN rfl) rfl ?_
              refine TW.op (ot_index (z := atT (sortT (keepT ts)) j) (.tmp rfl) (.tmp rfl) sl65 (by omega) (atT_at (by omega) (by omega))) rfl (ltN rfl) rfl ?_
              refine TW.op (ot_fieldAddr (.tmp rfl) fd63_0 (fun _ _ h => h)) rfl (ltN rfl) rfl ?_
              refine TW.op (ot_load_agg (.tmp rfl) ag25 (ldFV0 (g := zT) (y := (atT (sortT (keepT ts)) j).coef) rfl rfl)) rfl (ltN rfl) rfl ?_
              refine TW.op (ot_eqt (T' := tV encI (ofI (q + zval (atT (sortT (keepT ts)) j).coef))) (ot_call fn48 (intAdd_c (ofI q) ((atT (sortT (keepT ts)) j).coef) (by omega) (by omega)) (.cons (.tmp rfl) (.cons (.tmp rfl) .nil))) (by rw [zval_ofI])) rfl (ltN rfl) rfl ?_
              refine TW.op (ot_fieldAddr_own (.tmp rfl) fd63_0) rfl (ltN rfl) rfl ?_
              exact TW.nil
            refine J.store (.tmp rfl) (.eq (.tmp rfl) (tV_F (Ts := [tIs (.bool ((ofI (q + zval (atT (sortT (keepT ts)) j).coef)).neg)), tSl encD ((ofI (q + zval (atT (sortT (keepT ts)) j).coef)).abs)]) rfl)) .here sz25 (st_agg (Ts' := [tIs (.bool ((ofI (q + zval (atT (sortT (keepT ts)) j).coef)).neg)), tSl encD ((ofI (q + zval (atT (sortT (keepT ts)) j).coef)).abs), tIs (.int .i64 (((atT (sortT (keepT ts)) i).exp).a)), tIs (.int .i64 (((atT (sortT (keepT ts)) i).exp).b)), tIs (.int .i64 (((atT (sortT (keepT ts)) i).exp).c)), tIs (.int .i64 (((atT (sortT (keepT ts)) i).exp).d))]) (o := 0) rfl) ?_
            refine J.nil ?_
            refine JQ.then_normal ?_
            refine JC.region ?_
            refine J.op (ot_move (.tmp rfl)) rfl (ltN rfl) rfl ?_
            refine J.op (ot_add (.tmp rfl) .is (w64 (by omega) (by omega))) rfl (ltN rfl) rfl ?_
            refine J.op (ot_assign (.tmp rfl)) rfl (ltN rfl) rfl ?_
            refine J.nil ?_
            refine JQ.block_normal ?_
            exact JQ.round2 (i := j) (i2 := q) (j + 1) (q + zval (atT (sortT (keepT ts)) j).coef) ⟨by omega, by omega, by rw [← hrun]; exact sumRun_step (by omega) hs49.2, sum_next hq (hd _ hmj) (hz _ hmj)⟩ (by omega) (sub_trans (sub_heap (.keep (fun _ _ h => h) (.keep (fun _ _ h => h) (.keep (fun _ _ h => h) .nil)))) (sub_cons (.tmp rfl) (sub_cons (.tmp rfl) (sub_cons (.tmp rfl) (sub_cons (.eq (.tmp rfl) (by first | rfl | (congr 3; omega) | (congr 2; omega))) (sub_cons (.tmp rfl) (sub_cons (.tmp rfl) (sub_cons (.tmp rfl) (sub_cons (.tmp rfl) (sub_cons (.tmp rfl) (sub_cons (.tmp rfl) (sub_cons (.tmp rfl) (sub_cons (.tmp rfl) (sub_cons (.tmp rfl) (sub_cons (.tmp rfl) (sub_cons (.tmp rfl) (sub_nil)))))))))))))))))
          · try simp only [Bool.and_eq_true, Bool.or_eq_true, Bool.not_eq_true', Bool.not_eq_false', Bool.and_eq_false_iff, Bool.or_eq_false_iff, Bool.not_true, Bool.not_false, decide_eq_true_eq, decide_eq_false_iff_not, beq_iff_eq, beq_eq_false_iff_ne, Bool.not_eq_eq_eq_not] at hc3
            have hs49 := hc3
            have hst := sumRun_stop (c := q) (show ¬ j < (sortT (keepT ts)).length ∨ ¬ (atT (sortT (keepT ts)) j).exp = (atT (sortT (keepT ts)) i).exp from hs49.imp (fun h => by omega) id)
            rw [hrun] at hst
            have hlt : i < j := by rcases Nat.lt_or_eq_of_le hij with h | h; exact h; subst h; rcases hs49 with q | q; omega; exact absurd rfl q
            refine JC.exit ?_
            refine JQ.then_exit ?_
            refine JQ.then_exit ?_
            refine JQ.block_exit ?_
            refine JQ.then_normal ?_
            refine JC.seq ?_
            refine JC.region ?_
            refine J.op (ot_fieldAddr_own (.tmp rfl) fd63_0) rfl (ltN rfl) rfl ?_
            refine J.op (ot_load_own_agg (.tmp rfl) (.head _) ag25 (cTs_ldV (g := zT) (y := (ofI q)) rfl rfl)) rfl (ltN rfl) rfl ?_
            refine J.op (ot_eqt (T' := tIs (.int .i64 (sgn q))) (ot_call fn25 (intSign_c (ofI q) (by omega)) (.cons (.tmp rfl) .nil)) (by rw [zval_ofI])) rfl (ltN rfl) rfl ?_
            refine J.op (ot_neq (.tmp rfl) .is) rfl (ltN rfl) rfl ?_
            refine J.nil ?_
            refine JQ.then_normal ?_
            -- cond4: tIs (.bool (!decide ((sgn q) = 0)))
            refine JC.cond (.tmp rfl) (fun hc4 => ?_) (fun hc4 => ?_)
            · try simp only [Bool.and_eq_true, Bool.or_eq_true, Bool.not_eq_true', Bool.not_eq_false', Bool.and_eq_false_iff, Bool.or_eq_false_iff, Bool.not_true, Bool.not_false, decide_eq_true_eq, decide_eq_false_iff_not, beq_iff_eq, beq_eq_false_iff_ne, Bool.not_eq_eq_eq_not] at hc4
              have hs64 := hc4
              refine JC.region ?_
              refine J.op (ot_move (.tmp rfl)) rfl (ltN rfl) rfl ?_
              refine J.op (ot_load_own_agg (.tmp rfl) (.head _) ag63 (cTs_ldV (g := tmT) (y := (Tm.mk (ofI q) ((atT (sortT (keepT ts)) i).exp))) rfl rfl)) rfl (ltN rfl) rfl ?_
              refine J.op (ot_buildSlice (E := encTm) (zs := [Tm.mk (ofI q) ((atT (sortT (keepT ts)) i).exp)]) sl65 (.cons (.tmp rfl) .nil) rfl zr63 rfl (by decide) (by decide)) rfl (ltN rfl) rfl ?_
              refine J.append (E := encTm) (xs := O) (ys := [Tm.mk (ofI q) ((atT (sortT (keepT ts)) i).exp)]) (.tmp rfl) rfl (.tmp rfl) sl65 rfl zr63 rfl (.there .here) (by simp <;> omega) (by simp <;> omega) (ltN rfl) fun b68 c68 => ?_
              refine J.op (ot_assign (.tmp rfl)) rfl (ltN rfl) rfl ?_
              refine J.nil ?_
              refine JQ.block_normal ?_
              have hq0 : ¬ q = 0 := fun h => hs64 (by rw [h]; rfl)
              exact JQ.round5 (i := false) (i2 := i) (i3 := O) (i4 := b) (i5 := c) false j (O ++ [Tm.mk (ofI q) ((atT (sortT (keepT ts)) i).exp)]) b68 c68 ⟨hjl, merge_yes (by omega) hO hst hq0, by simp; omega, fun h => by cases h⟩ (by omega) (sub_trans (sub_heap (.keep (fun _ _ h => by first | exact h | simpa using h) (.drop (.keep (fun _ _ h => h) .nil)))) (sub_cons (.tmp rfl) (sub_cons (.tmp rfl) (sub_cons (.eq (.tmp rfl) (by first | rfl | (congr 3; omega) | (congr 2; omega))) (sub_cons (.tmp rfl) (sub_nil))))))
            · try simp only [Bool.and_eq_true, Bool.or_eq_true, Bool.not_eq_true', Bool.not_eq_false', Bool.and_eq_false_iff, Bool.or_eq_false_iff, Bool.not_true, Bool.not_false, decide_eq_true_eq, decide_eq_false_iff_not, beq_iff_eq, beq_eq_false_iff_ne, Bool.not_eq_eq_eq_not] at hc4
              have hs64 := hc4
              refine JC.skip ?_
              refine JQ.block_normal ?_
              have hq0 : q = 0 := by rcases sgn_cases q with h | h | h <;> omega
              exact JQ.round5 (i := false) (i2 := i) (i3 := O) (i4 := b) (i5 := c) false j O b c ⟨hjl, merge_no (by omega) hO hst hq0, by omega, fun h => by cases h⟩ (by omega) (sub_trans (sub_heap (.drop (.keep (fun _ _ h => h) (.keep (fun _ _ h => h) .nil)))) (sub_cons (.tmp rfl) (sub_cons (.tmp rfl) (sub_cons (.tmp rfl) (sub_cons (.tmp rfl) (sub_nil))))))
        · try simp only [Bool.and_eq_true, Bool.or_eq_true, Bool.not_eq_true', Bool.not_eq_false', Bool.and_eq_false_iff, Bool.or_eq_false_iff, Bool.not_true, Bool.not_false, decide_eq_true_eq, decide_eq_false_iff_not, beq_iff_eq, beq_eq_false_iff_ne, Bool.not_eq_eq_eq_not] at hc2
          have hs29 := hc2
          refine JC.exit ?_
          refine JQ.then_exit ?_
          refine JQ.then_exit ?_
          refine JQ.block_exit ?_
          refine JQ.then_normal ?_
          refine JC.seq ?_
          refine JC.weak (sub_freeze0 (E := encTm) (xs := O) (n := O.length) (c := c) [6] ⟨rfl, trivial⟩ .here rfl (by omega)) ?_
          refine JC.region ?_
          refine J.op (ot_move (.tmp rfl)) rfl (ltN rfl) rfl ?_
          refine J.op (ot_call fn61 (clip_c O (by omega)) (.cons (.tmp rfl) .nil)) rfl (ltN rfl) rfl ?_
          refine J.op (ot_assign (.tmp rfl)) rfl (ltN rfl) rfl ?_
          refine J.nil ?_
          refine JQ.then_normal ?_
          refine JC.ret ?_
          -- ret0
          exact (JQ.retL1 rfl (.head _) (fun _ _ h => h) (.eq (.tmp rfl) (by rw [merge_end (by omega) hO mergeT_nil]; rfl))).1
      · change JC _ _ _ [(2, tSl encTm ([])), (3, tSl encTm ((sortT (keepT ts)))), (6, tIs (.slice none 0 0)), (7, tIs (.int .i64 (((i : Nat) : Int))))] [⟨pb, 63, cRow encTm (ts) (pq)⟩]
        obtain ⟨hi, hO, hOl, hOe⟩ := hinv
        refine JC.seq ?_
        refine JC.seq ?_
        refine JC.region ?_
        refine J.op (ot_move (.tmp rfl)) rfl (ltN rfl) rfl ?_
        refine J.op (ot_move (.tmp rfl)) rfl (ltN rfl) rfl ?_
        refine J.op (ot_len (.tmp rfl) sl65 rfl) rfl (ltN rfl) rfl ?_
        refine J.op (ot_lss (.tmp rfl) (.tmp rfl)) rfl (ltN rfl) rfl ?_
        refine J.nil ?_
        refine JQ.then_normal ?_
        -- cond5: tIs (.bool (decide (((i : Nat) : Int) < (((sortT (keepT ts))).length : Int))))
        refine JC.cond (.tmp rfl) (fun hc5 => ?_) (fun hc5 => ?_)
        · try simp only [Bool.and_eq_true, Bool.or_eq_true, Bool.not_eq_true', Bool.not_eq_false', Bool.and_eq_false_iff, Bool.or_eq_false_iff, Bool.not_true, Bool.not_false, decide_eq_true_eq, decide_eq_false_iff_not, beq_iff_eq, beq_eq_false_iff_ne, Bool.not_eq_eq_eq_not] at hc5
          have hs29 := hc5
          refine JC.skip ?_
          refine JQ.then_normal ?_
          refine JC.block ?_
          refine JC.seq ?_
          refine JC.region ?_
          refine J.op (ot_move (.tmp rfl)) rfl (ltN rfl) rfl ?_
          refine J.op (ot_move (.tmp rfl)) rfl (ltN rfl) rfl ?_
          refine J.op (ot_index (z := atT (sortT (keepT ts)) i) (.tmp rfl) (.tmp rfl) sl65 (by omega) (atT_at (by omega) (by omega))) rfl (ltN rfl) rfl ?_
          refine J.op (ot_fieldAddr (R' := cDrop (cEnc encTm (atT (sortT (keepT ts)) i)) 2) (.tmp rfl) fd63_1 (fun _ _ h => cDrop_mk h)) rfl (ltN rfl) rfl ?_
          refine J.op (ot_load_agg (.tmp rfl) ag61 (ldFV (g := moT) (y := (atT (sortT (keepT ts)) i).exp) rfl rfl)) rfl (ltN rfl) rfl ?_
          refine J.op (ot_eqt (T' := tV encTm (Tm.mk (Z.mk (false) ([])) ((atT (sortT (keepT ts)) i).exp))) (ot_build (Ts := [tIs (.bool (false)), tSl encD ([]), tIs (.int .i64 (0)), tIs (.int .i64 (0)), tIs (.int .i64 (0)), tIs (.int .i64 (0))]) pl63 (fun _ => ⟨rfl, rfl, slP_nil _ _, rfl, rfl, rfl, rfl, rfl, rfl, rfl, rfl, rfl, trivial⟩) ((.agg (off := 2) rfl (.eq (.tmp rfl) (tV_F (Ts := [tIs (.int .i64 (((atT (sortT (keepT ts)) i).exp).a)), tIs (.int .i64 (((atT (sortT (keepT ts)) i).exp).b)), tIs (.int .i64 (((atT (sortT (keepT ts)) i).exp).c)), tIs (.int .i64 (((atT (sortT (keepT ts)) i).exp).d))]) rfl)) (Ts' := [tIs (.bool (false)), tSl encD ([]), tIs (.int .i64 (((atT (sortT (keepT ts)) i).exp).a)), tIs (.int .i64 (((atT (sortT (keepT ts)) i).exp).b)), tIs (.int .i64 (((atT (sortT (keepT ts)) i).exp).c)), tIs (.int .i64 (((atT (sortT (keepT ts)) i).exp).d))]) rfl rfl .nil)) rfl) (tV_F' rfl)) rfl (ltN rfl) rfl ?_
          refine J.alloc (R := cTs [tIs (.bool (false)), tSl encD ([]), tIs (.int .i64 (0)), tIs (.int .i64 (0)), tIs (.int .i64 (0)), tIs (.int .i64 (0))]) zr63 (fun _ => ⟨rfl, rfl, slP_nil _ _, rfl, rfl, rfl, rfl, rfl, rfl, rfl, rfl, rfl, trivial⟩) (ltN rfl) fun b8 => ?_
          refine J.store (.tmp rfl) (.eq (.tmp rfl) (tV_F (Ts := [tIs (.bool (false)), tSl encD ([]), tIs (.int .i64 (((atT (sortT (keepT ts)) i).exp).a)), tIs (.int .i64 (((atT (sortT (keepT ts)) i).exp).b)), tIs (.int .i64 (((atT (sortT (keepT ts)) i).exp).c)), tIs (.int .i64 (((atT (sortT (keepT ts)) i).exp).d))]) rfl)) .here sz63 (st_agg (Ts' := [tIs (.bool (false)), tSl encD ([]), tIs (.int .i64 (((atT (sortT (keepT ts)) i).exp).a)), tIs (.int .i64 (((atT (sortT (keepT ts)) i).exp).b)), tIs (.int .i64 (((atT (sortT (keepT ts)) i).exp).c)), tIs (.int .i64 (((atT (sortT (keepT ts)) i).exp).d))]) (o := 0) rfl) ?_
          refine J.nil ?_
          refine JQ.then_normal ?_
          refine JC.seq ?_
          refine JC.block ?_
          refine JC.loop2 (α := Nat) (β := Int) (fun j q => [(2, tSl encTm ([])), (3, tSl encTm ((sortT (keepT ts)))), (6, tIs (.slice none 0 0)), (7, tIs (.int .i64 (((j : Nat) : Int)))), (8, pOwn b8 (0)), (26, tIs (.int .i64 (((i : Nat) : Int)))), (27, tSl encTm ((sortT (keepT ts)))), (28, tIs (.int .i64 ((((sortT (keepT ts))).length : Int)))), (29, tIs (.bool (decide (((i : Nat) : Int) < (((sortT (keepT ts))).length : Int))))), (30, tSl encTm ((sortT (keepT ts)))), (31, tIs (.int .i64 (((i : Nat) : Int)))), (32, tPtr (cEnc encTm (atT (sortT (keepT ts)) i))), (33, tPtr (cDrop (cEnc encTm (atT (sortT (keepT ts)) i)) 2)), (34, tV encMo ((atT (sortT (keepT ts)) i).exp)), (35, tV encTm (Tm.mk (Z.mk (false) ([])) ((atT (sortT (keepT ts)) i).exp)))]) (fun j q => [⟨b8, 63, cTs [tIs (.bool ((ofI q).neg)), tSl encD ((ofI q).abs), tIs (.int .i64 (((atT (sortT (keepT ts)) i).exp).a)), tIs (.int .i64 (((atT (sortT (keepT ts)) i).exp).b)), tIs (.int .i64 (((atT (sortT (keepT ts)) i).exp).c)), tIs (.int .i64 (((atT (sortT (keepT ts)) i).exp).d))]⟩, ⟨pb, 63, cRow encTm (ts) (pq)⟩]) (fun j q => i ≤ j ∧ j ≤ (sortT (keepT ts)).length ∧ sumRun (atT (sortT (keepT ts)) i).exp q ((sortT (keepT ts)).drop j) = sumRun (atT (sortT (keepT ts)) i).exp 0 ((sortT (keepT ts)).drop i) ∧ q.natAbs ≤ j * B32 ^ B) (fun j q => (sortT (keepT ts)).length - j) i 0 ⟨by omega, by omega, rfl, by simp⟩ ?lsub3 ?round3
          case lsub3 => exact sub_trans (sub_heap (.keep (fun _ _ h => by rw [ofI_zero]; exact h) (.keep (fun _ _ h => h) .nil))) (sub_cons (.tmp rfl) (sub_cons (.tmp rfl) (sub_cons (.tmp rfl) (sub_cons (.tmp rfl) (sub_cons (.tmp rfl) (sub_cons (.tmp rfl) (sub_cons (.tmp rfl) (sub_cons (.tmp rfl) (sub_cons (.tmp rfl) (sub_cons (.tmp rfl) (sub_cons (.tmp rfl) (sub_cons (.tmp rfl) (sub_cons (.tmp rfl) (sub_cons (.tmp rfl) (sub_cons (.tmp rfl) (sub_nil))))))))))))))))
          intro j q hinv
          obtain ⟨hij, hjl, hrun, hq⟩ := hinv
          have hqf := sum_fit hq (by omega)
          have hqf2 : (ofI q).abs.length ≤ B + 1 := hqf
          refine JC.seq ?_
          refine JC.seq ?_
          refine JC.draw (Γ' := ?g3) mo (by kernel_rfl) ?tw3 ?k3
          case tw3 =>
            refine TW.op (ot_move (.tmp rfl)) rfl (ltN rfl) rfl ?_
            refine TW.op (ot_move (.tmp rfl)) rfl (ltN rfl) rfl ?_
            refine TW.op (ot_len (.tmp rfl) sl65 rfl) rfl (ltN rfl) rfl ?_
            refine TW.op (ot_lss (.tmp rfl) (.tmp rfl)) rfl (ltN rfl) rfl ?_
            refine TW.op (ot_move (.tmp rfl)) rfl (ltN rfl) rfl ?_
            refine TW.opg rfl rfl rfl (ltN rfl) (fun hg => ot_move (.tmp rfl)) rfl (ltN rfl) ?_
            refine TW.opg rfl rfl rfl (ltN rfl) (fun hg => ot_move (.tmp rfl)) rfl (ltN rfl) ?_
            refine TW.opg rfl rfl rfl (ltN rfl) (fun hg => (by have hg' := hg; simp only [Bool.and_eq_true, Bool.or_eq_true, Bool.not_eq_true', Bool.not_eq_false', Bool.and_eq_false_iff, Bool.or_eq_false_iff, Bool.not_true, Bool.not_false, decide_eq_true_eq, decide_eq_false_iff_not, beq_iff_eq, beq_eq_false_iff_ne, Bool.not_eq_eq_eq_not] at hg'; exact ot_index (z := atT (sortT (keepT ts)) j) (.iff hg (.tmp rfl)) (.iff hg (.tmp rfl)) sl65 (by omega) (atT_at (by omega) (by omega)))) rfl (ltN rfl) ?_
            refine TW.opg rfl rfl rfl (ltN rfl) (fun hg => ot_fieldAddr (R' := cDrop (cEnc encTm (atT (sortT (keepT ts)) j)) 2) (.iff hg (.tmp rfl)) fd63_1 (fun _ _ h => cDrop_mk h)) rfl (ltN rfl) ?_
            refine TW.opg rfl rfl rfl (ltN rfl) (fun hg => ot_load_agg (.iff hg (.tmp rfl)) ag61 (ldFV (g := moT) (y := (atT (sortT (keepT ts)) j).exp) rfl rfl)) rfl (ltN rfl) ?_
            refine TW.opg rfl rfl rfl (ltN rfl) (fun hg => ot_fieldAddr_own (.tmp rfl) fd63_1) rfl (ltN rfl) ?_
            refine TW.opg rfl rfl rfl (ltN rfl) (fun hg => ot_load_own_agg (.iff hg (.tmp rfl)) (.head _) ag61 (cTs_ldV (g := moT) (y := ((atT (sortT (keepT ts)) i).exp)) rfl rfl)) rfl (ltN rfl) ?_
            refine TW.opg rfl rfl rfl (ltN rfl) (fun hg => ot_eqA (.iff hg (.tmp rfl)) (.iff hg (.tmp rfl)) ar4_61) rfl (ltN rfl) ?_
            refine TW.op (ot_and2 (.tmp rfl) (.tmp rfl) .is) rfl (ltN rfl) rfl ?_
            exact TW.nil
          refine JQ.then_normal ?_
          -- cond6: tIs (.bool ((decide (((j : Nat) : Int) < (((sortT (keepT ts))).length : Int))) && (decide (((atT (sortT (keepT ts)) j).exp) = ((atT (sortT (keepT ts)) i).exp)))))
          refine JC.cond (.tmp rfl) (fun hc6 => ?_) (fun hc6 => ?_)
          · try simp only [Bool.and_eq_true, Bool.or_eq_true, Bool.not_eq_true', Bool.not_eq_false', Bool.and_eq_false_iff, Bool.or_eq_false_iff, Bool.not_true, Bool.not_false, decide_eq_true_eq, decide_eq_false_iff_not, beq_iff_eq, beq_eq_false_iff_ne, Bool.not_eq_eq_eq_not] at hc6
            have hs49 := hc6
            have hmj : atT (sortT (keepT ts)) j ∈ ts := hm _ (atT_mem (by omega))
            have hzj := hz _ hmj
            refine JC.skip ?_
            refine JQ.then_normal ?_
            refine JC.block ?_
            refine JC.seq ?_
            refine JC.drawAt (Γ' := ?g4) 9 mo (by kernel_rfl) ?tw4 ?k4
            case tw4 =>
              refine TW.op (ot_fieldAddr_own (.tmp rfl) fd63_0) rfl (ltN rfl) rfl ?_
              refine TW.op (ot_load_own_agg (.tmp rfl) (.head _) ag25 (cTs_ldV (g := zT) (y := (ofI q)) rfl rfl)) rfl (ltN rfl) rfl ?_
              refine TW.op (ot_move (.tmp rfl)) rfl (ltN rfl) rfl ?_
              refine TW.op (ot_move (.tmp rfl)) rfl (ltN rfl) rfl ?_
              refine TW.op (ot_index (z := atT (sortT (keepT ts)) j) (.tmp rfl) (.tmp rfl) sl65 (by omega) (atT_at (by omega) (by omega))) rfl (ltN rfl) rfl ?_
              refine TW.op (ot_fieldAddr (.tmp rfl) fd63_0 (fun _ _ h => h)) rfl (ltN rfl) rfl ?_
              refine TW.op (ot_load_agg (.tmp rfl) ag25 (ldFV0 (g := zT) (y := (atT (sortT (keepT ts)) j).coef) rfl rfl)) rfl (ltN rfl) rfl ?_
              refine TW.op (ot_eqt (T' := tV encI (ofI (q + zval (atT (sortT (keepT ts)) j).coef))) (ot_call fn48 (intAdd_c (ofI q) ((atT (sortT (keepT ts)) j).coef) (by omega) (by omega)) (.cons (.tmp rfl) (.cons (.tmp rfl) .nil))) (by rw [zval_ofI])) rfl (ltN rfl) rfl ?_
              refine TW.op (ot_fieldAddr_own (.tmp rfl) fd63_0) rfl (ltN rfl) rfl ?_
              exact TW.nil
            refine J.store (.tmp rfl) (.eq (.tmp rfl) (tV_F (Ts := [tIs (.bool ((ofI (q + zval (atT (sortT (keepT ts)) j).coef)).neg)), tSl encD ((ofI (q + zval (atT (sortT (keepT ts)) j).coef)).abs)]) rfl)) .here sz25 (st_agg (Ts' := [tIs (.bool ((ofI (q + zval (atT (sortT (keepT ts)) j).coef)).neg)), tSl encD ((ofI (q + zval (atT (sortT (keepT ts)) j).coef)).abs), tIs (.int .i64 (((atT (sortT (keepT ts)) i).exp).a)), tIs (.int .i64 (((atT (sortT (keepT ts)) i).exp).b)), tIs (.int .i64 (((atT (sortT (keepT ts)) i).exp).c)), tIs (.int .i64 (((atT (sortT (keepT ts)) i).exp).d))]) (o := 0) rfl) ?_
            refine J.nil ?_
            refine JQ.then_normal ?_
            refine JC.region ?_
            refine J.op (ot_move (.tmp rfl)) rfl (ltN rfl) rfl ?_
            refine J.op (ot_add (.tmp rfl) .is (w64 (by omega) (by omega))) rfl (ltN rfl) rfl ?_
            refine J.op (ot_assign (.tmp rfl)) rfl (ltN rfl) rfl ?_
            refine J.nil ?_
            refine JQ.block_normal ?_
            exact JQ.round2 (i := j) (i2 := q) (j + 1) (q + zval (atT (sortT (keepT ts)) j).coef) ⟨by omega, by omega, by rw [← hrun]; exact sumRun_step (by omega) hs49.2, sum_next hq (hd _ hmj) (hz _ hmj)⟩ (by omega) (sub_trans (sub_heap (.keep (fun _ _ h => h) (.keep (fun _ _ h => h) .nil))) (sub_cons (.tmp rfl) (sub_cons (.tmp rfl) (sub_cons (.tmp rfl) (sub_cons (.eq (.tmp rfl) (by first | rfl | (congr 3; omega) | (congr 2; omega))) (sub_cons (.tmp rfl) (sub_cons (.tmp rfl) (sub_cons (.tmp rfl) (sub_cons (.tmp rfl) (sub_cons (.tmp rfl) (sub_cons (.tmp rfl) (sub_cons (.tmp rfl) (sub_cons (.tmp rfl) (sub_cons (.tmp rfl) (sub_cons (.tmp rfl) (sub_cons (.tmp rfl) (sub_nil)))))))))))))))))
          · try simp only [Bool.and_eq_true, Bool.or_eq_true, Bool.not_eq_true', Bool.not_eq_false', Bool.and_eq_false_iff, Bool.or_eq_false_iff, Bool.not_true, Bool.not_false, decide_eq_true_eq, decide_eq_false_iff_not, beq_iff_eq, beq_eq_false_iff_ne, Bool.not_eq_eq_eq_not] at hc6
            have hs49 := hc6
            have hst := sumRun_stop (c := q) (show ¬ j < (sortT (keepT ts)).length ∨ ¬ (atT (sortT (keepT ts)) j).exp = (atT (sortT (keepT ts)) i).exp from hs49.imp (fun h => by omega) id)
            rw [hrun] at hst
            have hlt : i < j := by rcases Nat.lt_or_eq_of_le hij with h | h; exact h; subst h; rcases hs49 with q | q; omega; exact absurd rfl q
            refine JC.exit ?_
            refine JQ.then_exit ?_
            refine JQ.then_exit ?_
            refine JQ.block_exit ?_
            refine JQ.then_normal ?_
            refine JC.seq ?_
            refine JC.region ?_
            refine J.op (ot_fieldAddr_own (.tmp rfl) fd63_0) rfl (ltN rfl) rfl ?_
            refine J.op (ot_load_own_agg (.tmp rfl) (.head _) ag25 (cTs_ldV (g := zT) (y := (ofI q)) rfl rfl)) rfl (ltN rfl) rfl ?_
            refine J.op (ot_eqt (T' := tIs (.int .i64 (sgn q))) (ot_call fn25 (intSign_c (ofI q) (by omega)) (.cons (.tmp rfl) .nil)) (by rw [zval_ofI])) rfl (ltN rfl) rfl ?_
            refine J.op (ot_neq (.tmp rfl) .is) rfl (ltN rfl) rfl ?_
            refine J.nil ?_
            refine JQ.then_normal ?_
            -- cond7: tIs (.bool (!decide ((sgn q) = 0)))
            refine JC.cond (.tmp rfl) (fun hc7 => ?_) (fun hc7 => ?_)
            · try simp only [Bool.and_eq_true, Bool.or_eq_true, Bool.not_eq_true', Bool.not_eq_false', Bool.and_eq_false_iff, Bool.or_eq_false_iff, Bool.not_true, Bool.not_false, decide_eq_true_eq, decide_eq_false_iff_not, beq_iff_eq, beq_eq_false_iff_ne, Bool.not_eq_eq_eq_not] at hc7
              have hs64 := hc7
              refine JC.region ?_
              refine J.op (ot_move (.tmp rfl)) rfl (ltN rfl) rfl ?_
              refine J.op (ot_load_own_agg (.tmp rfl) (.head _) ag63 (cTs_ldV (g := tmT) (y := (Tm.mk (ofI q) ((atT (sortT (keepT ts)) i).exp))) rfl rfl)) rfl (ltN rfl) rfl ?_
              refine J.op (ot_buildSlice (E := encTm) (zs := [Tm.mk (ofI q) ((atT (sortT (keepT ts)) i).exp)]) sl65 (.cons (.tmp rfl) .nil) rfl zr63 rfl (by decide) (by decide)) rfl (ltN rfl) rfl ?_
              refine J.append0 (E := encTm) (ys := [Tm.mk (ofI q) ((atT (sortT (keepT ts)) i).exp)]) (.sub (.tmp rfl) nil_z) (.tmp rfl) (by simp) sl65 rfl zr63 rfl (by simp <;> omega) (by simp <;> omega) (ltN rfl) fun b68 c68 => ?_
              refine J.op (ot_assign (.tmp rfl)) rfl (ltN rfl) rfl ?_
              refine J.nil ?_
              refine JQ.block_normal ?_
              have hq0 : ¬ q = 0 := fun h => hs64 (by rw [h]; rfl)
              have hO0 := hOe rfl
              exact JQ.round5 (i := true) (i2 := i) (i3 := O) (i4 := b) (i5 := c) false j (O ++ [Tm.mk (ofI q) ((atT (sortT (keepT ts)) i).exp)]) b68 c68 ⟨hjl, merge_yes (by omega) hO hst hq0, by simp; omega, fun h => by cases h⟩ (by omega) (sub_trans (sub_heap (.keep (cRow_eq (by rw [hO0]; rfl)) (.drop (.keep (fun _ _ h => h) .nil)))) (sub_cons (.tmp rfl) (sub_cons (.tmp rfl) (sub_cons (.eq (.tmp rfl) (by rw [hO0]; rfl)) (sub_cons (.tmp rfl) (sub_nil))))))
            · try simp only [Bool.and_eq_true, Bool.or_eq_true, Bool.not_eq_true', Bool.not_eq_false', Bool.and_eq_false_iff, Bool.or_eq_false_iff, Bool.not_true, Bool.not_false, decide_eq_true_eq, decide_eq_false_iff_not, beq_iff_eq, beq_eq_false_iff_ne, Bool.not_eq_eq_eq_not] at hc7
              have hs64 := hc7
              refine JC.skip ?_
              refine JQ.block_normal ?_
              have hq0 : q = 0 := by rcases sgn_cases q with h | h | h <;> omega
              exact JQ.round5 (i := true) (i2 := i) (i3 := O) (i4 := b) (i5 := c) true j O 0 0 ⟨hjl, merge_no (by omega) hO hst hq0, by omega, fun _ => hOe rfl⟩ (by omega) (sub_trans (sub_heap (.drop (.keep (fun _ _ h => h) .nil))) (sub_cons (.tmp rfl) (sub_cons (.tmp rfl) (sub_cons (.tmp rfl) (sub_cons (.tmp rfl) (sub_nil))))))
        · try simp only [Bool.and_eq_true, Bool.or_eq_true, Bool.not_eq_true', Bool.not_eq_false', Bool.and_eq_false_iff, Bool.or_eq_false_iff, Bool.not_true, Bool.not_false, decide_eq_true_eq, decide_eq_false_iff_not, beq_iff_eq, beq_eq_false_iff_ne, Bool.not_eq_eq_eq_not] at hc5
          have hs29 := hc5
          refine JC.exit ?_
          refine JQ.then_exit ?_
          refine JQ.then_exit ?_
          refine JQ.block_exit ?_
          refine JQ.then_normal ?_
          refine JC.seq ?_
          refine JC.region ?_
          refine J.op (ot_move (.tmp rfl)) rfl (ltN rfl) rfl ?_
          refine J.op (ot_call fn61 (clip_c ([]) (by simp)) (.cons (.sub (.tmp rfl) nil_sl) .nil)) rfl (ltN rfl) rfl ?_
          refine J.op (ot_assign (.tmp rfl)) rfl (ltN rfl) rfl ?_
          refine J.nil ?_
          refine JQ.then_normal ?_
          refine JC.ret ?_
          -- ret1
          exact (JQ.retL1 rfl (.head _) (fun _ _ h => h) (.eq (.tmp rfl) (by rw [normS, ← merge_end (by omega) hO mergeT_nil, hOe rfl]))).1
  · change JC _ _ _ [(2, tSl encTm ([])), (3, tIs (.slice none 0 0)), (9, sIs pb 0 (ts.length) (pc)), (10, tIs (.int .i64 (((ts.length : Nat) : Int)))), (11, tIs (.int .i64 (((k : Nat) : Int))))] [⟨pb, 63, cRow encTm (ts) (pq)⟩]
    obtain ⟨hk, he⟩ := hinv
    have hkk := keepT_len (ts.take k)
    rw [List.length_take] at hkk
    refine JC.seq ?_
    refine JC.region ?_
    refine J.op (ot_lss (.tmp rfl) (.tmp rfl)) rfl (ltN rfl) rfl ?_
    refine J.nil ?_
    refine JQ.then_normal ?_
    refine JC.seq ?_
    -- cond8: tIs (.bool (decide (((k : Nat) : Int) < ((ts.length : Nat) : Int))))
    refine JC.cond (.tmp rfl) (fun hc8 => ?_) (fun hc8 => ?_)
    · try simp only [Bool.and_eq_true, Bool.or_eq_true, Bool.not_eq_true', Bool.not_eq_false', Bool.and_eq_false_iff, Bool.or_eq_false_iff, Bool.not_true, Bool.not_false, decide_eq_true_eq, decide_eq_false_iff_not, beq_iff_eq, beq_eq_false_iff_ne, Bool.not_eq_eq_eq_not] at hc8
      have hs12 := hc8
      refine JC.skip ?_
      refine JQ.then_normal ?_
      refine JC.seq ?_
      refine JC.block ?_
      refine JC.seq ?_
      refine JC.region ?_
      refine J.op (ot_eqt (T' := pOwn pb (0 + k * 6)) (ot_index_own (.tmp rfl) (.tmp rfl) sl65 (by omega) (by omega)) (own_off2 (by omega))) rfl (ltN rfl) rfl ?_
      refine J.op (ot_load_own_agg (.tmp rfl) (.head _) ag63 (row_agg rfl (atT_some (by omega)))) rfl (ltN rfl) rfl ?_
      refine J.alloc (R := cTs [tIs (.bool (false)), tSl encD ([]), tIs (.int .i64 (0)), tIs (.int .i64 (0)), tIs (.int .i64 (0)), tIs (.int .i64 (0))]) zr63 (fun _ => ⟨rfl, rfl, slP_nil _ _, rfl, rfl, rfl, rfl, rfl, rfl, rfl, rfl, rfl, trivial⟩) (ltN rfl) fun b5 => ?_
      refine J.store (.tmp rfl) (.eq (.tmp rfl) (tV_F (Ts := [tIs (.bool (((atT ts k).coef).neg)), tSl encD (((atT ts k).coef).abs), tIs (.int .i64 (((atT ts k).exp).a)), tIs (.int .i64 (((atT ts k).exp).b)), tIs (.int .i64 (((atT ts k).exp).c)), tIs (.int .i64 (((atT ts k).exp).d))]) rfl)) .here sz63 (st_agg (Ts' := [tIs (.bool (((atT ts k).coef).neg)), tSl encD (((atT ts k).coef).abs), tIs (.int .i64 (((atT ts k).exp).a)), tIs (.int .i64 (((atT ts k).exp).b)), tIs (.int .i64 (((atT ts k).exp).c)), tIs (.int .i64 (((atT ts k).exp).d))]) (o := 0) rfl) ?_
      refine J.nil ?_
      refine JQ.then_normal ?_
      refine JC.seq ?_
      refine JC.weak (sub_freezeP (R' := cEnc encTm (atT ts k)) [5] ⟨rfl, trivial⟩ .here (cTs_F (f := tmT) (x := atT ts k) rfl rfl)) ?_
      refine JC.region ?_
      refine J.op (ot_fieldAddr (R' := cDrop (cEnc encTm (atT ts k)) 2) (.tmp rfl) fd63_1 (fun _ _ h => cDrop_mk h)) rfl (ltN rfl) rfl ?_
      refine J.op (ot_sliceA (.tmp rfl) ar4_61 tm_exp) rfl (ltN rfl) rfl ?_
      refine J.op (ot_call fn57 (min_c ((atT ts k).exp.list) (by simp [Mo.list])) (.cons (.tmp rfl) .nil)) rfl (ltN rfl) rfl ?_
      refine J.op (ot_geq (.tmp rfl) .is) rfl (ltN rfl) rfl ?_
      refine J.nil ?_
      refine JQ.then_normal ?_
      -- cond9: tIs (.bool (decide (0 ≤ (minL (atN ((atT ts k).exp.list) 0) (((atT ts k).exp.list).drop 1)))))
      refine JC.cond (.tmp rfl) (fun hc9 => ?_) (fun hc9 => ?_)
      · try simp only [Bool.and_eq_true, Bool.or_eq_true, Bool.not_eq_true', Bool.not_eq_false', Bool.and_eq_false_iff, Bool.or_eq_false_iff, Bool.not_true, Bool.not_false, decide_eq_true_eq, decide_eq_false_iff_not, beq_iff_eq, beq_eq_false_iff_ne, Bool.not_eq_eq_eq_not] at hc9
        have hs18 := hc9
        refine JC.region ?_
        refine J.op (ot_move (.tmp rfl)) rfl (ltN rfl) rfl ?_
        refine J.op (ot_load_agg (.tmp rfl) ag63 ldp_whole) rfl (ltN rfl) rfl ?_
        refine J.op (ot_buildSlice (E := encTm) (zs := [atT ts k]) sl65 (.cons (.tmp rfl) .nil) rfl zr63 rfl (by decide) (by decide)) rfl (ltN rfl) rfl ?_
        refine J.append0 (E := encTm) (ys := [atT ts k]) (.sub (.tmp rfl) nil_z) (.tmp rfl) (by simp) sl65 rfl zr63 rfl (by simp <;> omega) (by simp <;> omega) (ltN rfl) fun b22 c22 => ?_
        refine J.op (ot_assign (.tmp rfl)) rfl (ltN rfl) rfl ?_
        refine J.nil ?_
        refine JQ.block_normal ?_
        refine JQ.then_normal ?_
        refine JC.region ?_
        refine J.op (ot_add (.tmp rfl) .is (w64 (by omega) (by omega))) rfl (ltN rfl) rfl ?_
        refine J.op (ot_move (.tmp rfl)) rfl (ltN rfl) rfl ?_
        refine J.nil ?_
        have hyes := keepT_yes (show k < ts.length by omega) (okT_iff.2 hs18)
        rw [he rfl, List.nil_append] at hyes
        exact JQ.round4 (i := true) (i2 := k) (i3 := b) (i4 := c) false (k + 1) b22 c22 ⟨by omega, fun h => by cases h⟩ (by omega) (sub_trans (sub_heap (.keep (cRow_eq hyes) (.keep (fun _ _ h => h) .nil))) (sub_cons (.tmp rfl) (sub_cons (.eq (.tmp rfl) (by rw [hyes])) (sub_cons (.tmp rfl) (sub_cons (.tmp rfl) (sub_cons (.eq (.tmp rfl) (by first | rfl | (congr 3; omega) | (congr 2; omega))) (sub_nil)))))))
      · try simp only [Bool.and_eq_true, Bool.or_eq_true, Bool.not_eq_true', Bool.not_eq_false', Bool.and_eq_false_iff, Bool.or_eq_false_iff, Bool.not_true, Bool.not_false, decide_eq_true_eq, decide_eq_false_iff_not, beq_iff_eq, beq_eq_false_iff_ne, Bool.not_eq_eq_eq_not] at hc9
        have hs18 := hc9
        refine JC.skip ?_
        refine JQ.block_normal ?_
        refine JQ.then_normal ?_
        refine JC.region ?_
        refine J.op (ot_add (.tmp rfl) .is (w64 (by omega) (by omega))) rfl (ltN rfl) rfl ?_
        refine J.op (ot_move (.tmp rfl)) rfl (ltN rfl) rfl ?_
        refine J.nil ?_
        have hno := keepT_no (show k < ts.length by omega) (fun h => hs18 (okT_iff.1 h))
        exact JQ.round4 (i := true) (i2 := k) (i3 := b) (i4 := c) true (k + 1) 0 0 ⟨by omega, fun _ => hno ▸ he rfl⟩ (by omega) (sub_trans (sub_heap (.keep (fun _ _ h => h) .nil)) (sub_cons (.tmp rfl) (sub_cons (.tmp rfl) (sub_cons (.tmp rfl) (sub_cons (.tmp rfl) (sub_cons (.eq (.tmp rfl) (by first | rfl | (congr 3; omega) | (congr 2; omega))) (sub_nil)))))))
    · try simp only [Bool.and_eq_true, Bool.or_eq_true, Bool.not_eq_true', Bool.not_eq_false', Bool.and_eq_false_iff, Bool.or_eq_false_iff, Bool.not_true, Bool.not_false, decide_eq_true_eq, decide_eq_false_iff_not, beq_iff_eq, beq_eq_false_iff_ne, Bool.not_eq_eq_eq_not] at hc8
      have hs12 := hc8
      have hkt : keepT (ts.take k) = keepT ts := by rw [List.take_of_length_le (by omega)]
      refine JC.exit ?_
      refine JQ.then_exit ?_
      refine JQ.then_exit ?_
      refine JQ.block_exit ?_
      refine JQ.then_normal ?_
      refine JC.seq ?_
      refine JC.region ?_
      refine J.op (ot_move (.tmp rfl)) rfl (ltN rfl) rfl ?_
      refine J.op (ot_call fn58 (sort0_c  ) (.cons (.tmp rfl) (.cons (.func (fun _ => rfl)) .nil))) rfl (ltN rfl) rfl ?_
      refine J.nil ?_
      refine JQ.then_normal ?_
      refine JC.seq ?_
      refine JC.region ?_
      refine J.op (ot_assign .is) rfl (ltN rfl) rfl ?_
      refine J.nil ?_
      refine JQ.then_normal ?_
      refine JC.seq ?_
      refine JC.seq ?_
      refine JC.region ?_
      refine J.op (ot_assign .is) rfl (ltN rfl) rfl ?_
      refine J.nil ?_
      refine JQ.then_normal ?_
      refine JC.block ?_
      refine JC.loop (ι := Nat) (fun i => [(2, tSl encTm ([])), (3, tIs (.slice none 0 0)), (6, tIs (.slice none 0 0)), (7, tIs (.int .i64 (0)))]) (fun i => [⟨pb, 63, cRow encTm (ts) (pq)⟩]) (fun i => i = 0) (fun i => i) 0 (by omega) ?lsub4 ?round4
      case lsub4 => exact sub_trans (sub_heap (.keep (fun _ _ h => h) .nil)) (sub_cons (.tmp rfl) (sub_cons (.tmp rfl) (sub_cons (.tmp rfl) (sub_cons (.tmp rfl) (sub_nil)))))
      intro i hinv
      refine JC.seq ?_
      refine JC.seq ?_
      refine JC.region ?_
      refine J.op (ot_move (.tmp rfl)) rfl (ltN rfl) rfl ?_
      refine J.op (ot_move (.tmp rfl)) rfl (ltN rfl) rfl ?_
      refine J.op (ot_len_nil (.tmp rfl) sl65 rfl) rfl (ltN rfl) rfl ?_
      refine J.op (ot_lss (.tmp rfl) (.tmp rfl)) rfl (ltN rfl) rfl ?_
      refine J.nil ?_
      refine JQ.then_normal ?_
      refine JC.cond_false (.eq (.tmp rfl) (by rfl)) ?_
      refine JC.exit ?_
      refine JQ.then_exit ?_
      refine JQ.then_exit ?_
      refine JQ.block_exit ?_
      refine JQ.then_normal ?_
      refine JC.seq ?_
      refine JC.region ?_
      refine J.op (ot_move (.tmp rfl)) rfl (ltN rfl) rfl ?_
      refine J.op (ot_call fn61 (clip_c ([]) (by simp)) (.cons (.sub (.tmp rfl) nil_sl) .nil)) rfl (ltN rfl) rfl ?_
      refine J.op (ot_assign (.tmp rfl)) rfl (ltN rfl) rfl ?_
      refine J.nil ?_
      refine JQ.then_normal ?_
      refine JC.ret ?_
      -- ret2
      exact (JQ.retL1 rfl (.head _) (fun _ _ h => h) (.eq (.tmp rfl) (by rw [normS, ← hkt, he rfl]; exact congrArg _ mergeT_nil.symm))).1

theorem termsY (ts : List Tm) (hl : ts.length ≤ 4294967296) (hz : ∀ t ∈ ts, t.coef.abs.length ≤ 1099511627776) : IterC Try.prog 69 [tPtr (cTs [tSl encTm (ts)])] (ts.length) (fun k => [tV encMo ((atT ts k).exp), tV encI (ofI (zval (atT ts k).coef))]) := by
  refine IterC.of Try.func69 rfl Try.ntmps69 (Nat.le_of_ble_eq_true rfl) fun l w0 M Jw hup h0 hy => ?_
  refine JCR.seq ?_
  refine JCR.region ?_
  refine J.op (ot_load (.tmp rfl) sc65 (cTs_ld rfl)) rfl (ltN rfl) rfl ?_
  refine J.op (ot_len (.tmp rfl) sl65 rfl) rfl (ltN rfl) rfl ?_
  refine J.op (ot_move .is) rfl (ltN rfl) rfl ?_
  refine J.nil ?_
  refine JQR.then_normal ?_
  refine JCR.block ?_
  refine JCR.loopY (ts.length) (fun k => [(0, tIs (.func (.yield l) #[] #[])), (5, tSl encTm (ts)), (6, tIs (.int .i64 (((ts).length : Int)))), (7, tIs (.int .i64 (((k : Nat) : Int))))]) Jw hup h0 ?ylsub ?yround
  case ylsub => exact sub_trans (sub_heap .nil) (sub_cons (.tmp rfl) (sub_cons (.tmp rfl) (sub_cons (.tmp rfl) (sub_cons (.eq (.tmp rfl) (by first | rfl | (congr 3; omega) | (congr 2; omega))) (sub_nil)))))
  intro k hk w0 hJ0
  refine JCR.seq ?_
  refine JCR.region ?_
  refine J.op (ot_lss (.tmp rfl) (.tmp rfl)) rfl (ltN rfl) rfl ?_
  refine J.nil ?_
  refine JQR.then_normal ?_
  refine JCR.seq ?_
  -- cond0: tIs (.bool (decide (((k : Nat) : Int) < ((ts).length : Int))))
  refine JCR.cond (.tmp rfl) (fun hc0 => ?_) (fun hc0 => ?_)
  · try simp only [Bool.and_eq_true, Bool.or_eq_true, Bool.not_eq_true', Bool.not_eq_false', Bool.and_eq_false_iff, Bool.or_eq_false_iff, Bool.not_true, Bool.not_false, decide_eq_true_eq, decide_eq_false_iff_not, beq_iff_eq, beq_eq_false_iff_ne, Bool.not_eq_eq_eq_not] at hc0
    have hs8 := hc0
    have hlt : k < ts.length := by omega
    refine JCR.skip ?_
    refine JQR.then_normal ?_
    refine JCR.seq ?_
    refine JCR.block ?_
    refine JCR.seq ?_
    refine JCR.region ?_
    refine J.op (ot_index (z := atT ts k) (.tmp rfl) (.tmp rfl) sl65 (by omega) (atT_at (by omega) (by omega))) rfl (ltN rfl) rfl ?_
    refine J.op (ot_load_agg (.tmp rfl) ag63 ldp_whole) rfl (ltN rfl) rfl ?_
    refine J.alloc (R := cTs [tIs (.bool (false)), tSl encD ([]), tIs (.int .i64 (0)), tIs (.int .i64 (0)), tIs (.int .i64 (0)), tIs (.int .i64 (0))]) zr63 (fun _ => ⟨rfl, rfl, slP_nil _ _, rfl, rfl, rfl, rfl, rfl, rfl, rfl, rfl, rfl, trivial⟩) (ltN rfl) fun b4 => ?_
    refine J.store (.tmp rfl) (.eq (.tmp rfl) (tV_F (Ts := [tIs (.bool (((atT ts k).coef).neg)), tSl encD (((atT ts k).coef).abs), tIs (.int .i64 (((atT ts k).exp).a)), tIs (.int .i64 (((atT ts k).exp).b)), tIs (.int .i64 (((atT ts k).exp).c)), tIs (.int .i64 (((atT ts k).exp).d))]) rfl)) .here sz63 (st_agg (Ts' := [tIs (.bool (((atT ts k).coef).neg)), tSl encD (((atT ts k).coef).abs), tIs (.int .i64 (((atT ts k).exp).a)), tIs (.int .i64 (((atT ts k).exp).b)), tIs (.int .i64 (((atT ts k).exp).c)), tIs (.int .i64 (((atT ts k).exp).d))]) (o := 0) rfl) ?_
    refine J.nil ?_
    refine JQR.then_normal ?_
    refine JCR.seq ?_
    refine JCR.drawAt (Γ' := ?yg) 6 mo (by kernel_rfl) rfl ?ytw ?yk
    case ytw =>
      refine TW.op (ot_move (.tmp rfl)) rfl (ltN rfl) rfl ?_
      refine TW.op (ot_fieldAddr_own (.tmp rfl) fd63_1) rfl (ltN rfl) rfl ?_
      refine TW.op (ot_load_own_agg (.tmp rfl) (.head _) ag61 (cTs_ldV (g := moT) (y := ((atT ts k).exp)) rfl rfl)) rfl (ltN rfl) rfl ?_
      refine TW.op (ot_fieldAddr_own (.tmp rfl) fd63_0) rfl (ltN rfl) rfl ?_
      refine TW.op (ot_load_own_agg (.tmp rfl) (.head _) ag25 (cTs_ldV (g := zT) (y := ((atT ts k).coef)) rfl rfl)) rfl (ltN rfl) rfl ?_
      refine TW.op (ot_call fn43 (intNormal_c ((atT ts k).coef) (hz _ (atT_mem hlt))) (.cons (.tmp rfl) .nil)) rfl (ltN rfl) rfl ?_
      exact TW.nil
    refine JL.yield (k := k) (.tmp rfl) (.cons (.tmp rfl) (.cons (.tmp rfl) .nil)) hup hJ0 (fun W1 vs => hy k W1 vs hlt) (ltN rfl) fun w1 hJ1 => ?_
    refine JL.op (ot_not (.tmp rfl)) rfl (ltN rfl) rfl rfl ?_
    refine JL.nil ?_
    refine JQR.then_normal ?_
    refine JCR.cond_false (.eq (.tmp rfl) (by rfl)) ?_
    refine JCR.skip ?_
    refine JQ.block_normal ?_
    refine JQR.then_normal ?_
    refine JCR.region ?_
    refine J.op (ot_add (.tmp rfl) .is (w64 (by omega) (by omega))) rfl (ltN rfl) rfl ?_
    refine J.op (ot_move (.tmp rfl)) rfl (ltN rfl) rfl ?_
    refine J.nil ?_
    exact fun a w hs => ⟨hlt, w1, hJ1, (sub_trans (sub_heap .nil) (sub_cons (.tmp rfl) (sub_cons (.tmp rfl) (sub_cons (.tmp rfl) (sub_cons (.eq (.tmp rfl) (by first | rfl | (congr 3; omega) | (congr 2; omega))) (sub_nil)))))) a w hs⟩
  · try simp only [Bool.and_eq_true, Bool.or_eq_true, Bool.not_eq_true', Bool.not_eq_false', Bool.and_eq_false_iff, Bool.or_eq_false_iff, Bool.not_true, Bool.not_false, decide_eq_true_eq, decide_eq_false_iff_not, beq_iff_eq, beq_eq_false_iff_ne, Bool.not_eq_eq_eq_not] at hc0
    have hs8 := hc0
    refine JCR.exit ?_
    refine JQ.then_exit ?_
    refine JQ.then_exit ?_
    refine JQ.block_exit ?_
    exact JQ.endY rfl hup (by rw [show ts.length = k by omega]; exact hJ0)

theorem sptermsL_c {B : Nat} (pb pc pq : Nat) (ts : List Tm) (hl : ts.length < 20) (hd : ∀ t ∈ ts, Digs t.coef.abs) (hz : ∀ t ∈ ts, t.coef.abs.length ≤ B) (hb : B ≤ 1000000000000) : CtrL Try.prog 51 [sIs pb 0 (ts.length) (pc)] pb 63 (cRow encTm (ts) (pq)) (cRow encTm (ts) (pq)) (tClo 69 [tPtr (cTs [tSl encTm (normS ts)])]) := by
  refine CtrL.of Try.func51 rfl Try.ntmps51 (Nat.le_of_ble_eq_true rfl) fun w0 M0 => ?_
  refine JC.seq ?_
  refine JC.region ?_
  refine J.op (ot_assign .is) rfl (ltN rfl) rfl ?_
  refine J.nil ?_
  refine JQ.then_normal ?_
  refine JC.seq ?_
  refine JC.region ?_
  refine J.op (ot_move (.tmp rfl)) rfl (ltN rfl) rfl ?_
  refine J.callL (R' := cRow encTm (ts) (pq)) (Us := []) (cap := []) fn39 (.func (fun _ => rfl)) (normL_c pb pc pq ts hl hd hz hb) (.cons (.tmp rfl) .nil) (fun _ => trivial) .here (ltN rfl) ?_
  refine J.alloc (R := cTs [tSl encTm ([])]) zr65 (fun _ => ⟨slP_nil _ _, rfl, trivial⟩) (ltN rfl) fun b3 => ?_
  refine J.store (.tmp rfl) (.tmp rfl) .here sz65 (st_cell (o := 0) (one_sl) rfl) ?_
  refine J.nil ?_
  refine JQ.then_normal ?_
  refine JC.seq ?_
  refine JC.weak (sub_freezeP (R' := cTs [tSl encTm (normS ts)]) [3] ⟨rfl, trivial⟩ .here (fun _ _ h => h)) ?_
  refine JC.region ?_
  refine J.op (ot_clo (.cons (.tmp rfl) .nil)) rfl (ltN rfl) rfl ?_
  refine J.op (ot_assign (.tmp rfl)) rfl (ltN rfl) rfl ?_
  refine J.nil ?_
  refine JQ.then_normal ?_
  refine JC.ret ?_
  -- ret0
  exact (JQ.retL1 rfl (.head _) (fun _ _ h => h) (.tmp rfl)).1

theorem contL_c {B : Nat} (pb pc pq : Nat) (ts : List Tm) (hl : ts.length < 20) (hd : ∀ t ∈ ts, Digs t.coef.abs) (hz : ∀ t ∈ ts, t.coef.abs.length ≤ B) (hb : B ≤ 1000000000000) (hg : ∀ t ∈ normS ts, (zval t.coef).natAbs < 18446744073709551616) : CtrL Try.prog 52 [sIs pb 0 (ts.length) (pc)] pb 63 (cRow encTm (ts) (pq)) (cRow encTm (ts) (pq)) (tV encI (ofI (contS ts))) := by
  have hnl : (normS ts).length ≤ 4294967296 := Nat.le_trans (normS_len ts) (by omega)
  have hz2 : ∀ t ∈ normS ts, t.coef.abs.length ≤ 2 := fun t h => coef_len (normS_ofI h) (hg t h)
  refine CtrL.ofM Try.func52 rfl Try.ntmps52 (Nat.le_of_ble_eq_true rfl) fun w0 M0 => ?_
  refine JC.seq ?_
  refine JC.region ?_
  refine J.alloc (R := cTs [tIs (.bool (false)), tSl encD ([])]) zr25 (fun _ => ⟨rfl, rfl, slP_nil _ _, rfl, trivial⟩) (ltN rfl) fun b2 => ?_
  refine J.nil ?_
  refine JQ.then_normal ?_
  refine JC.seq ?_
  refine JC.region ?_
  refine J.op (ot_call fn28 (intOf_c 0 (by omega)) (.cons .is .nil)) rfl (ltN rfl) rfl ?_
  refine J.alloc (R := cTs [tIs (.bool (false)), tSl encD ([])]) zr25 (fun _ => ⟨rfl, rfl, slP_nil _ _, rfl, trivial⟩) (ltN rfl) fun b3 => ?_
  refine J.store (.tmp rfl) (.eq (.tmp rfl) (tV_F (Ts := [tIs (.bool ((ofI 0).neg)), tSl encD ((ofI 0).abs)]) rfl)) .here sz25 (st_agg (Ts' := [tIs (.bool ((ofI 0).neg)), tSl encD ((ofI 0).abs)]) (o := 0) rfl) ?_
  refine J.nil ?_
  refine JQ.then_normal ?_
  refine JC.seq ?_
  refine JC.seq ?_
  refine JC.region ?_
  refine J.op (ot_move (.tmp rfl)) rfl (ltN rfl) rfl ?_
  refine J.callL (R' := cRow encTm (ts) (pq)) (Us := []) (cap := []) fn51 (.func (fun _ => rfl)) (sptermsL_c pb pc pq ts hl hd hz hb) (.cons (.tmp rfl) .nil) (fun _ => trivial) (.there (.there .here)) (ltN rfl) ?_
  refine J.nil ?_
  refine JQ.then_normal ?_
  refine JC.block ?_
  refine JC.rangeFunc (ps := [9, 10]) (f := 69) (Us := [tPtr (cTs [tSl encTm (normS ts)])]) (n := (normS ts).length) (Ts := fun k => [tV encMo ((atT (normS ts) k).exp), tV encI (ofI (zval (atT (normS ts) k).coef))]) (Γ0 := [(2, pOwn b2 (0)), (3, pOwn b3 (0)), (8, tClo 69 [tPtr (cTs [tSl encTm (normS ts)])])]) (fun k => [⟨b3, 25, cTs [tIs (.bool ((ofI (gcdT ((normS ts).take k))).neg)), tSl encD ((ofI (gcdT ((normS ts).take k))).abs)]⟩, ⟨b2, 25, cTs [tIs (.bool (false)), tSl encD ([])]⟩, ⟨pb, 63, cRow encTm (ts) (pq)⟩]) (.tmp rfl) fn69 (termsY (normS ts) hnl (fun t h => Nat.le_trans (hz2 t h) (by omega))) rfl ?rs0 (fun _ => rfl) rfl (fun _ => rfl) ?rr0 ?rd0
  case rs0 => exact sub_trans (sub_heap (.keep (fun _ _ h => by first | exact h | simpa using h) (.keep (fun _ _ h => h) (.keep (fun _ _ h => h) .nil)))) (sub_cons (.tmp rfl) (sub_cons (.tmp rfl) (sub_cons (.tmp rfl) (sub_nil))))
  case rr0 =>
    intro k hk l w0 M0 L Q1 hend1
    have hgl := gcdT_len hg (k := k) (by omega)
    have hgb := ofI_lt (gcdT_lt (by omega) hg k (by omega))
    have hmk := hg _ (atT_mem hk)
    refine JCR.weak (Γ' := [(10, tV encI (ofI (zval (atT (normS ts) k).coef))), (9, tV encMo ((atT (normS ts) k).exp)), (2, pOwn b2 (0)), (3, pOwn b3 (0)), (8, tClo 69 [tPtr (cTs [tSl encTm (normS ts)])])]) (H' := [⟨b3, 25, cTs [tIs (.bool ((ofI (gcdT ((normS ts).take k))).neg)), tSl encD ((ofI (gcdT ((normS ts).take k))).abs)]⟩, ⟨b2, 25, cTs [tIs (.bool (false)), tSl encD ([])]⟩, ⟨pb, 63, cRow encTm (ts) (pq)⟩]) (fun _ _ h => h) ?_
    refine JCR.region ?_
    refine J.alloc (R := cTs [tIs (.bool (false)), tSl encD ([])]) zr25 (fun _ => ⟨rfl, rfl, slP_nil _ _, rfl, trivial⟩) (ltN rfl) fun b5 => ?_
    refine J.store (.tmp rfl) (.eq (.tmp rfl) (tV_F (Ts := [tIs (.bool ((ofI (zval (atT (normS ts) k).coef)).neg)), tSl encD ((ofI (zval (atT (normS ts) k).coef)).abs)]) rfl)) .here sz25 (st_agg (Ts' := [tIs (.bool ((ofI (zval (atT (normS ts) k).coef)).neg)), tSl encD ((ofI (zval (atT (normS ts) k).coef)).abs)]) (o := 0) rfl) ?_
    refine J.nil ?_
    refine hend1 _ _ fun w1 M1 L1 Q2 hend2 => ?_
    refine JCR.block ?_
    refine JCR.region ?_
    refine J.op (ot_load_own_agg (.tmp rfl) (.tail _ (.head _)) ag25 (cTs_ldV (g := zT) (y := (ofI (gcdT ((normS ts).take k)))) rfl rfl)) rfl (ltN rfl) rfl ?_
    refine J.op (ot_load_own_agg (.tmp rfl) (.head _) ag25 (cTs_ldV (g := zT) (y := (ofI (zval (atT (normS ts) k).coef))) rfl rfl)) rfl (ltN rfl) rfl ?_
    refine J.op (ot_eqt (T' := tV encI (ofI (Int.gcd (gcdT ((normS ts).take k)) (zval (atT (normS ts) k).coef)))) (ot_call fn70 (dgcd_c (ofI (gcdT ((normS ts).take k))) (ofI (zval (atT (normS ts) k).coef)) (Nat.le_trans hgl (by omega)) (Nat.le_trans (ofI_len2 hmk) (by omega)) ⟨hgb, ofI_lt hmk⟩) (.cons (.tmp rfl) (.cons (.tmp rfl) .nil))) (by rw [zval_ofI, zval_ofI])) rfl (ltN rfl) rfl ?_
    refine J.store (.tmp rfl) (.eq (.tmp rfl) (tV_F (Ts := [tIs (.bool ((ofI (Int.gcd (gcdT ((normS ts).take k)) (zval (atT (normS ts) k).coef))).neg)), tSl encD ((ofI (Int.gcd (gcdT ((normS ts).take k)) (zval (atT (normS ts) k).coef))).abs)]) rfl)) (.there .here) sz25 (st_agg (Ts' := [tIs (.bool ((ofI (Int.gcd (gcdT ((normS ts).take k)) (zval (atT (normS ts) k).coef))).neg)), tSl encD ((ofI (Int.gcd (gcdT ((normS ts).take k)) (zval (atT (normS ts) k).coef))).abs)]) (o := 0) rfl) ?_
    refine J.nil ?_
    refine JQ.block_normal ?_
    exact JQ.weak (sub_trans (sub_heap (.drop (.keep (fun _ _ h => by rw [← gcdT_step hk]; exact h) (.keep (fun _ _ h => h) (.keep (fun _ _ h => h) .nil))))) (sub_nil)) hend2
  case rd0 =>
    intro D w1 M1 L1 hrb
    refine JQ.block_normal ?_
    refine JQ.then_normal ?_
    refine JC.seq ?_
    refine JC.region ?_
    refine J.op (ot_load_own_agg (.tmp rfl) (.head _) ag25 (cTs_ldV (g := zT) (y := (ofI (gcdT ((normS ts).take ((normS ts).length))))) rfl rfl)) rfl (ltN rfl) rfl ?_
    refine J.store (.tmp rfl) (.eq (.tmp rfl) (tV_F (Ts := [tIs (.bool ((ofI (gcdT ((normS ts).take ((normS ts).length)))).neg)), tSl encD ((ofI (gcdT ((normS ts).take ((normS ts).length)))).abs)]) rfl)) (.there .here) sz25 (st_agg (Ts' := [tIs (.bool ((ofI (gcdT ((normS ts).take ((normS ts).length)))).neg)), tSl encD ((ofI (gcdT ((normS ts).take ((normS ts).length)))).abs)]) (o := 0) rfl) ?_
    refine J.nil ?_
    refine JQ.then_normal ?_
    refine JC.ret ?_
    -- ret0
    exact JQ.retML1_ret hrb rfl (.tail _ (.tail _ (.head _))) (fun _ _ h => h) (.agg (.tmp rfl) (.tail _ (.head _)) ag25 (agg_eq (T := tV encI (ofI (gcdT ((normS ts).take ((normS ts).length))))) (T' := tV encI (ofI (contS ts))) (by rw [contS, List.take_length]) (cTs_ldV (g := zT) (y := (ofI (gcdT ((normS ts).take ((normS ts).length))))) rfl rfl)))

theorem signS_c {B : Nat} (ts : List Tm) (hl : ts.length < 20) (hd : ∀ t ∈ ts, Digs t.coef.abs) (hz : ∀ t ∈ ts, t.coef.abs.length ≤ B) (hb : B ≤ 1000000000000) (hne : normS ts ≠ []) (hl2 : (normS ts).length < 20) (hd2 : ∀ t ∈ normS ts, Digs t.coef.abs) (hz2 : ∀ t ∈ normS ts, t.coef.abs.length ≤ B) (hg : ∀ t ∈ normS (normS ts), (zval t.coef).natAbs < 18446744073709551616) (hc : 0 < (signO ts).natAbs ∧ (signO ts).natAbs < 4294967296) (hdv : ∀ t ∈ normS ts, signO ts ∣ zval t.coef) : Ctr Try.prog 34 [tSl encTm (ts)] (tSl encTm ((normS ts).map (divT (signO ts)))) := by
  have hlp : 0 < (normS ts).length := by rcases Nat.eq_zero_or_pos (normS ts).length with h | h; exact absurd (List.eq_nil_of_length_eq_zero h) hne; exact h
  have hcl := contO_len hc
  refine Ctr.of Try.func34 rfl Try.ntmps34 (Nat.le_of_ble_eq_true rfl) fun w0 M0 => ?_
  refine JC.seq ?_
  refine JC.region ?_
  refine J.op (ot_assign (.nil (E := encTm))) rfl (ltN rfl) rfl ?_
  refine J.nil ?_
  refine JQ.then_normal ?_
  refine JC.seq ?_
  refine JC.region ?_
  refine J.op (ot_move (.tmp rfl)) rfl (ltN rfl) rfl ?_
  refine J.callO (R := fun cap => cRow encTm (normS ts) cap) fn39 (normO_c ts hl hd hz hb hne) (.cons (.tmp rfl) .nil) (ltN rfl) fun b7 cap7 => ?_
  refine J.op (ot_assign (.tmp rfl)) rfl (ltN rfl) rfl ?_
  refine J.nil ?_
  refine JQ.then_normal ?_
  refine JC.seq ?_
  refine JC.seq ?_
  refine JC.region ?_
  refine J.op (ot_move (.tmp rfl)) rfl (ltN rfl) rfl ?_
  refine J.op (ot_len_own (.tmp rfl) sl65 rfl) rfl (ltN rfl) rfl ?_
  refine J.op (ot_eql (.tmp rfl) .is) rfl (ltN rfl) rfl ?_
  refine J.nil ?_
  refine JQ.then_normal ?_
  refine JC.cond_false (.eq (.tmp rfl) (by rw [decide_eq_false (by omega)])) ?_
  refine JC.skip ?_
  refine JQ.then_normal ?_
  refine JC.seq ?_
  refine JC.region ?_
  refine J.op (ot_move (.tmp rfl)) rfl (ltN rfl) rfl ?_
  refine J.callL (R' := cRow encTm (normS ts) (cap7)) (Us := []) (cap := []) fn52 (.func (fun _ => rfl)) (contL_c b7 (normS ts).length cap7 (normS ts) hl2 hd2 hz2 hb hg) (.cons (.tmp rfl) .nil) (fun _ => trivial) .here (ltN rfl) ?_
  refine J.alloc (R := cTs [tIs (.bool (false)), tSl encD ([])]) zr25 (fun _ => ⟨rfl, rfl, slP_nil _ _, rfl, trivial⟩) (ltN rfl) fun b4 => ?_
  refine J.store (.tmp rfl) (.eq (.tmp rfl) (tV_F (Ts := [tIs (.bool ((ofI (contS (normS ts))).neg)), tSl encD ((ofI (contS (normS ts))).abs)]) rfl)) .here sz25 (st_agg (Ts' := [tIs (.bool ((ofI (contS (normS ts))).neg)), tSl encD ((ofI (contS (normS ts))).abs)]) (o := 0) rfl) ?_
  refine J.nil ?_
  refine JQ.then_normal ?_
  refine JC.join1 (α := Int) (fun g => [(2, tSl encTm ([])), (3, sIs b7 0 ((normS ts).length) ((normS ts).length)), (4, pOwn b4 (0))]) (fun g => [⟨b4, 25, cTs [tIs (.bool ((ofI g).neg)), tSl encD ((ofI g).abs)]⟩, ⟨b7, 63, cRow encTm (normS ts) (cap7)⟩]) (fun g => g = signO ts) ?way1 ?on1
  case way1 =>
    refine JC.seq ?_
    refine JC.region ?_
    refine J.op (ot_move (.tmp rfl)) rfl (ltN rfl) rfl ?_
    refine J.op (ot_eqt (T' := pOwn b7 (0 + 0 * 6)) (ot_index_own (.tmp rfl) .is sl65 (by omega) (by omega)) (own_off2 (by omega))) rfl (ltN rfl) rfl ?_
    refine J.op (ot_fieldAddr_own (.tmp rfl) fd63_0) rfl (ltN rfl) rfl ?_
    refine J.op (ot_load_own_agg (.tmp rfl) (.tail _ (.head _)) ag25 (row_aggF (n := 6) (m := 2) (off := 0) (g := zT) (y := (atT (normS ts) 0).coef) (atT_some (by omega)) rfl rfl)) rfl (ltN rfl) rfl ?_
    refine J.op (ot_call fn25 (intSign_c ((atT (normS ts) 0).coef) (Nat.le_trans (hz2 _ (atT_mem (by omega))) (by omega))) (.cons (.tmp rfl) .nil)) rfl (ltN rfl) rfl ?_
    refine J.op (ot_lss (.tmp rfl) .is) rfl (ltN rfl) rfl ?_
    refine J.nil ?_
    refine JQ.then_normal ?_
    -- cond1: tIs (.bool (decide ((sgn (zval ((atT (normS ts) 0).coef))) < 0)))
    refine JC.cond (.tmp rfl) (fun hc1 => ?_) (fun hc1 => ?_)
    · try simp only [Bool.and_eq_true, Bool.or_eq_true, Bool.not_eq_true', Bool.not_eq_false', Bool.and_eq_false_iff, Bool.or_eq_false_iff, Bool.not_true, Bool.not_false, decide_eq_true_eq, decide_eq_false_iff_not, beq_iff_eq, beq_eq_false_iff_ne, Bool.not_eq_eq_eq_not] at hc1
      have hs18 := hc1
      refine JC.region ?_
      refine J.op (ot_load_own_agg (.tmp rfl) (.head _) ag25 (cTs_ldV (g := zT) (y := (ofI (contS (normS ts)))) rfl rfl)) rfl (ltN rfl) rfl ?_
      refine J.op (ot_eqt (T' := tV encI (ofI (- contS (normS ts)))) (ot_call fn53 (intNeg_c (ofI (contS (normS ts))) hcl) (.cons (.tmp rfl) .nil)) (by rw [zval_ofI])) rfl (ltN rfl) rfl ?_
      refine J.store (.tmp rfl) (.eq (.tmp rfl) (tV_F (Ts := [tIs (.bool ((ofI (- contS (normS ts))).neg)), tSl encD ((ofI (- contS (normS ts))).abs)]) rfl)) .here sz25 (st_agg (Ts' := [tIs (.bool ((ofI (- contS (normS ts))).neg)), tSl encD ((ofI (- contS (normS ts))).abs)]) (o := 0) rfl) ?_
      refine J.nil ?_
      exact JQ.join1 (- contS (normS ts)) (by rw [signO, if_pos (by rcases sgn_cases (zval (atT (normS ts) 0).coef) with h | h | h <;> omega)]) (sub_trans (sub_heap (.keep (fun _ _ h => h) (.keep (fun _ _ h => h) .nil))) (sub_cons (.tmp rfl) (sub_cons (.tmp rfl) (sub_cons (.tmp rfl) (sub_nil)))))
    · try simp only [Bool.and_eq_true, Bool.or_eq_true, Bool.not_eq_true', Bool.not_eq_false', Bool.and_eq_false_iff, Bool.or_eq_false_iff, Bool.not_true, Bool.not_false, decide_eq_true_eq, decide_eq_false_iff_not, beq_iff_eq, beq_eq_false_iff_ne, Bool.not_eq_eq_eq_not] at hc1
      have hs18 := hc1
      refine JC.skip ?_
      exact JQ.join1 (contS (normS ts)) (by rw [signO, if_neg (by rcases sgn_cases (zval (atT (normS ts) 0).coef) with h | h | h <;> omega)]) (sub_trans (sub_heap (.keep (fun _ _ h => h) (.keep (fun _ _ h => h) .nil))) (sub_cons (.tmp rfl) (sub_cons (.tmp rfl) (sub_cons (.tmp rfl) (sub_nil)))))
  intro g hj5
  have hgc := hj5
  refine JC.seq ?_
  refine JC.seq ?_
  refine JC.region ?_
  refine J.op (ot_move (.tmp rfl)) rfl (ltN rfl) rfl ?_
  refine J.op (ot_len_own (.tmp rfl) sl65 rfl) rfl (ltN rfl) rfl ?_
  refine J.op (ot_move .is) rfl (ltN rfl) rfl ?_
  refine J.nil ?_
  refine JQ.then_normal ?_
  refine JC.block ?_
  refine JC.loop (ι := Nat) (fun k => [(2, tSl encTm ([])), (3, sIs b7 0 ((normS ts).length) ((normS ts).length)), (4, pOwn b4 (0)), (22, tIs (.int .i64 ((((normS ts).length : Nat) : Int)))), (23, tIs (.int .i64 (((k : Nat) : Int))))]) (fun k => [⟨b4, 25, cTs [tIs (.bool ((ofI g).neg)), tSl encD ((ofI g).abs)]⟩, ⟨b7, 63, cRow encTm ((fillT (divT g) (normS ts) k)) (cap7)⟩]) (fun k => k ≤ (normS ts).length) (fun k => (normS ts).length - k) 0 (by omega) ?lsub0 ?round0
  case lsub0 => exact sub_trans (sub_heap (.keep (fun _ _ h => h) (.keep (cRow_eq fillT_zero) .nil))) (sub_cons (.tmp rfl) (sub_cons (.tmp rfl) (sub_cons (.tmp rfl) (sub_cons (.tmp rfl) (sub_cons (.eq (.tmp rfl) (by first | rfl | (congr 3; omega) | (congr 2; omega))) (sub_nil))))))
  intro k hinv
  have hfl := fillT_len (f := divT g) (ts := normS ts) k
  refine JC.seq ?_
  refine JC.region ?_
  refine J.op (ot_lss (.tmp rfl) (.tmp rfl)) rfl (ltN rfl) rfl ?_
  refine J.nil ?_
  refine JQ.then_normal ?_
  refine JC.seq ?_
  -- cond2: tIs (.bool (decide (((k : Nat) : Int) < (((normS ts).length : Nat) : Int))))
  refine JC.cond (.tmp rfl) (fun hc2 => ?_) (fun hc2 => ?_)
  · try simp only [Bool.and_eq_true, Bool.or_eq_true, Bool.not_eq_true', Bool.not_eq_false', Bool.and_eq_false_iff, Bool.or_eq_false_iff, Bool.not_true, Bool.not_false, decide_eq_true_eq, decide_eq_false_iff_not, beq_iff_eq, beq_eq_false_iff_ne, Bool.not_eq_eq_eq_not] at hc2
    have hs24 := hc2
    refine JC.skip ?_
    refine JQ.then_normal ?_
    refine JC.seq ?_
    refine JC.block ?_
    refine JC.seq ?_
    refine JC.region ?_
    refine J.op (ot_move (.tmp rfl)) rfl (ltN rfl) rfl ?_
    refine J.op (ot_assign (.tmp rfl)) rfl (ltN rfl) rfl ?_
    refine J.nil ?_
    refine JQ.then_normal ?_
    refine JC.drawS (Γ' := ?g1) (H' := [⟨b4, 25, cTs [tIs (.bool ((ofI g).neg)), tSl encD ((ofI g).abs)]⟩, ⟨b7, 63, cRow encTm (((fillT (divT g) (normS ts) k)).set (k) (Tm.mk (ofI (zval (atT (normS ts) k).coef / g)) ((atT (normS ts) k).exp))) (cap7)⟩]) 14 (fun i => [11].contains i) mo (by kernel_rfl) rfl ?tw1 ?st1 ?k1
    case tw1 =>
      refine TS.op (ot_move (.tmp rfl)) rfl (ltN rfl) rfl rfl ?_
      refine TS.op (ot_move (.tmp rfl)) rfl (ltN rfl) rfl rfl ?_
      refine TS.op (ot_move (.tmp rfl)) rfl (ltN rfl) rfl rfl ?_
      refine TS.op (ot_move (.tmp rfl)) rfl (ltN rfl) rfl rfl ?_
      refine TS.op (ot_eqt (T' := pOwn b7 (0 + k * 6)) (ot_index_own (.tmp rfl) (.tmp rfl) sl65 (by omega) (by omega)) (own_off2 (by omega))) rfl (ltN rfl) rfl rfl ?_
      refine TS.op (ot_fieldAddr_own (.tmp rfl) fd63_0) rfl (ltN rfl) rfl rfl ?_
      refine TS.op (ot_load_own_agg (.tmp rfl) (.tail _ (.head _)) ag25 (row_aggF (n := 6) (m := 2) (off := 0) (g := zT) (y := (atT (normS ts) k).coef) (fillT_el (by omega)) rfl rfl)) rfl (ltN rfl) rfl rfl ?_
      refine TS.op (ot_load_own_agg (.tmp rfl) (.head _) ag25 (cTs_ldV (g := zT) (y := (ofI g)) rfl rfl)) rfl (ltN rfl) rfl rfl ?_
      refine TS.op (ot_eqt (T' := tTup [tV encI (ofI (zval (atT (normS ts) k).coef / g)), tIs (.int .i64 (0))]) (ot_call fn54 (dexact_c ((atT (normS ts) k).coef) (ofI g) (Nat.le_trans (hz2 _ (atT_mem (by omega))) (by omega)) (signO_len hgc hc) (signO_val hgc hc)) (.cons (.tmp rfl) (.cons (.tmp rfl) .nil))) (by rw [zval_ofI, if_pos (hgc ▸ hdv _ (atT_mem (by omega))), if_pos (hgc ▸ hdv _ (atT_mem (by omega)))])) rfl (ltN rfl) rfl rfl ?_
      refine TS.op (ot_move (.tmp rfl)) rfl (ltN rfl) rfl rfl ?_
      refine TS.op (ot_extract (.tmp rfl) rfl) rfl (ltN rfl) rfl rfl ?_
      refine TS.opf (fun _ => ot_extract (.tmp rfl) rfl) rfl (ltN rfl) rfl ?_
      refine TS.op (ot_eqt (T' := pOwn b7 (0 + k * 6)) (ot_index_own (.tmp rfl) (.tmp rfl) sl65 (by omega) (by omega)) (own_off2 (by omega))) rfl (ltN rfl) rfl rfl ?_
      refine TS.op (ot_fieldAddr_own (.tmp rfl) fd63_0) rfl (ltN rfl) rfl rfl ?_
      exact TS.nil
    case st1 =>
      intro Γx hx
      refine ⟨rfl, J.done fun Q hq => ?_⟩
      refine J.store (.move hx (.tmp rfl) (by kernel_rfl)) (.move hx (.tmp rfl) (by kernel_rfl)) (.there .here) sz25 (row_setF (n := 6) (m := 2) (off := 0) (i := k) (x := atT (normS ts) k) (x' := Tm.mk (ofI (zval (atT (normS ts) k).coef / g)) ((atT (normS ts) k).exp)) (y := ofI (zval (atT (normS ts) k).coef / g)) (fillT_el (by omega)) rfl rfl) ?_
      exact J.nil hq
    refine JQ.block_normal ?_
    refine JQ.then_normal ?_
    refine JC.region ?_
    refine J.op (ot_add (.tmp rfl) .is (w64 (by omega) (by omega))) rfl (ltN rfl) rfl ?_
    refine J.op (ot_move (.tmp rfl)) rfl (ltN rfl) rfl ?_
    refine J.nil ?_
    exact JQ.round (k + 1) (by omega) (by omega) (sub_trans (sub_heap (.keep (fun _ _ h => h) (.keep (cRow_eq (fillT_set (by omega))) .nil))) (sub_cons (.tmp rfl) (sub_cons (.tmp rfl) (sub_cons (.tmp rfl) (sub_cons (.tmp rfl) (sub_cons (.eq (.tmp rfl) (by first | rfl | (congr 3; omega) | (congr 2; omega))) (sub_nil)))))))
  · try simp only [Bool.and_eq_true, Bool.or_eq_true, Bool.not_eq_true', Bool.not_eq_false', Bool.and_eq_false_iff, Bool.or_eq_false_iff, Bool.not_true, Bool.not_false, decide_eq_true_eq, decide_eq_false_iff_not, beq_iff_eq, beq_eq_false_iff_ne, Bool.not_eq_eq_eq_not] at hc2
    have hs24 := hc2
    refine JC.exit ?_
    refine JQ.then_exit ?_
    refine JQ.then_exit ?_
    refine JQ.block_exit ?_
    refine JQ.then_normal ?_
    refine JC.seq ?_
    refine JC.weak (sub_freeze0 (E := encTm) (xs := (fillT (divT g) (normS ts) k)) (n := (normS ts).length) (c := (normS ts).length) [3] ⟨rfl, trivial⟩ (.there .here) (by rw [fillT_len]) (by omega)) ?_
    refine JC.region ?_
    refine J.op (ot_move (.tmp rfl)) rfl (ltN rfl) rfl ?_
    refine J.op (ot_assign (.tmp rfl)) rfl (ltN rfl) rfl ?_
    refine J.nil ?_
    refine JQ.then_normal ?_
    refine JC.ret ?_
    -- ret0
    exact JQ.ret1 rfl (.tmp (.eq (.tmp rfl) (by rw [fillT_full (by omega), hgc])))

theorem spterms_c {B : Nat} (ts : List Tm) (hl : ts.length < 20) (hd : ∀ t ∈ ts, Digs t.coef.abs) (hz : ∀ t ∈ ts, t.coef.abs.length ≤ B) (hb : B ≤ 1000000000000) : Ctr Try.prog 51 [tSl encTm (ts)] (tClo 69 [tPtr (cTs [tSl encTm (normS ts)])]) := by
  refine Ctr.of Try.func51 rfl Try.ntmps51 (Nat.le_of_ble_eq_true rfl) fun w0 M0 => ?_
  refine JC.seq ?_
  refine JC.region ?_
  refine J.op (ot_assign .is) rfl (ltN rfl) rfl ?_
  refine J.nil ?_
  refine JQ.then_normal ?_
  refine JC.seq ?_
  refine JC.region ?_
  refine J.op (ot_move (.tmp rfl)) rfl (ltN rfl) rfl ?_
  refine J.op (ot_call fn39 (normS_c ts (by assumption) (by assumption) (by assumption) (by assumption)) (.cons (.tmp rfl) .nil)) rfl (ltN rfl) rfl ?_
  refine J.alloc (R := cTs [tSl encTm ([])]) zr65 (fun _ => ⟨slP_nil _ _, rfl, trivial⟩) (ltN rfl) fun b3 => ?_
  refine J.store (.tmp rfl) (.tmp rfl) .here sz65 (st_cell (o := 0) (one_sl) rfl) ?_
  refine J.nil ?_
  refine JQ.then_normal ?_
  refine JC.seq ?_
  refine JC.weak (sub_freezeP (R' := cTs [tSl encTm (normS ts)]) [3] ⟨rfl, trivial⟩ .here (fun _ _ h => h)) ?_
  refine JC.region ?_
  refine J.op (ot_clo (.cons (.tmp rfl) .nil)) rfl (ltN rfl) rfl ?_
  refine J.op (ot_assign (.tmp rfl)) rfl (ltN rfl) rfl ?_
  refine J.nil ?_
  refine JQ.then_normal ?_
  refine JC.ret ?_
  -- ret0
  exact JQ.ret1 rfl (.tmp (.tmp rfl))

end Go.Proofs.Ytkpmcldbcljkfaa
