/- Walks through the program: each function called at values of the kinds that its contract names returns what the contract says. Conditions: those in the contracts. Written by the program wip/gen. -/
import Derived.Test.YtkpmcldbcljkfaaW4
set_option linter.unusedVariables false
set_option linter.unusedSimpArgs false
set_option maxRecDepth 100000
set_option maxHeartbeats 4000000
namespace Go.Proofs.Ytkpmcldbcljkfaa
open Go Go.RowKit Go.Rt
theorem normLG_c {B : Nat} (pb pc pq : Nat) (ts : List Tm) (hl : ts.length ≤ 4294967295) (hd : ∀ t ∈ ts, Digs t.coef.abs) (hz : ∀ t ∈ ts, t.coef.abs.length ≤ B) (hb : B ≤ 1000000000000) : CtrL Try.prog 39 [sIs pb 0 (ts.length) (pc)] pb 63 (cRow encTm (ts) (pq)) (cRow encTm (ts) (pq)) (tSl encTm (normS ts)) := by
  have hkl := keepT_len ts
  have hsl := stT_len (keepT ts)
  have hm : ∀ t ∈ stT (keepT ts), t ∈ ts := fun t h => (List.mem_filter.1 (stT_mem t h)).1
  refine CtrL.of Try.func39 rfl Try.ntmps39 (Nat.le_of_ble_eq_true rfl) fun w0 M0 => ?_
  refine JC.seq (JC.region ?_)
  refine J.o (ot_assign (.nil (E := encTm))) rfl ?_
  refine J.nil (JQ.then_normal (JC.seq (JC.region ?_)))
  refine J.a .is rfl ?_
  refine J.nil (JQ.then_normal (JC.seq (JC.seq (JC.region ?_))))
  refine J.m (.tmp rfl) rfl ?_
  refine J.o (ot_len_own (.tmp rfl) sl65 rfl) rfl ?_
  refine J.m .is rfl ?_
  refine J.nil (JQ.then_normal (JC.block ?_))
  refine JC.loop4 (α := Bool) (β := Nat) (γ := Nat) (δ := Nat) (fun e k b c => bif e then [(2, tSl encTm ([])), (3, tIs (.slice none 0 0)), (9, sIs pb 0 (ts.length) (pc)), (10, tIs (.int .i64 (((ts.length : Nat) : Int)))), (11, tIs (.int .i64 (((k : Nat) : Int))))] else [(2, tSl encTm ([])), (3, sIs b 0 ((keepT (ts.take k)).length) (c)), (9, sIs pb 0 (ts.length) (pc)), (10, tIs (.int .i64 (((ts.length : Nat) : Int)))), (11, tIs (.int .i64 (((k : Nat) : Int))))]) (fun e k b c => bif e then [⟨pb, 63, cRow encTm (ts) (pq)⟩] else [⟨b, 63, cRow encTm (keepT (ts.take k)) (c)⟩, ⟨pb, 63, cRow encTm (ts) (pq)⟩]) (fun e k b c => k ≤ ts.length ∧ (e = true → keepT (ts.take k) = [])) (fun e k b c => ts.length - k) true 0 0 0 ⟨by omega, fun _ => rfl⟩ ?lsub0 ?round0
  case lsub0 => exact sub_trans (sub_heap (.keep (fun _ _ h => h) .nil)) (sub_cons (.tmp rfl) (sub_cons (.tmp rfl) (sub_cons (.tmp rfl) (sub_cons (.tmp rfl) (sub_cons (.eq (.tmp rfl) (by first | rfl | (congr 3; omega) | (congr 2; omega))) (sub_nil))))))
  intro e k b c hinv
  rcases e with _ | _
  · change JC _ _ _ [(2, tSl encTm ([])), (3, sIs b 0 ((keepT (ts.take k)).length) (c)), (9, sIs pb 0 (ts.length) (pc)), (10, tIs (.int .i64 (((ts.length : Nat) : Int)))), (11, tIs (.int .i64 (((k : Nat) : Int))))] [⟨b, 63, cRow encTm (keepT (ts.take k)) (c)⟩, ⟨pb, 63, cRow encTm (ts) (pq)⟩]
    obtain ⟨hk, he⟩ := hinv
    have hkk := keepT_len (ts.take k)
    rw [List.length_take] at hkk
    refine JC.seq (JC.region ?_)
    refine J.o (ot_lss (.tmp rfl) (.tmp rfl)) rfl ?_
    refine J.nil (JQ.then_normal (JC.seq ?_))
    refine JC.cond (.tmp rfl) (fun hc0 => ?_) (fun hc0 => ?_)
    · try simp only [bsx] at hc0
      have hs12 := hc0
      refine JC.skip (JQ.then_normal (JC.seq (JC.block (JC.seq (JC.region ?_)))))
      refine J.o (ot_eqt (T' := pOwn pb (0 + k * 6)) (ot_index_own (.tmp rfl) (.tmp rfl) sl65 (by omega) (by omega)) (own_off2 (by omega))) rfl ?_
      refine J.o (ot_load_own_agg (.tmp rfl) (.tail _ (.head _)) ag63 (row_agg rfl (atT_some (by omega)))) rfl ?_
      refine J.alloc (R := cTs [tIs (.bool (false)), tSl encD ([]), tIs (.int .i64 (0)), tIs (.int .i64 (0)), tIs (.int .i64 (0)), tIs (.int .i64 (0))]) zr63 (fun _ => ⟨rfl, rfl, slP_nil _ _, rfl, rfl, rfl, rfl, rfl, rfl, rfl, rfl, rfl, trivial⟩) (ltN rfl) fun b5 => ?_
      refine J.store (.tmp rfl) (.eq (.tmp rfl) (tV_F (Ts := [tIs (.bool (((atT ts k).coef).neg)), tSl encD (((atT ts k).coef).abs), tIs (.int .i64 (((atT ts k).exp).a)), tIs (.int .i64 (((atT ts k).exp).b)), tIs (.int .i64 (((atT ts k).exp).c)), tIs (.int .i64 (((atT ts k).exp).d))]) rfl)) .here sz63 (st_agg (Ts' := [tIs (.bool (((atT ts k).coef).neg)), tSl encD (((atT ts k).coef).abs), tIs (.int .i64 (((atT ts k).exp).a)), tIs (.int .i64 (((atT ts k).exp).b)), tIs (.int .i64 (((atT ts k).exp).c)), tIs (.int .i64 (((atT ts k).exp).d))]) (o := 0) rfl) ?_
      refine J.nil (JQ.then_normal (JC.seq ?_))
      refine JC.weak (sub_freezeP (R' := cEnc encTm (atT ts k)) [5] ⟨rfl, trivial⟩ .here (cTs_F (f := tmT) (x := atT ts k) rfl rfl)) ?_
      refine JC.region ?_
      refine J.o (ot_fieldAddr (R' := cDrop (cEnc encTm (atT ts k)) 2) (.tmp rfl) fd63_1 (fun _ _ h => cDrop_mk h)) rfl ?_
      refine J.o (ot_sliceA (.tmp rfl) ar4_61 tm_exp) rfl ?_
      refine J.o (ot_call fn57 (min_c ((atT ts k).exp.list) (by simp [Mo.list])) (.cons (.tmp rfl) .nil)) rfl ?_
      refine J.o (ot_geq (.tmp rfl) .is) rfl ?_
      refine J.nil (JQ.then_normal ?_)
      refine JC.cond (.tmp rfl) (fun hc1 => ?_) (fun hc1 => ?_)
      · try simp only [bsx] at hc1
        have hs18 := hc1
        refine JC.region ?_
        refine J.m (.tmp rfl) rfl ?_
        refine J.o (ot_load_agg (.tmp rfl) ag63 ldp_whole) rfl ?_
        refine J.o (ot_buildSlice (E := encTm) (zs := [atT ts k]) sl65 (.cons (.tmp rfl) .nil) rfl zr63 rfl (by decide) (by decide)) rfl ?_
        refine J.append (E := encTm) (xs := keepT (ts.take k)) (ys := [atT ts k]) (.tmp rfl) rfl (.tmp rfl) sl65 rfl zr63 rfl .here (by simp <;> omega) (by simp <;> omega) (ltN rfl) fun b22 c22 => ?_
        refine J.a (.tmp rfl) rfl ?_
        refine J.nil (JQ.block_normal (JQ.then_normal (JC.region ?_)))
        refine J.o (ot_add (.tmp rfl) .is (w64 (by omega) (by omega))) rfl ?_
        refine J.m (.tmp rfl) rfl ?_
        refine J.nil ?_
        have hyes := keepT_yes (show k < ts.length by omega) (okT_iff.2 hs18)
        exact JQ.round4 (i := false) (i2 := k) (i3 := b) (i4 := c) false (k + 1) b22 c22 ⟨by omega, fun h => by cases h⟩ (by omega) (sub_trans (sub_heap (.keep (cRow_eq hyes) (.keep (fun _ _ h => h) .nil))) (sub_cons (.tmp rfl) (sub_cons (.eq (.tmp rfl) (by rw [hyes])) (sub_cons (.tmp rfl) (sub_cons (.tmp rfl) (sub_cons (.eq (.tmp rfl) (by first | rfl | (congr 3; omega) | (congr 2; omega))) (sub_nil)))))))
      · try simp only [bsx] at hc1
        have hs18 := hc1
        refine JC.skip (JQ.block_normal (JQ.then_normal (JC.region ?_)))
        refine J.o (ot_add (.tmp rfl) .is (w64 (by omega) (by omega))) rfl ?_
        refine J.m (.tmp rfl) rfl ?_
        refine J.nil ?_
        have hno := keepT_no (show k < ts.length by omega) (fun h => hs18 (okT_iff.1 h))
        exact JQ.round4 (i := false) (i2 := k) (i3 := b) (i4 := c) false (k + 1) b c ⟨by omega, fun h => by cases h⟩ (by omega) (sub_trans (sub_heap (.keep (cRow_eq hno) (.keep (fun _ _ h => h) .nil))) (sub_cons (.tmp rfl) (sub_cons (.eq (.tmp rfl) (by rw [hno])) (sub_cons (.tmp rfl) (sub_cons (.tmp rfl) (sub_cons (.eq (.tmp rfl) (by first | rfl | (congr 3; omega) | (congr 2; omega))) (sub_nil)))))))
    · try simp only [bsx] at hc0
      have hs12 := hc0
      have hkt : keepT (ts.take k) = keepT ts := by rw [List.take_of_length_le (by omega)]
      refine JC.exit (JQ.then_exit (JQ.then_exit (JQ.block_exit (JQ.then_normal (JC.seq (JC.region ?_))))))
      refine J.m (.tmp rfl) rfl ?_
      refine J.callL (R' := cRow encTm (stT (keepT (ts.take k))) (c)) (Us := []) (cap := []) fn58 (.func (fun _ => rfl)) (sortG_c b c (keepT (ts.take k)) (by omega)) (.cons (.tmp rfl) (.cons (.func (fun _ => rfl)) .nil)) (fun _ => trivial) .here (ltN rfl) ?_
      refine J.nil (JQ.then_normal (JC.seq ?_))
      refine JC.weak (sub_freeze0 (E := encTm) (xs := stT (keepT (ts.take k))) (n := (keepT (ts.take k)).length) (c := c) [24, 3] ⟨rfl, rfl, trivial⟩ .here (by rw [stT_len]) (by omega)) ?_
      refine JC.region ?_
      refine J.a .is rfl ?_
      refine J.nil (JQ.then_normal (JC.seq (JC.seq (JC.region ?_))))
      refine J.a .is rfl ?_
      refine J.nil (JQ.then_normal (JC.block ?_))
      refine JC.loop5 (α := Bool) (β := Nat) (γ := List Tm) (δ := Nat) (ε := Nat) (fun e i O b c => bif e then [(2, tSl encTm ([])), (3, tSl encTm ((stT (keepT ts)))), (6, tIs (.slice none 0 0)), (7, tIs (.int .i64 (((i : Nat) : Int))))] else [(2, tSl encTm ([])), (3, tSl encTm ((stT (keepT ts)))), (6, sIs b 0 (O.length) (c)), (7, tIs (.int .i64 (((i : Nat) : Int))))]) (fun e i O b c => bif e then [⟨pb, 63, cRow encTm (ts) (pq)⟩] else [⟨b, 63, cRow encTm (O) (c)⟩, ⟨pb, 63, cRow encTm (ts) (pq)⟩]) (fun e i O b c => i ≤ (stT (keepT ts)).length ∧ O ++ mergeT ((stT (keepT ts)).drop i) = mergeT (stT (keepT ts)) ∧ O.length ≤ i ∧ (e = true → O = [])) (fun e i O b c => (stT (keepT ts)).length - i) true 0 ([]) 0 0 ⟨by omega, by simp, by simp, fun _ => rfl⟩ ?lsub1 ?round1
      case lsub1 => exact sub_trans (sub_heap (.keep (fun _ _ h => h) .nil)) (sub_cons (.tmp rfl) (sub_cons (.eq (.tmp rfl) (by rw [hkt])) (sub_cons (.tmp rfl) (sub_cons (.eq (.tmp rfl) (by first | rfl | (congr 3; omega) | (congr 2; omega))) (sub_nil)))))
      intro e i O b c hinv
      rcases e with _ | _
      · change JC _ _ _ [(2, tSl encTm ([])), (3, tSl encTm ((stT (keepT ts)))), (6, sIs b 0 (O.length) (c)), (7, tIs (.int .i64 (((i : Nat) : Int))))] [⟨b, 63, cRow encTm (O) (c)⟩, ⟨pb, 63, cRow encTm (ts) (pq)⟩]
        obtain ⟨hi, hO, hOl, hOe⟩ := hinv
        refine JC.seq (JC.seq (JC.region ?_))
        refine J.m (.tmp rfl) rfl ?_
        refine J.m (.tmp rfl) rfl ?_
        refine J.o (ot_len (.tmp rfl) sl65 rfl) rfl ?_
        refine J.o (ot_lss (.tmp rfl) (.tmp rfl)) rfl ?_
        refine J.nil (JQ.then_normal ?_)
        refine JC.cond (.tmp rfl) (fun hc2 => ?_) (fun hc2 => ?_)
        · try simp only [bsx] at hc2
          have hs29 := hc2
          refine JC.skip (JQ.then_normal (JC.block (JC.seq (JC.region ?_))))
          refine J.m (.tmp rfl) rfl ?_
          refine J.m (.tmp rfl) rfl ?_
          refine J.o (ot_index (z := atT (stT (keepT ts)) i) (.tmp rfl) (.tmp rfl) sl65 (by omega) (atT_at (by omega) (by omega))) rfl ?_
          refine J.o (ot_fieldAddr (R' := cDrop (cEnc encTm (atT (stT (keepT ts)) i)) 2) (.tmp rfl) fd63_1 (fun _ _ h => cDrop_mk h)) rfl ?_
          refine J.o (ot_load_agg (.tmp rfl) ag61 (ldFV (g := moT) (y := (atT (stT (keepT ts)) i).exp) rfl rfl)) rfl ?_
          refine J.o (ot_eqt (T' := tV encTm (Tm.mk (Z.mk (false) ([])) ((atT (stT (keepT ts)) i).exp))) (ot_build (Ts := [tIs (.bool (false)), tSl encD ([]), tIs (.int .i64 (0)), tIs (.int .i64 (0)), tIs (.int .i64 (0)), tIs (.int .i64 (0))]) pl63 (fun _ => ⟨rfl, rfl, slP_nil _ _, rfl, rfl, rfl, rfl, rfl, rfl, rfl, rfl, rfl, trivial⟩) ((.agg (off := 2) rfl (.eq (.tmp rfl) (tV_F (Ts := [tIs (.int .i64 (((atT (stT (keepT ts)) i).exp).a)), tIs (.int .i64 (((atT (stT (keepT ts)) i).exp).b)), tIs (.int .i64 (((atT (stT (keepT ts)) i).exp).c)), tIs (.int .i64 (((atT (stT (keepT ts)) i).exp).d))]) rfl)) (Ts' := [tIs (.bool (false)), tSl encD ([]), tIs (.int .i64 (((atT (stT (keepT ts)) i).exp).a)), tIs (.int .i64 (((atT (stT (keepT ts)) i).exp).b)), tIs (.int .i64 (((atT (stT (keepT ts)) i).exp).c)), tIs (.int .i64 (((atT (stT (keepT ts)) i).exp).d))]) rfl rfl .nil)) rfl) (tV_F' rfl)) rfl ?_
          refine J.alloc (R := cTs [tIs (.bool (false)), tSl encD ([]), tIs (.int .i64 (0)), tIs (.int .i64 (0)), tIs (.int .i64 (0)), tIs (.int .i64 (0))]) zr63 (fun _ => ⟨rfl, rfl, slP_nil _ _, rfl, rfl, rfl, rfl, rfl, rfl, rfl, rfl, rfl, trivial⟩) (ltN rfl) fun b8 => ?_
          refine J.store (.tmp rfl) (.eq (.tmp rfl) (tV_F (Ts := [tIs (.bool (false)), tSl encD ([]), tIs (.int .i64 (((atT (stT (keepT ts)) i).exp).a)), tIs (.int .i64 (((atT (stT (keepT ts)) i).exp).b)), tIs (.int .i64 (((atT (stT (keepT ts)) i).exp).c)), tIs (.int .i64 (((atT (stT (keepT ts)) i).exp).d))]) rfl)) .here sz63 (st_agg (Ts' := [tIs (.bool (false)), tSl encD ([]), tIs (.int .i64 (((atT (stT (keepT ts)) i).exp).a)), tIs (.int .i64 (((atT (stT (keepT ts)) i).exp).b)), tIs (.int .i64 (((atT (stT (keepT ts)) i).exp).c)), tIs (.int .i64 (((atT (stT (keepT ts)) i).exp).d))]) (o := 0) rfl) ?_
          refine J.nil (JQ.then_normal (JC.seq (JC.block ?_)))
          refine JC.loop2 (α := Nat) (β := Int) (fun j q => [(2, tSl encTm ([])), (3, tSl encTm ((stT (keepT ts)))), (6, sIs b 0 (O.length) (c)), (7, tIs (.int .i64 (((j : Nat) : Int)))), (8, pOwn b8 (0)), (26, tIs (.int .i64 (((i : Nat) : Int)))), (27, tSl encTm ((stT (keepT ts)))), (28, tIs (.int .i64 ((((stT (keepT ts))).length : Int)))), (29, tIs (.bool (decide (((i : Nat) : Int) < (((stT (keepT ts))).length : Int))))), (30, tSl encTm ((stT (keepT ts)))), (31, tIs (.int .i64 (((i : Nat) : Int)))), (32, tPtr (cEnc encTm (atT (stT (keepT ts)) i))), (33, tPtr (cDrop (cEnc encTm (atT (stT (keepT ts)) i)) 2)), (34, tV encMo ((atT (stT (keepT ts)) i).exp)), (35, tV encTm (Tm.mk (Z.mk (false) ([])) ((atT (stT (keepT ts)) i).exp)))]) (fun j q => [⟨b8, 63, cTs [tIs (.bool ((ofI q).neg)), tSl encD ((ofI q).abs), tIs (.int .i64 (((atT (stT (keepT ts)) i).exp).a)), tIs (.int .i64 (((atT (stT (keepT ts)) i).exp).b)), tIs (.int .i64 (((atT (stT (keepT ts)) i).exp).c)), tIs (.int .i64 (((atT (stT (keepT ts)) i).exp).d))]⟩, ⟨b, 63, cRow encTm (O) (c)⟩, ⟨pb, 63, cRow encTm (ts) (pq)⟩]) (fun j q => i ≤ j ∧ j ≤ (stT (keepT ts)).length ∧ sumRun (atT (stT (keepT ts)) i).exp q ((stT (keepT ts)).drop j) = sumRun (atT (stT (keepT ts)) i).exp 0 ((stT (keepT ts)).drop i) ∧ q.natAbs ≤ j * B32 ^ B) (fun j q => (stT (keepT ts)).length - j) i 0 ⟨by omega, by omega, rfl, by simp⟩ ?lsub2 ?round2
          case lsub2 => exact sub_trans (sub_heap (.keep (fun _ _ h => by rw [ofI_zero]; exact h) (.keep (fun _ _ h => h) (.keep (fun _ _ h => h) .nil)))) (sub_cons (.tmp rfl) (sub_cons (.tmp rfl) (sub_cons (.tmp rfl) (sub_cons (.tmp rfl) (sub_cons (.tmp rfl) (sub_cons (.tmp rfl) (sub_cons (.tmp rfl) (sub_cons (.tmp rfl) (sub_cons (.tmp rfl) (sub_cons (.tmp rfl) (sub_cons (.tmp rfl) (sub_cons (.tmp rfl) (sub_cons (.tmp rfl) (sub_cons (.tmp rfl) (sub_cons (.tmp rfl) (sub_nil))))))))))))))))
          intro j q hinv
          obtain ⟨hij, hjl, hrun, hq⟩ := hinv
          have hqf := sum_fit hq (by omega)
          have hqf2 : (ofI q).abs.length ≤ B + 1 := hqf
          refine JC.seq (JC.seq ?_)
          refine JC.draw (Γ' := ?g1) mo (by kernel_rfl) ?tw1 ?k1
          case tw1 =>
            refine TW.m (.tmp rfl) rfl ?_
            refine TW.m (.tmp rfl) rfl ?_
            refine TW.o (ot_len (.tmp rfl) sl65 rfl) rfl ?_
            refine TW.o (ot_lss (.tmp rfl) (.tmp rfl)) rfl ?_
            refine TW.m (.tmp rfl) rfl ?_
            refine TW.opg rfl rfl rfl (ltN rfl) (fun hg => ot_move (.tmp rfl)) rfl (ltN rfl) ?_
            refine TW.opg rfl rfl rfl (ltN rfl) (fun hg => ot_move (.tmp rfl)) rfl (ltN rfl) ?_
            refine TW.opg rfl rfl rfl (ltN rfl) (fun hg => (by have hg' := hg; (try simp only [bsx] at hg'); exact ot_index (z := atT (stT (keepT ts)) j) (.iff hg (.tmp rfl)) (.iff hg (.tmp rfl)) sl65 (by omega) (atT_at (by omega) (by omega)))) rfl (ltN rfl) ?_
            refine TW.opg rfl rfl rfl (ltN rfl) (fun hg => ot_fieldAddr (R' := cDrop (cEnc encTm (atT (stT (keepT ts)) j)) 2) (.iff hg (.tmp rfl)) fd63_1 (fun _ _ h => cDrop_mk h)) rfl (ltN rfl) ?_
            refine TW.opg rfl rfl rfl (ltN rfl) (fun hg => ot_load_agg (.iff hg (.tmp rfl)) ag61 (ldFV (g := moT) (y := (atT (stT (keepT ts)) j).exp) rfl rfl)) rfl (ltN rfl) ?_
            refine TW.opg rfl rfl rfl (ltN rfl) (fun hg => ot_fieldAddr_own (.tmp rfl) fd63_1) rfl (ltN rfl) ?_
            refine TW.opg rfl rfl rfl (ltN rfl) (fun hg => ot_load_own_agg (.iff hg (.tmp rfl)) (.head _) ag61 (cTs_ldV (g := moT) (y := ((atT (stT (keepT ts)) i).exp)) rfl rfl)) rfl (ltN rfl) ?_
            refine TW.opg rfl rfl rfl (ltN rfl) (fun hg => ot_eqA (.iff hg (.tmp rfl)) (.iff hg (.tmp rfl)) ar4_61) rfl (ltN rfl) ?_
            refine TW.o (ot_and2 (.tmp rfl) (.tmp rfl) .is) rfl ?_
            exact TW.nil
          refine JQ.then_normal ?_
          refine JC.cond (.tmp rfl) (fun hc3 => ?_) (fun hc3 => ?_)
          · try simp only [bsx] at hc3
            have hs49 := hc3
            have hmj : atT (stT (keepT ts)) j ∈ ts := hm _ (atT_mem (by omega))
            have hzj := hz _ hmj
            refine JC.skip (JQ.then_normal (JC.block (JC.seq ?_)))
            refine JC.drawAt (Γ' := ?g2) 9 mo (by kernel_rfl) ?tw2 ?k2
            case tw2 =>
              refine TW.o (ot_fieldAddr_own (.tmp rfl) fd63_0) rfl ?_
              refine TW.o (ot_load_own_agg (.tmp rfl) (.head _) ag25 (cTs_ldV (g := zT) (y := (ofI q)) rfl rfl)) rfl ?_
              refine TW.m (.tmp rfl) rfl ?_
              refine TW.m (.tmp rfl) rfl ?_
              refine TW.o (ot_index (z := atT (stT (keepT ts)) j) (.tmp rfl) (.tmp rfl) sl65 (by omega) (atT_at (by omega) (by omega))) rfl ?_
              refine TW.o (ot_fieldAddr (.tmp rfl) fd63_0 (fun _ _ h => h)) rfl ?_
              refine TW.o (ot_load_agg (.tmp rfl) ag25 (ldFV0 (g := zT) (y := (atT (stT (keepT ts)) j).coef) rfl rfl)) rfl ?_
              refine TW.o (ot_eqt (T' := tV encI (ofI (q + zval (atT (stT (keepT ts)) j).coef))) (ot_call fn48 (intAdd_c (ofI q) ((atT (stT (keepT ts)) j).coef) (by omega) (by omega)) (.cons (.tmp rfl) (.cons (.tmp rfl) .nil))) (by rw [zval_ofI])) rfl ?_
              refine TW.o (ot_fieldAddr_own (.tmp rfl) fd63_0) rfl ?_
              exact TW.nil
            refine J.store (.tmp rfl) (.eq (.tmp rfl) (tV_F (Ts := [tIs (.bool ((ofI (q + zval (atT (stT (keepT ts)) j).coef)).neg)), tSl encD ((ofI (q + zval (atT (stT (keepT ts)) j).coef)).abs)]) rfl)) .here sz25 (st_agg (Ts' := [tIs (.bool ((ofI (q + zval (atT (stT (keepT ts)) j).coef)).neg)), tSl encD ((ofI (q + zval (atT (stT (keepT ts)) j).coef)).abs), tIs (.int .i64 (((atT (stT (keepT ts)) i).exp).a)), tIs (.int .i64 (((atT (stT (keepT ts)) i).exp).b)), tIs (.int .i64 (((atT (stT (keepT ts)) i).exp).c)), tIs (.int .i64 (((atT (stT (keepT ts)) i).exp).d))]) (o := 0) rfl) ?_
            refine J.nil (JQ.then_normal (JC.region ?_))
            refine J.m (.tmp rfl) rfl ?_
            refine J.o (ot_add (.tmp rfl) .is (w64 (by omega) (by omega))) rfl ?_
            refine J.a (.tmp rfl) rfl ?_
            refine J.nil (JQ.block_normal ?_)
            exact JQ.round2 (i := j) (i2 := q) (j + 1) (q + zval (atT (stT (keepT ts)) j).coef) ⟨by omega, by omega, by rw [← hrun]; exact sumRun_step (by omega) hs49.2, sum_next hq (hd _ hmj) (hz _ hmj)⟩ (by omega) (sub_trans (sub_heap (.keep (fun _ _ h => h) (.keep (fun _ _ h => h) (.keep (fun _ _ h => h) .nil)))) (sub_cons (.tmp rfl) (sub_cons (.tmp rfl) (sub_cons (.tmp rfl) (sub_cons (.eq (.tmp rfl) (by first | rfl | (congr 3; omega) | (congr 2; omega))) (sub_cons (.tmp rfl) (sub_cons (.tmp rfl) (sub_cons (.tmp rfl) (sub_cons (.tmp rfl) (sub_cons (.tmp rfl) (sub_cons (.tmp rfl) (sub_cons (.tmp rfl) (sub_cons (.tmp rfl) (sub_cons (.tmp rfl) (sub_cons (.tmp rfl) (sub_cons (.tmp rfl) (sub_nil)))))))))))))))))
          · try simp only [bsx] at hc3
            have hs49 := hc3
            have hst := sumRun_stop (c := q) (show ¬ j < (stT (keepT ts)).length ∨ ¬ (atT (stT (keepT ts)) j).exp = (atT (stT (keepT ts)) i).exp from hs49.imp (fun h => by omega) id)
            rw [hrun] at hst
            have hlt : i < j := by rcases Nat.lt_or_eq_of_le hij with h | h; exact h; subst h; rcases hs49 with q | q; omega; exact absurd rfl q
            refine JC.exit (JQ.then_exit (JQ.then_exit (JQ.block_exit (JQ.then_normal (JC.seq (JC.region ?_))))))
            refine J.o (ot_fieldAddr_own (.tmp rfl) fd63_0) rfl ?_
            refine J.o (ot_load_own_agg (.tmp rfl) (.head _) ag25 (cTs_ldV (g := zT) (y := (ofI q)) rfl rfl)) rfl ?_
            refine J.o (ot_eqt (T' := tIs (.int .i64 (sgn q))) (ot_call fn25 (intSign_c (ofI q) (by omega)) (.cons (.tmp rfl) .nil)) (by rw [zval_ofI])) rfl ?_
            refine J.o (ot_neq (.tmp rfl) .is) rfl ?_
            refine J.nil (JQ.then_normal ?_)
            refine JC.cond (.tmp rfl) (fun hc4 => ?_) (fun hc4 => ?_)
            · try simp only [bsx] at hc4
              have hs64 := hc4
              refine JC.region ?_
              refine J.m (.tmp rfl) rfl ?_
              refine J.o (ot_load_own_agg (.tmp rfl) (.head _) ag63 (cTs_ldV (g := tmT) (y := (Tm.mk (ofI q) ((atT (stT (keepT ts)) i).exp))) rfl rfl)) rfl ?_
              refine J.o (ot_buildSlice (E := encTm) (zs := [Tm.mk (ofI q) ((atT (stT (keepT ts)) i).exp)]) sl65 (.cons (.tmp rfl) .nil) rfl zr63 rfl (by decide) (by decide)) rfl ?_
              refine J.append (E := encTm) (xs := O) (ys := [Tm.mk (ofI q) ((atT (stT (keepT ts)) i).exp)]) (.tmp rfl) rfl (.tmp rfl) sl65 rfl zr63 rfl (.there .here) (by simp <;> omega) (by simp <;> omega) (ltN rfl) fun b68 c68 => ?_
              refine J.a (.tmp rfl) rfl ?_
              refine J.nil (JQ.block_normal ?_)
              have hq0 : ¬ q = 0 := fun h => hs64 (by rw [h]; rfl)
              exact JQ.round5 (i := false) (i2 := i) (i3 := O) (i4 := b) (i5 := c) false j (O ++ [Tm.mk (ofI q) ((atT (stT (keepT ts)) i).exp)]) b68 c68 ⟨hjl, merge_yes (by omega) hO hst hq0, by simp; omega, fun h => by cases h⟩ (by omega) (sub_trans (sub_heap (.keep (fun _ _ h => by first | exact h | simpa using h) (.drop (.keep (fun _ _ h => h) .nil)))) (sub_cons (.tmp rfl) (sub_cons (.tmp rfl) (sub_cons (.eq (.tmp rfl) (by first | rfl | (congr 3; omega) | (congr 2; omega))) (sub_cons (.tmp rfl) (sub_nil))))))
            · try simp only [bsx] at hc4
              have hs64 := hc4
              refine JC.skip (JQ.block_normal ?_)
              have hq0 : q = 0 := by rcases sgn_cases q with h | h | h <;> omega
              exact JQ.round5 (i := false) (i2 := i) (i3 := O) (i4 := b) (i5 := c) false j O b c ⟨hjl, merge_no (by omega) hO hst hq0, by omega, fun h => by cases h⟩ (by omega) (sub_trans (sub_heap (.drop (.keep (fun _ _ h => h) (.keep (fun _ _ h => h) .nil)))) (sub_cons (.tmp rfl) (sub_cons (.tmp rfl) (sub_cons (.tmp rfl) (sub_cons (.tmp rfl) (sub_nil))))))
        · try simp only [bsx] at hc2
          have hs29 := hc2
          refine JC.exit (JQ.then_exit (JQ.then_exit (JQ.block_exit (JQ.then_normal (JC.seq ?_)))))
          refine JC.weak (sub_freeze0 (E := encTm) (xs := O) (n := O.length) (c := c) [6] ⟨rfl, trivial⟩ .here rfl (by omega)) ?_
          refine JC.region ?_
          refine J.m (.tmp rfl) rfl ?_
          refine J.o (ot_call fn61 (clip_c O (by omega)) (.cons (.tmp rfl) .nil)) rfl ?_
          refine J.a (.tmp rfl) rfl ?_
          refine J.nil (JQ.then_normal (JC.ret ?_))
          exact (JQ.retL1 rfl (.head _) (fun _ _ h => h) (.eq (.tmp rfl) (by rw [merge_end (by omega) hO mergeT_nil, normS_st]))).1
      · change JC _ _ _ [(2, tSl encTm ([])), (3, tSl encTm ((stT (keepT ts)))), (6, tIs (.slice none 0 0)), (7, tIs (.int .i64 (((i : Nat) : Int))))] [⟨pb, 63, cRow encTm (ts) (pq)⟩]
        obtain ⟨hi, hO, hOl, hOe⟩ := hinv
        refine JC.seq (JC.seq (JC.region ?_))
        refine J.m (.tmp rfl) rfl ?_
        refine J.m (.tmp rfl) rfl ?_
        refine J.o (ot_len (.tmp rfl) sl65 rfl) rfl ?_
        refine J.o (ot_lss (.tmp rfl) (.tmp rfl)) rfl ?_
        refine J.nil (JQ.then_normal ?_)
        refine JC.cond (.tmp rfl) (fun hc5 => ?_) (fun hc5 => ?_)
        · try simp only [bsx] at hc5
          have hs29 := hc5
          refine JC.skip (JQ.then_normal (JC.block (JC.seq (JC.region ?_))))
          refine J.m (.tmp rfl) rfl ?_
          refine J.m (.tmp rfl) rfl ?_
          refine J.o (ot_index (z := atT (stT (keepT ts)) i) (.tmp rfl) (.tmp rfl) sl65 (by omega) (atT_at (by omega) (by omega))) rfl ?_
          refine J.o (ot_fieldAddr (R' := cDrop (cEnc encTm (atT (stT (keepT ts)) i)) 2) (.tmp rfl) fd63_1 (fun _ _ h => cDrop_mk h)) rfl ?_
          refine J.o (ot_load_agg (.tmp rfl) ag61 (ldFV (g := moT) (y := (atT (stT (keepT ts)) i).exp) rfl rfl)) rfl ?_
          refine J.o (ot_eqt (T' := tV encTm (Tm.mk (Z.mk (false) ([])) ((atT (stT (keepT ts)) i).exp))) (ot_build (Ts := [tIs (.bool (false)), tSl encD ([]), tIs (.int .i64 (0)), tIs (.int .i64 (0)), tIs (.int .i64 (0)), tIs (.int .i64 (0))]) pl63 (fun _ => ⟨rfl, rfl, slP_nil _ _, rfl, rfl, rfl, rfl, rfl, rfl, rfl, rfl, rfl, trivial⟩) ((.agg (off := 2) rfl (.eq (.tmp rfl) (tV_F (Ts := [tIs (.int .i64 (((atT (stT (keepT ts)) i).exp).a)), tIs (.int .i64 (((atT (stT (keepT ts)) i).exp).b)), tIs (.int .i64 (((atT (stT (keepT ts)) i).exp).c)), tIs (.int .i64 (((atT (stT (keepT ts)) i).exp).d))]) rfl)) (Ts' := [tIs (.bool (false)), tSl encD ([]), tIs (.int .i64 (((atT (stT (keepT ts)) i).exp).a)), tIs (.int .i64 (((atT (stT (keepT ts)) i).exp).b)), tIs (.int .i64 (((atT (stT (keepT ts)) i).exp).c)), tIs (.int .i64 (((atT (stT (keepT ts)) i).exp).d))]) rfl rfl .nil)) rfl) (tV_F' rfl)) rfl ?_
          refine J.alloc (R := cTs [tIs (.bool (false)), tSl encD ([]), tIs (.int .i64 (0)), tIs (.int .i64 (0)), tIs (.int .i64 (0)), tIs (.int .i64 (0))]) zr63 (fun _ => ⟨rfl, rfl, slP_nil _ _, rfl, rfl, rfl, rfl, rfl, rfl, rfl, rfl, rfl, trivial⟩) (ltN rfl) fun b8 => ?_
          refine J.store (.tmp rfl) (.eq (.tmp rfl) (tV_F (Ts := [tIs (.bool (false)), tSl encD ([]), tIs (.int .i64 (((atT (stT (keepT ts)) i).exp).a)), tIs (.int .i64 (((atT (stT (keepT ts)) i).exp).b)), tIs (.int .i64 (((atT (stT (keepT ts)) i).exp).c)), tIs (.int .i64 (((atT (stT (keepT ts)) i).exp).d))]) rfl)) .here sz63 (st_agg (Ts' := [tIs (.bool (false)), tSl encD ([]), tIs (.int .i64 (((atT (stT (keepT ts)) i).exp).a)), tIs (.int .i64 (((atT (stT (keepT ts)) i).exp).b)), tIs (.int .i64 (((atT (stT (keepT ts)) i).exp).c)), tIs (.int .i64 (((atT (stT (keepT ts)) i).exp).d))]) (o := 0) rfl) ?_
          refine J.nil (JQ.then_normal (JC.seq (JC.block ?_)))
          refine JC.loop2 (α := Nat) (β := Int) (fun j q => [(2, tSl encTm ([])), (3, tSl encTm ((stT (keepT ts)))), (6, tIs (.slice none 0 0)), (7, tIs (.int .i64 (((j : Nat) : Int)))), (8, pOwn b8 (0)), (26, tIs (.int .i64 (((i : Nat) : Int)))), (27, tSl encTm ((stT (keepT ts)))), (28, tIs (.int .i64 ((((stT (keepT ts))).length : Int)))), (29, tIs (.bool (decide (((i : Nat) : Int) < (((stT (keepT ts))).length : Int))))), (30, tSl encTm ((stT (keepT ts)))), (31, tIs (.int .i64 (((i : Nat) : Int)))), (32, tPtr (cEnc encTm (atT (stT (keepT ts)) i))), (33, tPtr (cDrop (cEnc encTm (atT (stT (keepT ts)) i)) 2)), (34, tV encMo ((atT (stT (keepT ts)) i).exp)), (35, tV encTm (Tm.mk (Z.mk (false) ([])) ((atT (stT (keepT ts)) i).exp)))]) (fun j q => [⟨b8, 63, cTs [tIs (.bool ((ofI q).neg)), tSl encD ((ofI q).abs), tIs (.int .i64 (((atT (stT (keepT ts)) i).exp).a)), tIs (.int .i64 (((atT (stT (keepT ts)) i).exp).b)), tIs (.int .i64 (((atT (stT (keepT ts)) i).exp).c)), tIs (.int .i64 (((atT (stT (keepT ts)) i).exp).d))]⟩, ⟨pb, 63, cRow encTm (ts) (pq)⟩]) (fun j q => i ≤ j ∧ j ≤ (stT (keepT ts)).length ∧ sumRun (atT (stT (keepT ts)) i).exp q ((stT (keepT ts)).drop j) = sumRun (atT (stT (keepT ts)) i).exp 0 ((stT (keepT ts)).drop i) ∧ q.natAbs ≤ j * B32 ^ B) (fun j q => (stT (keepT ts)).length - j) i 0 ⟨by omega, by omega, rfl, by simp⟩ ?lsub3 ?round3
          case lsub3 => exact sub_trans (sub_heap (.keep (fun _ _ h => by rw [ofI_zero]; exact h) (.keep (fun _ _ h => h) .nil))) (sub_cons (.tmp rfl) (sub_cons (.tmp rfl) (sub_cons (.tmp rfl) (sub_cons (.tmp rfl) (sub_cons (.tmp rfl) (sub_cons (.tmp rfl) (sub_cons (.tmp rfl) (sub_cons (.tmp rfl) (sub_cons (.tmp rfl) (sub_cons (.tmp rfl) (sub_cons (.tmp rfl) (sub_cons (.tmp rfl) (sub_cons (.tmp rfl) (sub_cons (.tmp rfl) (sub_cons (.tmp rfl) (sub_nil))))))))))))))))
          intro j q hinv
          obtain ⟨hij, hjl, hrun, hq⟩ := hinv
          have hqf := sum_fit hq (by omega)
          have hqf2 : (ofI q).abs.length ≤ B + 1 := hqf
          refine JC.seq (JC.seq ?_)
          refine JC.draw (Γ' := ?g3) mo (by kernel_rfl) ?tw3 ?k3
          case tw3 =>
            refine TW.m (.tmp rfl) rfl ?_
            refine TW.m (.tmp rfl) rfl ?_
            refine TW.o (ot_len (.tmp rfl) sl65 rfl) rfl ?_
            refine TW.o (ot_lss (.tmp rfl) (.tmp rfl)) rfl ?_
            refine TW.m (.tmp rfl) rfl ?_
            refine TW.opg rfl rfl rfl (ltN rfl) (fun hg => ot_move (.tmp rfl)) rfl (ltN rfl) ?_
            refine TW.opg rfl rfl rfl (ltN rfl) (fun hg => ot_move (.tmp rfl)) rfl (ltN rfl) ?_
            refine TW.opg rfl rfl rfl (ltN rfl) (fun hg => (by have hg' := hg; (try simp only [bsx] at hg'); exact ot_index (z := atT (stT (keepT ts)) j) (.iff hg (.tmp rfl)) (.iff hg (.tmp rfl)) sl65 (by omega) (atT_at (by omega) (by omega)))) rfl (ltN rfl) ?_
            refine TW.opg rfl rfl rfl (ltN rfl) (fun hg => ot_fieldAddr (R' := cDrop (cEnc encTm (atT (stT (keepT ts)) j)) 2) (.iff hg (.tmp rfl)) fd63_1 (fun _ _ h => cDrop_mk h)) rfl (ltN rfl) ?_
            refine TW.opg rfl rfl rfl (ltN rfl) (fun hg => ot_load_agg (.iff hg (.tmp rfl)) ag61 (ldFV (g := moT) (y := (atT (stT (keepT ts)) j).exp) rfl rfl)) rfl (ltN rfl) ?_
            refine TW.opg rfl rfl rfl (ltN rfl) (fun hg => ot_fieldAddr_own (.tmp rfl) fd63_1) rfl (ltN rfl) ?_
            refine TW.opg rfl rfl rfl (ltN rfl) (fun hg => ot_load_own_agg (.iff hg (.tmp rfl)) (.head _) ag61 (cTs_ldV (g := moT) (y := ((atT (stT (keepT ts)) i).exp)) rfl rfl)) rfl (ltN rfl) ?_
            refine TW.opg rfl rfl rfl (ltN rfl) (fun hg => ot_eqA (.iff hg (.tmp rfl)) (.iff hg (.tmp rfl)) ar4_61) rfl (ltN rfl) ?_
            refine TW.o (ot_and2 (.tmp rfl) (.tmp rfl) .is) rfl ?_
            exact TW.nil
          refine JQ.then_normal ?_
          refine JC.cond (.tmp rfl) (fun hc6 => ?_) (fun hc6 => ?_)
          · try simp only [bsx] at hc6
            have hs49 := hc6
            have hmj : atT (stT (keepT ts)) j ∈ ts := hm _ (atT_mem (by omega))
            have hzj := hz _ hmj
            refine JC.skip (JQ.then_normal (JC.block (JC.seq ?_)))
            refine JC.drawAt (Γ' := ?g4) 9 mo (by kernel_rfl) ?tw4 ?k4
            case tw4 =>
              refine TW.o (ot_fieldAddr_own (.tmp rfl) fd63_0) rfl ?_
              refine TW.o (ot_load_own_agg (.tmp rfl) (.head _) ag25 (cTs_ldV (g := zT) (y := (ofI q)) rfl rfl)) rfl ?_
              refine TW.m (.tmp rfl) rfl ?_
              refine TW.m (.tmp rfl) rfl ?_
              refine TW.o (ot_index (z := atT (stT (keepT ts)) j) (.tmp rfl) (.tmp rfl) sl65 (by omega) (atT_at (by omega) (by omega))) rfl ?_
              refine TW.o (ot_fieldAddr (.tmp rfl) fd63_0 (fun _ _ h => h)) rfl ?_
              refine TW.o (ot_load_agg (.tmp rfl) ag25 (ldFV0 (g := zT) (y := (atT (stT (keepT ts)) j).coef) rfl rfl)) rfl ?_
              refine TW.o (ot_eqt (T' := tV encI (ofI (q + zval (atT (stT (keepT ts)) j).coef))) (ot_call fn48 (intAdd_c (ofI q) ((atT (stT (keepT ts)) j).coef) (by omega) (by omega)) (.cons (.tmp rfl) (.cons (.tmp rfl) .nil))) (by rw [zval_ofI])) rfl ?_
              refine TW.o (ot_fieldAddr_own (.tmp rfl) fd63_0) rfl ?_
              exact TW.nil
            refine J.store (.tmp rfl) (.eq (.tmp rfl) (tV_F (Ts := [tIs (.bool ((ofI (q + zval (atT (stT (keepT ts)) j).coef)).neg)), tSl encD ((ofI (q + zval (atT (stT (keepT ts)) j).coef)).abs)]) rfl)) .here sz25 (st_agg (Ts' := [tIs (.bool ((ofI (q + zval (atT (stT (keepT ts)) j).coef)).neg)), tSl encD ((ofI (q + zval (atT (stT (keepT ts)) j).coef)).abs), tIs (.int .i64 (((atT (stT (keepT ts)) i).exp).a)), tIs (.int .i64 (((atT (stT (keepT ts)) i).exp).b)), tIs (.int .i64 (((atT (stT (keepT ts)) i).exp).c)), tIs (.int .i64 (((atT (stT (keepT ts)) i).exp).d))]) (o := 0) rfl) ?_
            refine J.nil (JQ.then_normal (JC.region ?_))
            refine J.m (.tmp rfl) rfl ?_
            refine J.o (ot_add (.tmp rfl) .is (w64 (by omega) (by omega))) rfl ?_
            refine J.a (.tmp rfl) rfl ?_
            refine J.nil (JQ.block_normal ?_)
            exact JQ.round2 (i := j) (i2 := q) (j + 1) (q + zval (atT (stT (keepT ts)) j).coef) ⟨by omega, by omega, by rw [← hrun]; exact sumRun_step (by omega) hs49.2, sum_next hq (hd _ hmj) (hz _ hmj)⟩ (by omega) (sub_trans (sub_heap (.keep (fun _ _ h => h) (.keep (fun _ _ h => h) .nil))) (sub_cons (.tmp rfl) (sub_cons (.tmp rfl) (sub_cons (.tmp rfl) (sub_cons (.eq (.tmp rfl) (by first | rfl | (congr 3; omega) | (congr 2; omega))) (sub_cons (.tmp rfl) (sub_cons (.tmp rfl) (sub_cons (.tmp rfl) (sub_cons (.tmp rfl) (sub_cons (.tmp rfl) (sub_cons (.tmp rfl) (sub_cons (.tmp rfl) (sub_cons (.tmp rfl) (sub_cons (.tmp rfl) (sub_cons (.tmp rfl) (sub_cons (.tmp rfl) (sub_nil)))))))))))))))))
          · try simp only [bsx] at hc6
            have hs49 := hc6
            have hst := sumRun_stop (c := q) (show ¬ j < (stT (keepT ts)).length ∨ ¬ (atT (stT (keepT ts)) j).exp = (atT (stT (keepT ts)) i).exp from hs49.imp (fun h => by omega) id)
            rw [hrun] at hst
            have hlt : i < j := by rcases Nat.lt_or_eq_of_le hij with h | h; exact h; subst h; rcases hs49 with q | q; omega; exact absurd rfl q
            refine JC.exit (JQ.then_exit (JQ.then_exit (JQ.block_exit (JQ.then_normal (JC.seq (JC.region ?_))))))
            refine J.o (ot_fieldAddr_own (.tmp rfl) fd63_0) rfl ?_
            refine J.o (ot_load_own_agg (.tmp rfl) (.head _) ag25 (cTs_ldV (g := zT) (y := (ofI q)) rfl rfl)) rfl ?_
            refine J.o (ot_eqt (T' := tIs (.int .i64 (sgn q))) (ot_call fn25 (intSign_c (ofI q) (by omega)) (.cons (.tmp rfl) .nil)) (by rw [zval_ofI])) rfl ?_
            refine J.o (ot_neq (.tmp rfl) .is) rfl ?_
            refine J.nil (JQ.then_normal ?_)
            refine JC.cond (.tmp rfl) (fun hc7 => ?_) (fun hc7 => ?_)
            · try simp only [bsx] at hc7
              have hs64 := hc7
              refine JC.region ?_
              refine J.m (.tmp rfl) rfl ?_
              refine J.o (ot_load_own_agg (.tmp rfl) (.head _) ag63 (cTs_ldV (g := tmT) (y := (Tm.mk (ofI q) ((atT (stT (keepT ts)) i).exp))) rfl rfl)) rfl ?_
              refine J.o (ot_buildSlice (E := encTm) (zs := [Tm.mk (ofI q) ((atT (stT (keepT ts)) i).exp)]) sl65 (.cons (.tmp rfl) .nil) rfl zr63 rfl (by decide) (by decide)) rfl ?_
              refine J.append0 (E := encTm) (ys := [Tm.mk (ofI q) ((atT (stT (keepT ts)) i).exp)]) (.sub (.tmp rfl) nil_z) (.tmp rfl) (by simp) sl65 rfl zr63 rfl (by simp <;> omega) (by simp <;> omega) (ltN rfl) fun b68 c68 => ?_
              refine J.a (.tmp rfl) rfl ?_
              refine J.nil (JQ.block_normal ?_)
              have hq0 : ¬ q = 0 := fun h => hs64 (by rw [h]; rfl)
              have hO0 := hOe rfl
              exact JQ.round5 (i := true) (i2 := i) (i3 := O) (i4 := b) (i5 := c) false j (O ++ [Tm.mk (ofI q) ((atT (stT (keepT ts)) i).exp)]) b68 c68 ⟨hjl, merge_yes (by omega) hO hst hq0, by simp; omega, fun h => by cases h⟩ (by omega) (sub_trans (sub_heap (.keep (cRow_eq (by rw [hO0]; rfl)) (.drop (.keep (fun _ _ h => h) .nil)))) (sub_cons (.tmp rfl) (sub_cons (.tmp rfl) (sub_cons (.eq (.tmp rfl) (by rw [hO0]; rfl)) (sub_cons (.tmp rfl) (sub_nil))))))
            · try simp only [bsx] at hc7
              have hs64 := hc7
              refine JC.skip (JQ.block_normal ?_)
              have hq0 : q = 0 := by rcases sgn_cases q with h | h | h <;> omega
              exact JQ.round5 (i := true) (i2 := i) (i3 := O) (i4 := b) (i5 := c) true j O 0 0 ⟨hjl, merge_no (by omega) hO hst hq0, by omega, fun _ => hOe rfl⟩ (by omega) (sub_trans (sub_heap (.drop (.keep (fun _ _ h => h) .nil))) (sub_cons (.tmp rfl) (sub_cons (.tmp rfl) (sub_cons (.tmp rfl) (sub_cons (.tmp rfl) (sub_nil))))))
        · try simp only [bsx] at hc5
          have hs29 := hc5
          refine JC.exit (JQ.then_exit (JQ.then_exit (JQ.block_exit (JQ.then_normal (JC.seq (JC.region ?_))))))
          refine J.m (.tmp rfl) rfl ?_
          refine J.o (ot_call fn61 (clip_c ([]) (by simp)) (.cons (.sub (.tmp rfl) nil_sl) .nil)) rfl ?_
          refine J.a (.tmp rfl) rfl ?_
          refine J.nil (JQ.then_normal (JC.ret ?_))
          exact (JQ.retL1 rfl (.head _) (fun _ _ h => h) (.eq (.tmp rfl) (by rw [← normS_st, ← merge_end (by omega) hO mergeT_nil, hOe rfl]))).1
  · change JC _ _ _ [(2, tSl encTm ([])), (3, tIs (.slice none 0 0)), (9, sIs pb 0 (ts.length) (pc)), (10, tIs (.int .i64 (((ts.length : Nat) : Int)))), (11, tIs (.int .i64 (((k : Nat) : Int))))] [⟨pb, 63, cRow encTm (ts) (pq)⟩]
    obtain ⟨hk, he⟩ := hinv
    have hkk := keepT_len (ts.take k)
    rw [List.length_take] at hkk
    refine JC.seq (JC.region ?_)
    refine J.o (ot_lss (.tmp rfl) (.tmp rfl)) rfl ?_
    refine J.nil (JQ.then_normal (JC.seq ?_))
    refine JC.cond (.tmp rfl) (fun hc8 => ?_) (fun hc8 => ?_)
    · try simp only [bsx] at hc8
      have hs12 := hc8
      refine JC.skip (JQ.then_normal (JC.seq (JC.block (JC.seq (JC.region ?_)))))
      refine J.o (ot_eqt (T' := pOwn pb (0 + k * 6)) (ot_index_own (.tmp rfl) (.tmp rfl) sl65 (by omega) (by omega)) (own_off2 (by omega))) rfl ?_
      refine J.o (ot_load_own_agg (.tmp rfl) (.head _) ag63 (row_agg rfl (atT_some (by omega)))) rfl ?_
      refine J.alloc (R := cTs [tIs (.bool (false)), tSl encD ([]), tIs (.int .i64 (0)), tIs (.int .i64 (0)), tIs (.int .i64 (0)), tIs (.int .i64 (0))]) zr63 (fun _ => ⟨rfl, rfl, slP_nil _ _, rfl, rfl, rfl, rfl, rfl, rfl, rfl, rfl, rfl, trivial⟩) (ltN rfl) fun b5 => ?_
      refine J.store (.tmp rfl) (.eq (.tmp rfl) (tV_F (Ts := [tIs (.bool (((atT ts k).coef).neg)), tSl encD (((atT ts k).coef).abs), tIs (.int .i64 (((atT ts k).exp).a)), tIs (.int .i64 (((atT ts k).exp).b)), tIs (.int .i64 (((atT ts k).exp).c)), tIs (.int .i64 (((atT ts k).exp).d))]) rfl)) .here sz63 (st_agg (Ts' := [tIs (.bool (((atT ts k).coef).neg)), tSl encD (((atT ts k).coef).abs), tIs (.int .i64 (((atT ts k).exp).a)), tIs (.int .i64 (((atT ts k).exp).b)), tIs (.int .i64 (((atT ts k).exp).c)), tIs (.int .i64 (((atT ts k).exp).d))]) (o := 0) rfl) ?_
      refine J.nil (JQ.then_normal (JC.seq ?_))
      refine JC.weak (sub_freezeP (R' := cEnc encTm (atT ts k)) [5] ⟨rfl, trivial⟩ .here (cTs_F (f := tmT) (x := atT ts k) rfl rfl)) ?_
      refine JC.region ?_
      refine J.o (ot_fieldAddr (R' := cDrop (cEnc encTm (atT ts k)) 2) (.tmp rfl) fd63_1 (fun _ _ h => cDrop_mk h)) rfl ?_
      refine J.o (ot_sliceA (.tmp rfl) ar4_61 tm_exp) rfl ?_
      refine J.o (ot_call fn57 (min_c ((atT ts k).exp.list) (by simp [Mo.list])) (.cons (.tmp rfl) .nil)) rfl ?_
      refine J.o (ot_geq (.tmp rfl) .is) rfl ?_
      refine J.nil (JQ.then_normal ?_)
      refine JC.cond (.tmp rfl) (fun hc9 => ?_) (fun hc9 => ?_)
      · try simp only [bsx] at hc9
        have hs18 := hc9
        refine JC.region ?_
        refine J.m (.tmp rfl) rfl ?_
        refine J.o (ot_load_agg (.tmp rfl) ag63 ldp_whole) rfl ?_
        refine J.o (ot_buildSlice (E := encTm) (zs := [atT ts k]) sl65 (.cons (.tmp rfl) .nil) rfl zr63 rfl (by decide) (by decide)) rfl ?_
        refine J.append0 (E := encTm) (ys := [atT ts k]) (.sub (.tmp rfl) nil_z) (.tmp rfl) (by simp) sl65 rfl zr63 rfl (by simp <;> omega) (by simp <;> omega) (ltN rfl) fun b22 c22 => ?_
        refine J.a (.tmp rfl) rfl ?_
        refine J.nil (JQ.block_normal (JQ.then_normal (JC.region ?_)))
        refine J.o (ot_add (.tmp rfl) .is (w64 (by omega) (by omega))) rfl ?_
        refine J.m (.tmp rfl) rfl ?_
        refine J.nil ?_
        have hyes := keepT_yes (show k < ts.length by omega) (okT_iff.2 hs18)
        rw [he rfl, List.nil_append] at hyes
        exact JQ.round4 (i := true) (i2 := k) (i3 := b) (i4 := c) false (k + 1) b22 c22 ⟨by omega, fun h => by cases h⟩ (by omega) (sub_trans (sub_heap (.keep (cRow_eq hyes) (.keep (fun _ _ h => h) .nil))) (sub_cons (.tmp rfl) (sub_cons (.eq (.tmp rfl) (by rw [hyes])) (sub_cons (.tmp rfl) (sub_cons (.tmp rfl) (sub_cons (.eq (.tmp rfl) (by first | rfl | (congr 3; omega) | (congr 2; omega))) (sub_nil)))))))
      · try simp only [bsx] at hc9
        have hs18 := hc9
        refine JC.skip (JQ.block_normal (JQ.then_normal (JC.region ?_)))
        refine J.o (ot_add (.tmp rfl) .is (w64 (by omega) (by omega))) rfl ?_
        refine J.m (.tmp rfl) rfl ?_
        refine J.nil ?_
        have hno := keepT_no (show k < ts.length by omega) (fun h => hs18 (okT_iff.1 h))
        exact JQ.round4 (i := true) (i2 := k) (i3 := b) (i4 := c) true (k + 1) 0 0 ⟨by omega, fun _ => hno ▸ he rfl⟩ (by omega) (sub_trans (sub_heap (.keep (fun _ _ h => h) .nil)) (sub_cons (.tmp rfl) (sub_cons (.tmp rfl) (sub_cons (.tmp rfl) (sub_cons (.tmp rfl) (sub_cons (.eq (.tmp rfl) (by first | rfl | (congr 3; omega) | (congr 2; omega))) (sub_nil)))))))
    · try simp only [bsx] at hc8
      have hs12 := hc8
      have hkt : keepT (ts.take k) = keepT ts := by rw [List.take_of_length_le (by omega)]
      refine JC.exit (JQ.then_exit (JQ.then_exit (JQ.block_exit (JQ.then_normal (JC.seq (JC.region ?_))))))
      refine J.m (.tmp rfl) rfl ?_
      refine J.o (ot_call fn58 (sort0_c  ) (.cons (.tmp rfl) (.cons (.func (fun _ => rfl)) .nil))) rfl ?_
      refine J.nil (JQ.then_normal (JC.seq (JC.region ?_)))
      refine J.a .is rfl ?_
      refine J.nil (JQ.then_normal (JC.seq (JC.seq (JC.region ?_))))
      refine J.a .is rfl ?_
      refine J.nil (JQ.then_normal (JC.block ?_))
      refine JC.loop (ι := Nat) (fun i => [(2, tSl encTm ([])), (3, tIs (.slice none 0 0)), (6, tIs (.slice none 0 0)), (7, tIs (.int .i64 (0)))]) (fun i => [⟨pb, 63, cRow encTm (ts) (pq)⟩]) (fun i => i = 0) (fun i => i) 0 (by omega) ?lsub4 ?round4
      case lsub4 => exact sub_trans (sub_heap (.keep (fun _ _ h => h) .nil)) (sub_cons (.tmp rfl) (sub_cons (.tmp rfl) (sub_cons (.tmp rfl) (sub_cons (.tmp rfl) (sub_nil)))))
      intro i hinv
      refine JC.seq (JC.seq (JC.region ?_))
      refine J.m (.tmp rfl) rfl ?_
      refine J.m (.tmp rfl) rfl ?_
      refine J.o (ot_len_nil (.tmp rfl) sl65 rfl) rfl ?_
      refine J.o (ot_lss (.tmp rfl) (.tmp rfl)) rfl ?_
      refine J.nil (JQ.then_normal ?_)
      refine JC.cond_false (.eq (.tmp rfl) (by rfl)) ?_
      refine JC.exit (JQ.then_exit (JQ.then_exit (JQ.block_exit (JQ.then_normal (JC.seq (JC.region ?_))))))
      refine J.m (.tmp rfl) rfl ?_
      refine J.o (ot_call fn61 (clip_c ([]) (by simp)) (.cons (.sub (.tmp rfl) nil_sl) .nil)) rfl ?_
      refine J.a (.tmp rfl) rfl ?_
      refine J.nil (JQ.then_normal (JC.ret ?_))
      exact (JQ.retL1 rfl (.head _) (fun _ _ h => h) (.eq (.tmp rfl) (by rw [← normS_st, ← hkt, he rfl]; exact congrArg _ mergeT_nil.symm))).1

theorem sptermsLG_c {B : Nat} (pb pc pq : Nat) (ts : List Tm) (hl : ts.length ≤ 4294967295) (hd : ∀ t ∈ ts, Digs t.coef.abs) (hz : ∀ t ∈ ts, t.coef.abs.length ≤ B) (hb : B ≤ 1000000000000) : CtrL Try.prog 51 [sIs pb 0 (ts.length) (pc)] pb 63 (cRow encTm (ts) (pq)) (cRow encTm (ts) (pq)) (tClo 69 [tPtr (cTs [tSl encTm (normS ts)])]) := by
  refine CtrL.of Try.func51 rfl Try.ntmps51 (Nat.le_of_ble_eq_true rfl) fun w0 M0 => ?_
  refine JC.seq (JC.region ?_)
  refine J.a .is rfl ?_
  refine J.nil (JQ.then_normal (JC.seq (JC.region ?_)))
  refine J.m (.tmp rfl) rfl ?_
  refine J.callL (R' := cRow encTm (ts) (pq)) (Us := []) (cap := []) fn39 (.func (fun _ => rfl)) (normLG_c pb pc pq ts hl hd hz hb) (.cons (.tmp rfl) .nil) (fun _ => trivial) .here (ltN rfl) ?_
  refine J.alloc (R := cTs [tSl encTm ([])]) zr65 (fun _ => ⟨slP_nil _ _, rfl, trivial⟩) (ltN rfl) fun b3 => ?_
  refine J.store (.tmp rfl) (.tmp rfl) .here sz65 (st_cell (o := 0) (one_sl) rfl) ?_
  refine J.nil (JQ.then_normal (JC.seq ?_))
  refine JC.weak (sub_freezeP (R' := cTs [tSl encTm (normS ts)]) [3] ⟨rfl, trivial⟩ .here (fun _ _ h => h)) ?_
  refine JC.region ?_
  refine J.o (ot_clo (.cons (.tmp rfl) .nil)) rfl ?_
  refine J.a (.tmp rfl) rfl ?_
  refine J.nil (JQ.then_normal (JC.ret ?_))
  exact (JQ.retL1 rfl (.head _) (fun _ _ h => h) (.tmp rfl)).1

theorem contN_c {B : Nat} (pb pc pq : Nat) (ts : List Tm) (hl : ts.length ≤ 4294967295) (hd : ∀ t ∈ ts, Digs t.coef.abs) (hz : ∀ t ∈ ts, t.coef.abs.length ≤ B) (hb : B ≤ 1000000000000) (hz2 : ∀ t ∈ normS ts, t.coef.abs.length ≤ 100000000000) : CtrL Try.prog 52 [sIs pb 0 (ts.length) (pc)] pb 63 (cRow encTm (ts) (pq)) (cRow encTm (ts) (pq)) (tV encI (ofI (contS ts))) := by
  have hnl : (normS ts).length ≤ 4294967296 := Nat.le_trans (normS_len ts) (by omega)
  refine CtrL.ofM Try.func52 rfl Try.ntmps52 (Nat.le_of_ble_eq_true rfl) fun w0 M0 => ?_
  refine JC.seq (JC.region ?_)
  refine J.alloc (R := cTs [tIs (.bool (false)), tSl encD ([])]) zr25 (fun _ => ⟨rfl, rfl, slP_nil _ _, rfl, trivial⟩) (ltN rfl) fun b2 => ?_
  refine J.nil (JQ.then_normal (JC.seq (JC.region ?_)))
  refine J.o (ot_call fn28 (intOf_c 0 (by omega)) (.cons .is .nil)) rfl ?_
  refine J.alloc (R := cTs [tIs (.bool (false)), tSl encD ([])]) zr25 (fun _ => ⟨rfl, rfl, slP_nil _ _, rfl, trivial⟩) (ltN rfl) fun b3 => ?_
  refine J.store (.tmp rfl) (.eq (.tmp rfl) (tV_F (Ts := [tIs (.bool ((ofI 0).neg)), tSl encD ((ofI 0).abs)]) rfl)) .here sz25 (st_agg (Ts' := [tIs (.bool ((ofI 0).neg)), tSl encD ((ofI 0).abs)]) (o := 0) rfl) ?_
  refine J.nil (JQ.then_normal (JC.seq (JC.seq (JC.region ?_))))
  refine J.m (.tmp rfl) rfl ?_
  refine J.callL (R' := cRow encTm (ts) (pq)) (Us := []) (cap := []) fn51 (.func (fun _ => rfl)) (sptermsLG_c pb pc pq ts hl hd hz hb) (.cons (.tmp rfl) .nil) (fun _ => trivial) (.there (.there .here)) (ltN rfl) ?_
  refine J.nil (JQ.then_normal (JC.block ?_))
  refine JC.rangeFunc (ps := [9, 10]) (f := 69) (Us := [tPtr (cTs [tSl encTm (normS ts)])]) (n := (normS ts).length) (Ts := fun k => [tV encMo ((atT (normS ts) k).exp), tV encI (ofI (zval (atT (normS ts) k).coef))]) (Γ0 := [(2, pOwn b2 (0)), (3, pOwn b3 (0)), (8, tClo 69 [tPtr (cTs [tSl encTm (normS ts)])])]) (fun k => [⟨b3, 25, cTs [tIs (.bool ((ofI (gcdT ((normS ts).take k))).neg)), tSl encD ((ofI (gcdT ((normS ts).take k))).abs)]⟩, ⟨b2, 25, cTs [tIs (.bool (false)), tSl encD ([])]⟩, ⟨pb, 63, cRow encTm (ts) (pq)⟩]) (.tmp rfl) fn69 (termsY (normS ts) hnl (fun t h => Nat.le_trans (hz2 t h) (by omega))) rfl ?rs0 (fun _ => rfl) rfl (fun _ => rfl) ?rr0 ?rd0
  case rs0 => exact sub_trans (sub_heap (.keep (fun _ _ h => by first | exact h | simpa using h) (.keep (fun _ _ h => h) (.keep (fun _ _ h => h) .nil)))) (sub_cons (.tmp rfl) (sub_cons (.tmp rfl) (sub_cons (.tmp rfl) (sub_nil))))
  case rr0 =>
    intro k hk l w0 M0 L Q1 hend1
    have hgl := gcdT_lenB normS_ofI hz2 (k := k) (by omega)
    have hmk := coefB (normS_ofI (atT_mem hk)) (hz2 _ (atT_mem hk))
    refine JCR.weak (Γ' := [(10, tV encI (ofI (zval (atT (normS ts) k).coef))), (9, tV encMo ((atT (normS ts) k).exp)), (2, pOwn b2 (0)), (3, pOwn b3 (0)), (8, tClo 69 [tPtr (cTs [tSl encTm (normS ts)])])]) (H' := [⟨b3, 25, cTs [tIs (.bool ((ofI (gcdT ((normS ts).take k))).neg)), tSl encD ((ofI (gcdT ((normS ts).take k))).abs)]⟩, ⟨b2, 25, cTs [tIs (.bool (false)), tSl encD ([])]⟩, ⟨pb, 63, cRow encTm (ts) (pq)⟩]) (fun _ _ h => h) ?_
    refine JCR.region ?_
    refine J.alloc (R := cTs [tIs (.bool (false)), tSl encD ([])]) zr25 (fun _ => ⟨rfl, rfl, slP_nil _ _, rfl, trivial⟩) (ltN rfl) fun b5 => ?_
    refine J.store (.tmp rfl) (.eq (.tmp rfl) (tV_F (Ts := [tIs (.bool ((ofI (zval (atT (normS ts) k).coef)).neg)), tSl encD ((ofI (zval (atT (normS ts) k).coef)).abs)]) rfl)) .here sz25 (st_agg (Ts' := [tIs (.bool ((ofI (zval (atT (normS ts) k).coef)).neg)), tSl encD ((ofI (zval (atT (normS ts) k).coef)).abs)]) (o := 0) rfl) ?_
    refine J.nil ?_
    refine hend1 _ _ fun w1 M1 L1 Q2 hend2 => ?_
    refine JCR.block (JCR.region ?_)
    refine J.o (ot_load_own_agg (.tmp rfl) (.tail _ (.head _)) ag25 (cTs_ldV (g := zT) (y := (ofI (gcdT ((normS ts).take k)))) rfl rfl)) rfl ?_
    refine J.o (ot_load_own_agg (.tmp rfl) (.head _) ag25 (cTs_ldV (g := zT) (y := (ofI (zval (atT (normS ts) k).coef))) rfl rfl)) rfl ?_
    refine J.o (ot_eqt (T' := tV encI (ofI (Int.gcd (gcdT ((normS ts).take k)) (zval (atT (normS ts) k).coef)))) (ot_call fn70 (dgcdG_c (ofI (gcdT ((normS ts).take k))) (ofI (zval (atT (normS ts) k).coef)) (Nat.le_trans hgl (by omega)) (Nat.le_trans hmk (by omega))) (.cons (.tmp rfl) (.cons (.tmp rfl) .nil))) (by rw [zval_ofI, zval_ofI])) rfl ?_
    refine J.store (.tmp rfl) (.eq (.tmp rfl) (tV_F (Ts := [tIs (.bool ((ofI (Int.gcd (gcdT ((normS ts).take k)) (zval (atT (normS ts) k).coef))).neg)), tSl encD ((ofI (Int.gcd (gcdT ((normS ts).take k)) (zval (atT (normS ts) k).coef))).abs)]) rfl)) (.there .here) sz25 (st_agg (Ts' := [tIs (.bool ((ofI (Int.gcd (gcdT ((normS ts).take k)) (zval (atT (normS ts) k).coef))).neg)), tSl encD ((ofI (Int.gcd (gcdT ((normS ts).take k)) (zval (atT (normS ts) k).coef))).abs)]) (o := 0) rfl) ?_
    refine J.nil (JQ.block_normal ?_)
    exact JQ.weak (sub_trans (sub_heap (.drop (.keep (fun _ _ h => by rw [← gcdT_step hk]; exact h) (.keep (fun _ _ h => h) (.keep (fun _ _ h => h) .nil))))) (sub_nil)) hend2
  case rd0 =>
    intro D w1 M1 L1 hrb
    refine JQ.block_normal (JQ.then_normal (JC.seq (JC.region ?_)))
    refine J.o (ot_load_own_agg (.tmp rfl) (.head _) ag25 (cTs_ldV (g := zT) (y := (ofI (gcdT ((normS ts).take ((normS ts).length))))) rfl rfl)) rfl ?_
    refine J.store (.tmp rfl) (.eq (.tmp rfl) (tV_F (Ts := [tIs (.bool ((ofI (gcdT ((normS ts).take ((normS ts).length)))).neg)), tSl encD ((ofI (gcdT ((normS ts).take ((normS ts).length)))).abs)]) rfl)) (.there .here) sz25 (st_agg (Ts' := [tIs (.bool ((ofI (gcdT ((normS ts).take ((normS ts).length)))).neg)), tSl encD ((ofI (gcdT ((normS ts).take ((normS ts).length)))).abs)]) (o := 0) rfl) ?_
    refine J.nil (JQ.then_normal (JC.ret ?_))
    exact JQ.retML1_ret hrb rfl (.tail _ (.tail _ (.head _))) (fun _ _ h => h) (.agg (.tmp rfl) (.tail _ (.head _)) ag25 (agg_eq (T := tV encI (ofI (gcdT ((normS ts).take ((normS ts).length))))) (T' := tV encI (ofI (contS ts))) (by rw [contS, List.take_length]) (cTs_ldV (g := zT) (y := (ofI (gcdT ((normS ts).take ((normS ts).length))))) rfl rfl)))

theorem signN_c {B : Nat} (ts : List Tm) (hl : ts.length ≤ 4294967295) (hd : ∀ t ∈ ts, Digs t.coef.abs) (hz : ∀ t ∈ ts, t.coef.abs.length ≤ B) (hb : B ≤ 90000000000) (hne : normS ts ≠ []) : Ctr Try.prog 34 [tSl encTm (ts)] (tSl encTm (sgnT (normS ts))) := by
  obtain ⟨hl2, hd2, hz1, hz2, hz3, hc, hdv⟩ := sgnF hl hd hz hne
  have hlp : 0 < (normS ts).length := by rcases Nat.eq_zero_or_pos (normS ts).length with h | h; exact absurd (List.eq_nil_of_length_eq_zero h) hne; exact h
  have hcB : (ofI (contS (normS ts))).abs.length ≤ 100000000000 := Nat.le_trans (contB (ts := normS ts) hz3) (by omega)
  have hcl : (ofI (contS (normS ts))).abs.length ≤ 1099511627776 := Nat.le_trans hcB (by omega)
  refine Ctr.of Try.func34 rfl Try.ntmps34 (Nat.le_of_ble_eq_true rfl) fun w0 M0 => ?_
  refine JC.seq (JC.region ?_)
  refine J.o (ot_assign (.nil (E := encTm))) rfl ?_
  refine J.nil (JQ.then_normal (JC.seq (JC.region ?_)))
  refine J.m (.tmp rfl) rfl ?_
  refine J.callO (R := fun cap => cRow encTm (normS ts) (cap)) fn39 (normOG_c ts hl hd hz1 (by omega) hne) (.cons (.tmp rfl) .nil) (ltN rfl) fun b7 cap7 => ?_
  refine J.a (.tmp rfl) rfl ?_
  refine J.nil (JQ.then_normal (JC.seq (JC.seq (JC.region ?_))))
  refine J.m (.tmp rfl) rfl ?_
  refine J.o (ot_len_own (.tmp rfl) sl65 rfl) rfl ?_
  refine J.o (ot_eql (.tmp rfl) .is) rfl ?_
  refine J.nil (JQ.then_normal ?_)
  refine JC.cond_false (.eq (.tmp rfl) (by rw [decide_eq_false (by omega)])) ?_
  refine JC.skip (JQ.then_normal (JC.seq (JC.region ?_)))
  refine J.m (.tmp rfl) rfl ?_
  refine J.callL (R' := cRow encTm (normS ts) (cap7)) (Us := []) (cap := []) fn52 (.func (fun _ => rfl)) (contN_c b7 (normS ts).length cap7 (normS ts) hl2 hd2 hz2 (by omega) (fun t h => Nat.le_trans (hz3 t h) (by omega))) (.cons (.tmp rfl) .nil) (fun _ => trivial) .here (ltN rfl) ?_
  refine J.alloc (R := cTs [tIs (.bool (false)), tSl encD ([])]) zr25 (fun _ => ⟨rfl, rfl, slP_nil _ _, rfl, trivial⟩) (ltN rfl) fun b4 => ?_
  refine J.store (.tmp rfl) (.eq (.tmp rfl) (tV_F (Ts := [tIs (.bool ((ofI (contS (normS ts))).neg)), tSl encD ((ofI (contS (normS ts))).abs)]) rfl)) .here sz25 (st_agg (Ts' := [tIs (.bool ((ofI (contS (normS ts))).neg)), tSl encD ((ofI (contS (normS ts))).abs)]) (o := 0) rfl) ?_
  refine J.nil (JQ.then_normal ?_)
  refine JC.join1 (α := Int) (fun g => [(2, tSl encTm ([])), (3, sIs b7 0 ((normS ts).length) ((normS ts).length)), (4, pOwn b4 (0))]) (fun g => [⟨b4, 25, cTs [tIs (.bool ((ofI g).neg)), tSl encD ((ofI g).abs)]⟩, ⟨b7, 63, cRow encTm (normS ts) (cap7)⟩]) (fun g => g = signO ts) ?way1 ?on1
  case way1 =>
    refine JC.seq (JC.region ?_)
    refine J.m (.tmp rfl) rfl ?_
    refine J.o (ot_eqt (T' := pOwn b7 (0 + 0 * 6)) (ot_index_own (.tmp rfl) .is sl65 (by omega) (by omega)) (own_off2 (by omega))) rfl ?_
    refine J.o (ot_fieldAddr_own (.tmp rfl) fd63_0) rfl ?_
    refine J.o (ot_load_own_agg (.tmp rfl) (.tail _ (.head _)) ag25 (row_aggF (n := 6) (m := 2) (off := 0) (g := zT) (y := (atT (normS ts) 0).coef) (atT_some (by omega)) rfl rfl)) rfl ?_
    refine J.o (ot_call fn25 (intSign_c ((atT (normS ts) 0).coef) (Nat.le_trans (hz2 _ (atT_mem (by omega))) (by omega))) (.cons (.tmp rfl) .nil)) rfl ?_
    refine J.o (ot_lss (.tmp rfl) .is) rfl ?_
    refine J.nil (JQ.then_normal ?_)
    refine JC.cond (.tmp rfl) (fun hc1 => ?_) (fun hc1 => ?_)
    · try simp only [bsx] at hc1
      have hs18 := hc1
      refine JC.region ?_
      refine J.o (ot_load_own_agg (.tmp rfl) (.head _) ag25 (cTs_ldV (g := zT) (y := (ofI (contS (normS ts)))) rfl rfl)) rfl ?_
      refine J.o (ot_eqt (T' := tV encI (ofI (- contS (normS ts)))) (ot_call fn53 (intNeg_c (ofI (contS (normS ts))) hcl) (.cons (.tmp rfl) .nil)) (by rw [zval_ofI])) rfl ?_
      refine J.store (.tmp rfl) (.eq (.tmp rfl) (tV_F (Ts := [tIs (.bool ((ofI (- contS (normS ts))).neg)), tSl encD ((ofI (- contS (normS ts))).abs)]) rfl)) .here sz25 (st_agg (Ts' := [tIs (.bool ((ofI (- contS (normS ts))).neg)), tSl encD ((ofI (- contS (normS ts))).abs)]) (o := 0) rfl) ?_
      refine J.nil ?_
      exact JQ.join1 (- contS (normS ts)) (by rw [signO, if_pos (by rcases sgn_cases (zval (atT (normS ts) 0).coef) with h | h | h <;> omega)]) (sub_trans (sub_heap (.keep (fun _ _ h => h) (.keep (fun _ _ h => h) .nil))) (sub_cons (.tmp rfl) (sub_cons (.tmp rfl) (sub_cons (.tmp rfl) (sub_nil)))))
    · try simp only [bsx] at hc1
      have hs18 := hc1
      refine JC.skip ?_
      exact JQ.join1 (contS (normS ts)) (by rw [signO, if_neg (by rcases sgn_cases (zval (atT (normS ts) 0).coef) with h | h | h <;> omega)]) (sub_trans (sub_heap (.keep (fun _ _ h => h) (.keep (fun _ _ h => h) .nil))) (sub_cons (.tmp rfl) (sub_cons (.tmp rfl) (sub_cons (.tmp rfl) (sub_nil)))))
  intro g hj5
  have hgc := hj5
  refine JC.seq (JC.seq (JC.region ?_))
  refine J.m (.tmp rfl) rfl ?_
  refine J.o (ot_len_own (.tmp rfl) sl65 rfl) rfl ?_
  refine J.m .is rfl ?_
  refine J.nil (JQ.then_normal (JC.block ?_))
  refine JC.loop (ι := Nat) (fun k => [(2, tSl encTm ([])), (3, sIs b7 0 ((normS ts).length) ((normS ts).length)), (4, pOwn b4 (0)), (22, tIs (.int .i64 ((((normS ts).length : Nat) : Int)))), (23, tIs (.int .i64 (((k : Nat) : Int))))]) (fun k => [⟨b4, 25, cTs [tIs (.bool ((ofI g).neg)), tSl encD ((ofI g).abs)]⟩, ⟨b7, 63, cRow encTm ((fillT (divT g) (normS ts) k)) (cap7)⟩]) (fun k => k ≤ (normS ts).length) (fun k => (normS ts).length - k) 0 (by omega) ?lsub0 ?round0
  case lsub0 => exact sub_trans (sub_heap (.keep (fun _ _ h => h) (.keep (cRow_eq fillT_zero) .nil))) (sub_cons (.tmp rfl) (sub_cons (.tmp rfl) (sub_cons (.tmp rfl) (sub_cons (.tmp rfl) (sub_cons (.eq (.tmp rfl) (by first | rfl | (congr 3; omega) | (congr 2; omega))) (sub_nil))))))
  intro k hinv
  have hfl := fillT_len (f := divT g) (ts := normS ts) k
  refine JC.seq (JC.region ?_)
  refine J.o (ot_lss (.tmp rfl) (.tmp rfl)) rfl ?_
  refine J.nil (JQ.then_normal (JC.seq ?_))
  refine JC.cond (.tmp rfl) (fun hc2 => ?_) (fun hc2 => ?_)
  · try simp only [bsx] at hc2
    have hs24 := hc2
    refine JC.skip (JQ.then_normal (JC.seq (JC.block (JC.seq (JC.region ?_)))))
    refine J.m (.tmp rfl) rfl ?_
    refine J.a (.tmp rfl) rfl ?_
    refine J.nil (JQ.then_normal ?_)
    refine JC.drawS (Γ' := ?g1) (H' := [⟨b4, 25, cTs [tIs (.bool ((ofI g).neg)), tSl encD ((ofI g).abs)]⟩, ⟨b7, 63, cRow encTm (((fillT (divT g) (normS ts) k)).set (k) (Tm.mk (ofI (zval (atT (normS ts) k).coef / g)) ((atT (normS ts) k).exp))) (cap7)⟩]) 14 (fun i => [11].contains i) mo (by kernel_rfl) rfl ?tw1 ?st1 ?k1
    case tw1 =>
      refine TS.op (ot_move (.tmp rfl)) rfl (ltN rfl) rfl rfl ?_
      refine TS.op (ot_move (.tmp rfl)) rfl (ltN rfl) rfl rfl ?_
      refine TS.op (ot_move (.tmp rfl)) rfl (ltN rfl) rfl rfl ?_
      refine TS.op (ot_move (.tmp rfl)) rfl (ltN rfl) rfl rfl ?_
      refine TS.op (ot_eqt (T' := pOwn b7 (0 + k * 6)) (ot_index_own (.tmp rfl) (.tmp rfl) sl65 (by omega) (by omega)) (own_off2 (by omega))) rfl (ltN rfl) rfl rfl ?_
      refine TS.op (ot_fieldAddr_own (.tmp rfl) fd63_0) rfl (ltN rfl) rfl rfl ?_
      refine TS.op (ot_load_own_agg (.tmp rfl) (.tail _ (.head _)) ag25 (row_aggF (n := 6) (m := 2) (off := 0) (g := zT) (y := (atT (normS ts) k).coef) (fillT_el (by omega)) rfl rfl)) rfl (ltN rfl) rfl rfl ?_
      refine TS.op (ot_load_own_agg (.tmp rfl) (.head _) ag25 (cTs_ldV (g := zT) (y := (ofI g)) rfl rfl)) rfl (ltN rfl) rfl rfl ?_
      refine TS.op (ot_eqt (T' := tTup [tV encI (ofI (zval (atT (normS ts) k).coef / g)), tIs (.int .i64 (0))]) (ot_call fn54 (dexactG_c ((atT (normS ts) k).coef) (ofI g) (Nat.le_trans (hz2 _ (atT_mem (by omega))) (by omega)) (signO_lenB hgc hcB) (signO_valB hgc hc)) (.cons (.tmp rfl) (.cons (.tmp rfl) .nil))) (by rw [zval_ofI, if_pos (hgc ▸ hdv _ (atT_mem (by omega))), if_pos (hgc ▸ hdv _ (atT_mem (by omega)))])) rfl (ltN rfl) rfl rfl ?_
      refine TS.op (ot_move (.tmp rfl)) rfl (ltN rfl) rfl rfl ?_
      refine TS.op (ot_extract (.tmp rfl) rfl) rfl (ltN rfl) rfl rfl ?_
      refine TS.opf (fun _ => ot_extract (.tmp rfl) rfl) rfl (ltN rfl) rfl ?_
      refine TS.op (ot_eqt (T' := pOwn b7 (0 + k * 6)) (ot_index_own (.tmp rfl) (.tmp rfl) sl65 (by omega) (by omega)) (own_off2 (by omega))) rfl (ltN rfl) rfl rfl ?_
      refine TS.op (ot_fieldAddr_own (.tmp rfl) fd63_0) rfl (ltN rfl) rfl rfl ?_
      exact TS.nil
    case st1 =>
      intro Γx hx
      refine ⟨rfl, J.done fun Q hq => ?_⟩
      refine J.store (.move hx (.tmp rfl) (by kernel_rfl)) (.move hx (.tmp rfl) (by kernel_rfl)) (.there .here) sz25 (row_setF (n := 6) (m := 2) (off := 0) (i := k) (x := atT (normS ts) k) (x' := Tm.mk (ofI (zval (atT (normS ts) k).coef / g)) ((atT (normS ts) k).exp)) (y := ofI (zval (atT (normS ts) k).coef / g)) (fillT_el (by omega)) rfl rfl) ?_
      exact J.nil hq
    refine JQ.block_normal (JQ.then_normal (JC.region ?_))
    refine J.o (ot_add (.tmp rfl) .is (w64 (by omega) (by omega))) rfl ?_
    refine J.m (.tmp rfl) rfl ?_
    refine J.nil ?_
    exact JQ.round (k + 1) (by omega) (by omega) (sub_trans (sub_heap (.keep (fun _ _ h => h) (.keep (cRow_eq (fillT_set (by omega))) .nil))) (sub_cons (.tmp rfl) (sub_cons (.tmp rfl) (sub_cons (.tmp rfl) (sub_cons (.tmp rfl) (sub_cons (.eq (.tmp rfl) (by first | rfl | (congr 3; omega) | (congr 2; omega))) (sub_nil)))))))
  · try simp only [bsx] at hc2
    have hs24 := hc2
    refine JC.exit (JQ.then_exit (JQ.then_exit (JQ.block_exit (JQ.then_normal (JC.seq ?_)))))
    refine JC.weak (sub_freeze0 (E := encTm) (xs := (fillT (divT g) (normS ts) k)) (n := (normS ts).length) (c := (normS ts).length) [3] ⟨rfl, trivial⟩ (.there .here) (by rw [fillT_len]) (by omega)) ?_
    refine JC.region ?_
    refine J.m (.tmp rfl) rfl ?_
    refine J.a (.tmp rfl) rfl ?_
    refine J.nil (JQ.then_normal (JC.ret ?_))
    exact JQ.ret1 rfl (.tmp (.eq (.tmp rfl) (by rw [fillT_full (by omega), hgc, signO_lc]; rfl)))

theorem sptermsG_c {B : Nat} (ts : List Tm) (hl : ts.length ≤ 4294967295) (hd : ∀ t ∈ ts, Digs t.coef.abs) (hz : ∀ t ∈ ts, t.coef.abs.length ≤ B) (hb : B ≤ 1000000000000) : Ctr Try.prog 51 [tSl encTm (ts)] (tClo 69 [tPtr (cTs [tSl encTm (normS ts)])]) := by
  refine Ctr.of Try.func51 rfl Try.ntmps51 (Nat.le_of_ble_eq_true rfl) fun w0 M0 => ?_
  refine JC.seq (JC.region ?_)
  refine J.a .is rfl ?_
  refine J.nil (JQ.then_normal (JC.seq (JC.region ?_)))
  refine J.m (.tmp rfl) rfl ?_
  refine J.o (ot_call fn39 (normSG_c ts (by assumption) (by assumption) (by assumption) (by assumption)) (.cons (.tmp rfl) .nil)) rfl ?_
  refine J.alloc (R := cTs [tSl encTm ([])]) zr65 (fun _ => ⟨slP_nil _ _, rfl, trivial⟩) (ltN rfl) fun b3 => ?_
  refine J.store (.tmp rfl) (.tmp rfl) .here sz65 (st_cell (o := 0) (one_sl) rfl) ?_
  refine J.nil (JQ.then_normal (JC.seq ?_))
  refine JC.weak (sub_freezeP (R' := cTs [tSl encTm (normS ts)]) [3] ⟨rfl, trivial⟩ .here (fun _ _ h => h)) ?_
  refine JC.region ?_
  refine J.o (ot_clo (.cons (.tmp rfl) .nil)) rfl ?_
  refine J.a (.tmp rfl) rfl ?_
  refine J.nil (JQ.then_normal (JC.ret ?_))
  exact JQ.ret1 rfl (.tmp (.tmp rfl))

theorem ofG_c {B D : Nat} (ts : List Tm) (hl : ts.length ≤ 4294967295) (hd : ∀ t ∈ ts, Digs t.coef.abs) (hz : ∀ t ∈ ts, t.coef.abs.length ≤ B) (hb : B ≤ 1000000000000) (hm : ∀ t ∈ normS ts, ∀ i, i < 4 → t.exp.at i < 4294967295) (hc : ∀ t ∈ normS ts, t.coef.abs.length ≤ D) (hD : D ≤ 100000000000) : Ctr Try.prog 33 [tSl encTm (ts)] (tV encP (ofS (normS ts))) := by
  have hnl : (normS ts).length ≤ 4294967295 := Nat.le_trans (normS_len ts) hl
  have hcf : ∀ t ∈ normS ts, (ofI (zval t.coef)).abs.length ≤ D := fun t h => by rw [← normS_ofI h]; exact hc t h
  have hm2 : ∀ t ∈ normS ts, ∀ i, i < 4 → t.exp.at i < 4294967296 := fun t h i hi => by have := hm t h i hi; omega
  refine Ctr.ofM Try.func33 rfl Try.ntmps33 (Nat.le_of_ble_eq_true rfl) fun w0 M0 => ?_
  refine JC.seq (JC.region ?_)
  refine J.alloc (R := cTs [tIs (.int .i64 (0)), tIs (.bool (false)), tSl encD ([]), tSl encP ([])]) zr28 (fun _ => ⟨rfl, rfl, rfl, rfl, slP_nil _ _, rfl, slP_nil _ _, rfl, trivial⟩) (ltN rfl) fun b2 => ?_
  refine J.nil (JQ.then_normal (JC.seq (JC.region ?_)))
  refine J.o (ot_eqt (T' := tV encP (Pol.mk (0) (Z.mk (false) ([])) ([]))) (ot_build (Ts := [tIs (.int .i64 (0)), tIs (.bool (false)), tSl encD ([]), tSl encP ([])]) pl28 (fun _ => ⟨rfl, rfl, rfl, rfl, slP_nil _ _, rfl, slP_nil _ _, rfl, trivial⟩) (.nil) rfl) (tV_F' (polT_eq _))) rfl ?_
  refine J.alloc (R := cTs [tIs (.int .i64 (0)), tIs (.bool (false)), tSl encD ([]), tSl encP ([])]) zr28 (fun _ => ⟨rfl, rfl, rfl, rfl, slP_nil _ _, rfl, slP_nil _ _, rfl, trivial⟩) (ltN rfl) fun b3 => ?_
  refine J.store (.tmp rfl) (.eq (.tmp rfl) (tV_F (Ts := [tIs (.int .i64 (0)), tIs (.bool (false)), tSl encD ([]), tSl encP ([])]) (polT_eq _))) .here sz28 (st_agg (Ts' := [tIs (.int .i64 (0)), tIs (.bool (false)), tSl encD ([]), tSl encP ([])]) (o := 0) rfl) ?_
  refine J.nil (JQ.then_normal (JC.seq (JC.seq (JC.region ?_))))
  refine J.m (.tmp rfl) rfl ?_
  refine J.o (ot_call fn51 (sptermsG_c ts (by assumption) (by assumption) (by assumption) (by assumption)) (.cons (.tmp rfl) .nil)) rfl ?_
  refine J.nil (JQ.then_normal (JC.block ?_))
  refine JC.rangeFunc (ps := [13, 14]) (f := 69) (Us := [tPtr (cTs [tSl encTm (normS ts)])]) (n := (normS ts).length) (Ts := fun k => [tV encMo ((atT (normS ts) k).exp), tV encI (ofI (zval (atT (normS ts) k).coef))]) (Γ0 := [(2, pOwn b2 (0)), (3, pOwn b3 (0)), (12, tClo 69 [tPtr (cTs [tSl encTm (normS ts)])])]) (fun k => [⟨b3, 28, cTs [tIs (.int .i64 ((ofK (normS ts) k).lv)), tIs (.bool (((ofK (normS ts) k).c).neg)), tSl encD (((ofK (normS ts) k).c).abs), tSl encP ((ofK (normS ts) k).cs)]⟩, ⟨b2, 28, cTs [tIs (.int .i64 (0)), tIs (.bool (false)), tSl encD ([]), tSl encP ([])]⟩]) (.tmp rfl) fn69 (termsY (normS ts) (by omega) (fun t h => Nat.le_trans (hc t h) (by omega))) rfl ?rs0 (fun _ => rfl) rfl (fun _ => rfl) ?rr0 ?rd0
  case rs0 => exact sub_trans (sub_heap (.keep (fun _ _ h => h) (.keep (fun _ _ h => h) .nil))) (sub_cons (.tmp rfl) (sub_cons (.tmp rfl) (sub_cons (.tmp rfl) (sub_nil))))
  case rr0 =>
    intro k hk l w0 M0 L Q1 hend1
    have hmk := hm _ (atT_mem hk)
    have hck := hcf _ (atT_mem hk)
    have hft := ofK_fit hm2 hcf k (by omega)
    have htf := termP_fit (hm2 _ (atT_mem hk)) hck
    refine JCR.weak (Γ' := [(14, tV encI (ofI (zval (atT (normS ts) k).coef))), (13, tV encMo ((atT (normS ts) k).exp)), (2, pOwn b2 (0)), (3, pOwn b3 (0)), (12, tClo 69 [tPtr (cTs [tSl encTm (normS ts)])])]) (H' := [⟨b3, 28, cTs [tIs (.int .i64 ((ofK (normS ts) k).lv)), tIs (.bool (((ofK (normS ts) k).c).neg)), tSl encD (((ofK (normS ts) k).c).abs), tSl encP ((ofK (normS ts) k).cs)]⟩, ⟨b2, 28, cTs [tIs (.int .i64 (0)), tIs (.bool (false)), tSl encD ([]), tSl encP ([])]⟩]) (fun _ _ h => h) ?_
    refine JCR.seq (JCR.region ?_)
    refine J.alloc (R := cTs [tIs (.int .i64 (0)), tIs (.int .i64 (0)), tIs (.int .i64 (0)), tIs (.int .i64 (0))]) zr61 (fun _ => ⟨rfl, rfl, rfl, rfl, rfl, rfl, rfl, rfl, trivial⟩) (ltN rfl) fun b4 => ?_
    refine J.store (.tmp rfl) (.eq (.tmp rfl) (tV_F (Ts := [tIs (.int .i64 (((atT (normS ts) k).exp).a)), tIs (.int .i64 (((atT (normS ts) k).exp).b)), tIs (.int .i64 (((atT (normS ts) k).exp).c)), tIs (.int .i64 (((atT (normS ts) k).exp).d))]) rfl)) .here sz61 (st_agg (Ts' := [tIs (.int .i64 (((atT (normS ts) k).exp).a)), tIs (.int .i64 (((atT (normS ts) k).exp).b)), tIs (.int .i64 (((atT (normS ts) k).exp).c)), tIs (.int .i64 (((atT (normS ts) k).exp).d))]) (o := 0) rfl) ?_
    refine J.nil (JQR.then_normal (JCR.region ?_))
    refine J.alloc (R := cTs [tIs (.bool (false)), tSl encD ([])]) zr25 (fun _ => ⟨rfl, rfl, slP_nil _ _, rfl, trivial⟩) (ltN rfl) fun b5 => ?_
    refine J.store (.tmp rfl) (.eq (.tmp rfl) (tV_F (Ts := [tIs (.bool ((ofI (zval (atT (normS ts) k).coef)).neg)), tSl encD ((ofI (zval (atT (normS ts) k).coef)).abs)]) rfl)) .here sz25 (st_agg (Ts' := [tIs (.bool ((ofI (zval (atT (normS ts) k).coef)).neg)), tSl encD ((ofI (zval (atT (normS ts) k).coef)).abs)]) (o := 0) rfl) ?_
    refine J.nil ?_
    refine hend1 _ _ fun w1 M1 L1 Q2 hend2 => ?_
    refine JCR.block (JCR.seq (JCR.region ?_))
    refine J.o (ot_load_own_agg (.tmp rfl) (.head _) ag25 (cTs_ldV (g := zT) (y := (ofI (zval (atT (normS ts) k).coef))) rfl rfl)) rfl ?_
    refine J.o (ot_eqt (T' := tV encP (Pol.mk (0) (ofI (zval (atT (normS ts) k).coef)) ([]))) (ot_build (Ts := [tIs (.int .i64 (0)), tIs (.bool (false)), tSl encD ([]), tSl encP ([])]) pl28 (fun _ => ⟨rfl, rfl, rfl, rfl, slP_nil _ _, rfl, slP_nil _ _, rfl, trivial⟩) ((.agg (off := 1) rfl (.eq (.tmp rfl) (tV_F (Ts := [tIs (.bool ((ofI (zval (atT (normS ts) k).coef)).neg)), tSl encD ((ofI (zval (atT (normS ts) k).coef)).abs)]) rfl)) (Ts' := [tIs (.int .i64 (0)), tIs (.bool ((ofI (zval (atT (normS ts) k).coef)).neg)), tSl encD ((ofI (zval (atT (normS ts) k).coef)).abs), tSl encP ([])]) rfl rfl .nil)) rfl) (tV_F' (polT_eq _))) rfl ?_
    refine J.alloc (R := cTs [tIs (.int .i64 (0)), tIs (.bool (false)), tSl encD ([]), tSl encP ([])]) zr28 (fun _ => ⟨rfl, rfl, rfl, rfl, slP_nil _ _, rfl, slP_nil _ _, rfl, trivial⟩) (ltN rfl) fun b6 => ?_
    refine J.store (.tmp rfl) (.eq (.tmp rfl) (tV_F (Ts := [tIs (.int .i64 (0)), tIs (.bool ((ofI (zval (atT (normS ts) k).coef)).neg)), tSl encD ((ofI (zval (atT (normS ts) k).coef)).abs), tSl encP ([])]) (polT_eq _))) .here sz28 (st_agg (Ts' := [tIs (.int .i64 (0)), tIs (.bool ((ofI (zval (atT (normS ts) k).coef)).neg)), tSl encD ((ofI (zval (atT (normS ts) k).coef)).abs), tSl encP ([])]) (o := 0) rfl) ?_
    refine J.nil (JQR.then_normal (JCR.seq (JCR.seq (JCR.region ?_))))
    refine J.o (ot_load_own_agg (.tmp rfl) (.tail _ (.tail _ (.head _))) ag61 (cTs_ldV (g := moT) (y := ((atT (normS ts) k).exp)) rfl rfl)) rfl ?_
    refine J.m .is rfl ?_
    refine J.nil (JQR.then_normal (JCR.block ?_))
    refine JCR.loop (ι := Nat) (fun i => [(2, pOwn b2 (0)), (3, pOwn b3 (0)), (6, pOwn b6 (0)), (17, tV encMo ((atT (normS ts) k).exp)), (18, tIs (.int .i64 (((i : Nat) : Int))))]) (fun i => [⟨b6, 28, cTs [tIs (.int .i64 ((monoP (atT (normS ts) k).exp (Pol.mk 0 (ofI (zval (atT (normS ts) k).coef)) []) i).lv)), tIs (.bool (((monoP (atT (normS ts) k).exp (Pol.mk 0 (ofI (zval (atT (normS ts) k).coef)) []) i).c).neg)), tSl encD (((monoP (atT (normS ts) k).exp (Pol.mk 0 (ofI (zval (atT (normS ts) k).coef)) []) i).c).abs), tSl encP ((monoP (atT (normS ts) k).exp (Pol.mk 0 (ofI (zval (atT (normS ts) k).coef)) []) i).cs)]⟩, ⟨b5, 25, cTs [tIs (.bool ((ofI (zval (atT (normS ts) k).coef)).neg)), tSl encD ((ofI (zval (atT (normS ts) k).coef)).abs)]⟩, ⟨b4, 61, cTs [tIs (.int .i64 (((atT (normS ts) k).exp).a)), tIs (.int .i64 (((atT (normS ts) k).exp).b)), tIs (.int .i64 (((atT (normS ts) k).exp).c)), tIs (.int .i64 (((atT (normS ts) k).exp).d))]⟩, ⟨b3, 28, cTs [tIs (.int .i64 ((ofK (normS ts) k).lv)), tIs (.bool (((ofK (normS ts) k).c).neg)), tSl encD (((ofK (normS ts) k).c).abs), tSl encP ((ofK (normS ts) k).cs)]⟩, ⟨b2, 28, cTs [tIs (.int .i64 (0)), tIs (.bool (false)), tSl encD ([]), tSl encP ([])]⟩]) (fun i => i ≤ 4) (fun i => 4 - i) 0 (by omega) ?lsub0 ?round0
    case lsub0 => exact sub_trans (sub_heap (.keep (fun _ _ h => h) (.keep (fun _ _ h => h) (.keep (fun _ _ h => h) (.keep (fun _ _ h => h) (.keep (fun _ _ h => h) .nil)))))) (sub_cons (.tmp rfl) (sub_cons (.tmp rfl) (sub_cons (.tmp rfl) (sub_cons (.tmp rfl) (sub_cons (.eq (.tmp rfl) (by first | rfl | (congr 3; omega) | (congr 2; omega))) (sub_nil))))))
    intro i hinv
    refine JCR.seq (JCR.region ?_)
    refine J.o (ot_lss (.tmp rfl) .is) rfl ?_
    refine J.nil (JQR.then_normal (JCR.seq ?_))
    refine JCR.cond (.tmp rfl) (fun hc0 => ?_) (fun hc0 => ?_)
    · try simp only [bsx] at hc0
      have hs19 := hc0
      refine JCR.skip (JQR.then_normal (JCR.seq (JCR.block (JCR.seq (JCR.region ?_)))))
      refine J.m (.tmp rfl) rfl ?_
      refine J.o (ot_eqt (T' := tIs (.int .i64 (((atT (normS ts) k).exp).at i))) (ot_indexA (.tmp rfl) (.tmp rfl) ar4_61 (by omega) (by omega)) (by congr 3 <;> omega)) rfl ?_
      refine J.a (.tmp rfl) rfl ?_
      refine J.a (.tmp rfl) rfl ?_
      refine J.nil (JQR.then_normal (JCR.seq (JCR.region ?_)))
      refine J.m (.tmp rfl) rfl ?_
      refine J.o (ot_gtr (.tmp rfl) .is) rfl ?_
      refine J.nil (JQR.then_normal ?_)
      refine JCR.cond (.tmp rfl) (fun hc1 => ?_) (fun hc1 => ?_)
      · try simp only [bsx] at hc1
        have hs23 := hc1
        have hmi := hmk i (by omega)
        refine JCR.seq (JCR.region ?_)
        refine J.m (.tmp rfl) rfl ?_
        refine J.o (ot_add (.tmp rfl) .is (w64 (by omega) (by omega))) rfl ?_
        refine J.make (E := encP) (z := p0) (n := ((atT (normS ts) k).exp.at i).toNat + 1) sl26 (.eq (.tmp rfl) (by congr 2; omega)) (.eq (.tmp rfl) (by congr 2; omega)) zr28 (fun _ => encP_zero) (by decide) (by omega) (by omega) (ltN rfl) fun b26 => ?_
        refine J.a (.tmp rfl) rfl ?_
        refine J.nil (JQR.then_normal (JCR.seq (JCR.region ?_)))
        refine J.m (.tmp rfl) rfl ?_
        refine J.m (.tmp rfl) rfl ?_
        refine J.o (ot_load_own_agg (.tmp rfl) (.tail _ (.head _)) ag28 (cTs_ldV (g := polT) (y := (monoP (atT (normS ts) k).exp (Pol.mk 0 (ofI (zval (atT (normS ts) k).coef)) []) i)) (polT_eq (monoP (atT (normS ts) k).exp (Pol.mk 0 (ofI (zval (atT (normS ts) k).coef)) []) i)).symm rfl)) rfl ?_
        refine J.o (ot_eqt (T' := pOwn b26 (0 + (((atT (normS ts) k).exp.at i).toNat) * 4)) (ot_index_own (.tmp rfl) (.tmp rfl) sl26 (by omega) (by omega)) (own_off2 (by omega))) rfl ?_
        refine J.store (.tmp rfl) (.tmp rfl) .here sz28 (row_set (by simp)) ?_
        refine J.nil (JQR.then_normal ?_)
        refine JCR.weak (sub_freeze0 (E := encP) (xs := (List.replicate (((atT (normS ts) k).exp.at i).toNat + 1) p0).set (((atT (normS ts) k).exp.at i).toNat) (monoP (atT (normS ts) k).exp (Pol.mk 0 (ofI (zval (atT (normS ts) k).coef)) []) i)) (n := ((atT (normS ts) k).exp.at i).toNat + 1) (c := ((atT (normS ts) k).exp.at i).toNat + 1) [27, 9, 26] ⟨rfl, rfl, rfl, trivial⟩ .here (by simp) (by omega)) ?_
        refine JCR.region ?_
        refine J.m (.tmp rfl) rfl ?_
        refine J.o (ot_add (.tmp rfl) .is (w64 (by omega) (by omega))) rfl ?_
        refine J.m (.tmp rfl) rfl ?_
        refine J.o (ot_eqt (T' := tV encP (Pol.mk (((i : Nat) : Int) + 1) (Z.mk (false) ([])) ((List.replicate (((atT (normS ts) k).exp.at i).toNat + 1) p0).set (((atT (normS ts) k).exp.at i).toNat) (monoP (atT (normS ts) k).exp (Pol.mk 0 (ofI (zval (atT (normS ts) k).coef)) []) i)))) (ot_build (Ts := [tIs (.int .i64 (0)), tIs (.bool (false)), tSl encD ([]), tSl encP ([])]) pl28 (fun _ => ⟨rfl, rfl, rfl, rfl, slP_nil _ _, rfl, slP_nil _ _, rfl, trivial⟩) ((.one (off := 0) rfl (.tmp rfl) (one_is rfl rfl) (Ts' := [tIs (.int .i64 (((i : Nat) : Int) + 1)), tIs (.bool (false)), tSl encD ([]), tSl encP ([])]) rfl rfl (.one (off := 3) rfl (.tmp rfl) (one_sl) (Ts' := [tIs (.int .i64 (((i : Nat) : Int) + 1)), tIs (.bool (false)), tSl encD ([]), tSl encP ((List.replicate (((atT (normS ts) k).exp.at i).toNat + 1) p0).set (((atT (normS ts) k).exp.at i).toNat) (monoP (atT (normS ts) k).exp (Pol.mk 0 (ofI (zval (atT (normS ts) k).coef)) []) i))]) rfl rfl .nil))) rfl) (tV_F' (polT_eq _))) rfl ?_
        refine J.store (.tmp rfl) (.eq (.tmp rfl) (tV_F (Ts := [tIs (.int .i64 (((i : Nat) : Int) + 1)), tIs (.bool (false)), tSl encD ([]), tSl encP ((List.replicate (((atT (normS ts) k).exp.at i).toNat + 1) p0).set (((atT (normS ts) k).exp.at i).toNat) (monoP (atT (normS ts) k).exp (Pol.mk 0 (ofI (zval (atT (normS ts) k).coef)) []) i))]) (polT_eq _))) .here sz28 (st_agg (Ts' := [tIs (.int .i64 (((i : Nat) : Int) + 1)), tIs (.bool (false)), tSl encD ([]), tSl encP ((List.replicate (((atT (normS ts) k).exp.at i).toNat + 1) p0).set (((atT (normS ts) k).exp.at i).toNat) (monoP (atT (normS ts) k).exp (Pol.mk 0 (ofI (zval (atT (normS ts) k).coef)) []) i))]) (o := 0) rfl) ?_
        refine J.nil (JQ.block_normal (JQR.then_normal (JCR.region ?_)))
        refine J.o (ot_add (.tmp rfl) .is (w64 (by omega) (by omega))) rfl ?_
        refine J.m (.tmp rfl) rfl ?_
        refine J.nil ?_
        exact JQ.round (i + 1) (by omega) (by omega) (sub_trans (sub_heap (.keep (fun _ _ h => by rw [← monoP_yes (by omega)]; exact h) (.keep (fun _ _ h => h) (.keep (fun _ _ h => h) (.keep (fun _ _ h => h) (.keep (fun _ _ h => h) .nil)))))) (sub_cons (.tmp rfl) (sub_cons (.tmp rfl) (sub_cons (.tmp rfl) (sub_cons (.tmp rfl) (sub_cons (.eq (.tmp rfl) (by first | rfl | (congr 3; omega) | (congr 2; omega))) (sub_nil)))))))
      · try simp only [bsx] at hc1
        have hs23 := hc1
        have hno := monoP_no (m := (atT (normS ts) k).exp) (t := Pol.mk 0 (ofI (zval (atT (normS ts) k).coef)) []) (i := i) (by omega)
        refine JCR.skip (JQ.block_normal (JQR.then_normal (JCR.region ?_)))
        refine J.o (ot_add (.tmp rfl) .is (w64 (by omega) (by omega))) rfl ?_
        refine J.m (.tmp rfl) rfl ?_
        refine J.nil ?_
        exact JQ.round (i + 1) (by omega) (by omega) (sub_trans (sub_heap (.keep (fun _ _ h => hno ▸ h) (.keep (fun _ _ h => h) (.keep (fun _ _ h => h) (.keep (fun _ _ h => h) (.keep (fun _ _ h => h) .nil)))))) (sub_cons (.tmp rfl) (sub_cons (.tmp rfl) (sub_cons (.tmp rfl) (sub_cons (.tmp rfl) (sub_cons (.eq (.tmp rfl) (by first | rfl | (congr 3; omega) | (congr 2; omega))) (sub_nil)))))))
    · try simp only [bsx] at hc0
      have hs19 := hc0
      refine JCR.exit (JQ.then_exit (JQ.then_exit (JQ.block_exit (JQR.then_normal (JCR.region ?_)))))
      refine J.o (ot_load_own_agg (.tmp rfl) (.tail _ (.tail _ (.tail _ (.head _)))) ag28 (cTs_ldV (g := polT) (y := (ofK (normS ts) k)) (polT_eq (ofK (normS ts) k)).symm rfl)) rfl ?_
      refine J.o (ot_load_own_agg (.tmp rfl) (.head _) ag28 (cTs_ldV (g := polT) (y := (monoP (atT (normS ts) k).exp (Pol.mk 0 (ofI (zval (atT (normS ts) k).coef)) []) i)) (polT_eq (monoP (atT (normS ts) k).exp (Pol.mk 0 (ofI (zval (atT (normS ts) k).coef)) []) i)).symm rfl)) rfl ?_
      refine J.o (ot_call fn46 (add_c 4 (ofK (normS ts) k) (monoP (atT (normS ts) k).exp (Pol.mk 0 (ofI (zval (atT (normS ts) k).coef)) []) i) (ofK_lev _ _) ((monoP_lev i).mono (by omega)) hft ((monoP_fit (hm2 _ (atT_mem hk)) (.mk (digs_dig _) hck (Nat.zero_le _) (fun q h => by cases h)) i (by omega)).mono (Nat.le_add_right D k)) (by omega)) (.cons (.tmp rfl) (.cons (.tmp rfl) .nil))) rfl ?_
      refine J.store (.tmp rfl) (.eq (.tmp rfl) (tV_F (Ts := [tIs (.int .i64 ((addF 4 (ofK (normS ts) k) (monoP (atT (normS ts) k).exp (Pol.mk 0 (ofI (zval (atT (normS ts) k).coef)) []) i)).lv)), tIs (.bool (((addF 4 (ofK (normS ts) k) (monoP (atT (normS ts) k).exp (Pol.mk 0 (ofI (zval (atT (normS ts) k).coef)) []) i)).c).neg)), tSl encD (((addF 4 (ofK (normS ts) k) (monoP (atT (normS ts) k).exp (Pol.mk 0 (ofI (zval (atT (normS ts) k).coef)) []) i)).c).abs), tSl encP ((addF 4 (ofK (normS ts) k) (monoP (atT (normS ts) k).exp (Pol.mk 0 (ofI (zval (atT (normS ts) k).coef)) []) i)).cs)]) (polT_eq _))) (.there (.there (.there .here))) sz28 (st_agg (Ts' := [tIs (.int .i64 ((addF 4 (ofK (normS ts) k) (monoP (atT (normS ts) k).exp (Pol.mk 0 (ofI (zval (atT (normS ts) k).coef)) []) i)).lv)), tIs (.bool (((addF 4 (ofK (normS ts) k) (monoP (atT (normS ts) k).exp (Pol.mk 0 (ofI (zval (atT (normS ts) k).coef)) []) i)).c).neg)), tSl encD (((addF 4 (ofK (normS ts) k) (monoP (atT (normS ts) k).exp (Pol.mk 0 (ofI (zval (atT (normS ts) k).coef)) []) i)).c).abs), tSl encP ((addF 4 (ofK (normS ts) k) (monoP (atT (normS ts) k).exp (Pol.mk 0 (ofI (zval (atT (normS ts) k).coef)) []) i)).cs)]) (o := 0) rfl) ?_
      refine J.nil (JQ.block_normal ?_)
      exact JQ.weak (sub_trans (sub_heap (.drop (.drop (.drop (.keep (fun _ _ h => by have hi4 : i = 4 := (by omega); subst hi4; exact h) (.keep (fun _ _ h => h) .nil)))))) (sub_nil)) hend2
  case rd0 =>
    intro D w1 M1 L1 hrb
    refine JQ.block_normal (JQ.then_normal (JC.seq (JC.region ?_)))
    refine J.o (ot_load_own_agg (.tmp rfl) (.head _) ag28 (cTs_ldV (g := polT) (y := (ofK (normS ts) ((normS ts).length))) (polT_eq (ofK (normS ts) ((normS ts).length))).symm rfl)) rfl ?_
    refine J.store (.tmp rfl) (.eq (.tmp rfl) (tV_F (Ts := [tIs (.int .i64 ((ofK (normS ts) ((normS ts).length)).lv)), tIs (.bool (((ofK (normS ts) ((normS ts).length)).c).neg)), tSl encD (((ofK (normS ts) ((normS ts).length)).c).abs), tSl encP ((ofK (normS ts) ((normS ts).length)).cs)]) (polT_eq _))) (.there .here) sz28 (st_agg (Ts' := [tIs (.int .i64 ((ofK (normS ts) ((normS ts).length)).lv)), tIs (.bool (((ofK (normS ts) ((normS ts).length)).c).neg)), tSl encD (((ofK (normS ts) ((normS ts).length)).c).abs), tSl encP ((ofK (normS ts) ((normS ts).length)).cs)]) (o := 0) rfl) ?_
    refine J.nil (JQ.then_normal (JC.ret ?_))
    exact JQ.retM1_ret hrb rfl (.agg (.tmp rfl) (.tail _ (.head _)) ag28 (agg_eq (T := tV encP (ofK (normS ts) ((normS ts).length))) (T' := tV encP (ofS (normS ts))) (by rfl) (cTs_ldV (g := polT) (y := (ofK (normS ts) ((normS ts).length))) (polT_eq (ofK (normS ts) ((normS ts).length))).symm rfl)))

theorem toG_c {B : Nat} (p : Pol) (hf : Fit B p) (np : nrm p < B32 ^ B) (hcn : cnt p ≤ 1000000000) (hb : B ≤ 1000000000) (hlen : (termsP (normN p) mo0).length ≤ 4294967295) : Ctr Try.prog 26 [tV encP (p)] (tSl encTm (toS (normN p))) := by
  have hnn : nrm (normN p) < B32 ^ B := Nat.lt_of_le_of_lt (nrm_norm p) np
  have hfn := (sz_norm p).fit (by omega) hnn
  have hlv := lev_norm p
  refine Ctr.of Try.func26 rfl Try.ntmps26 (Nat.le_of_ble_eq_true rfl) fun w0 M0 => ?_
  refine JC.seq (JC.region ?_)
  refine J.boxF (Ts := [tIs (.int .i64 (p.lv)), tIs (.bool (p.c.neg)), tSl encD (p.c.abs), tSl encP (p.cs)]) (.tmp rfl) (polT_eq _) (ltN rfl) fun b1 => ?_
  refine J.o (ot_assign (.nil (E := encTm))) rfl ?_
  refine J.nil (JQ.then_normal (JC.seq (JC.region ?_)))
  refine J.o (ot_load_own_agg (.tmp rfl) (.head _) ag28 (cTs_ldV (g := polT) (y := p) (polT_eq p).symm rfl)) rfl ?_
  refine J.o (ot_call fn29 (rnormalG_c p hf np hcn hb) (.cons (.tmp rfl) .nil)) rfl ?_
  refine J.o (ot_eqt (T' := tV encMo mo0) (ot_buildA0 ar4_61 zr61) rfl) rfl ?_
  refine J.o (ot_call fn40 (terms_c (normN p) mo0 hlv (by show (termsP (normN p) mo0).length ≤ _; omega) hfn) (.cons (.tmp rfl) (.cons (.tmp rfl) .nil))) rfl ?_
  refine J.o (ot_call fn39 (normSG_c (termsP (normN p) mo0) hlen (fun t ht => (termsP_fit hfn t ht).1) (fun t ht => (termsP_fit hfn t ht).2) (by omega)) (.cons (.tmp rfl) .nil)) rfl ?_
  refine J.a (.tmp rfl) rfl ?_
  refine J.nil (JQ.then_normal (JC.ret ?_))
  exact JQ.ret1 rfl (.tmp (.eq (.tmp rfl) (by first | rfl | (congr 3; omega) | (congr 2; omega) | simp [*])))

theorem constG_c {B : Nat} (p : Pol) (hf : Fit B p) (np : nrm p < B32 ^ B) (hcn : cnt p ≤ 1000000000) (hb : B ≤ 1000000000) : Ctr Try.prog 11 [tV encP (p)] (tTup [tV encI (if 0 < (normN p).lv then z0 else (normN p).c), tIs (.bool (!decide (0 < (normN p).lv)))]) := by
  refine Ctr.of Try.func11 rfl Try.ntmps11 (Nat.le_of_ble_eq_true rfl) fun w0 M0 => ?_
  refine JC.seq (JC.region ?_)
  refine J.boxF (Ts := [tIs (.int .i64 (p.lv)), tIs (.bool (p.c.neg)), tSl encD (p.c.abs), tSl encP (p.cs)]) (.tmp rfl) (polT_eq _) (ltN rfl) fun b1 => ?_
  refine J.alloc (R := cTs [tIs (.bool (false)), tSl encD ([])]) zr25 (fun _ => ⟨rfl, rfl, slP_nil _ _, rfl, trivial⟩) (ltN rfl) fun b2 => ?_
  refine J.a .is rfl ?_
  refine J.nil (JQ.then_normal (JC.seq (JC.region ?_)))
  refine J.o (ot_load_own_agg (.tmp rfl) (.tail _ (.head _)) ag28 (cTs_ldV (g := polT) (y := p) (polT_eq p).symm rfl)) rfl ?_
  refine J.o (ot_call fn29 (rnormalG_c p (by assumption) (by assumption) (by assumption) (by assumption)) (.cons (.tmp rfl) .nil)) rfl ?_
  refine J.alloc (R := cTs [tIs (.int .i64 (0)), tIs (.bool (false)), tSl encD ([]), tSl encP ([])]) zr28 (fun _ => ⟨rfl, rfl, rfl, rfl, slP_nil _ _, rfl, slP_nil _ _, rfl, trivial⟩) (ltN rfl) fun b4 => ?_
  refine J.store (.tmp rfl) (.eq (.tmp rfl) (tV_F (Ts := [tIs (.int .i64 ((normN p).lv)), tIs (.bool (((normN p).c).neg)), tSl encD (((normN p).c).abs), tSl encP ((normN p).cs)]) (polT_eq _))) .here sz28 (st_agg (Ts' := [tIs (.int .i64 ((normN p).lv)), tIs (.bool (((normN p).c).neg)), tSl encD (((normN p).c).abs), tSl encP ((normN p).cs)]) (o := 0) rfl) ?_
  refine J.nil (JQ.then_normal (JC.seq (JC.seq (JC.region ?_))))
  refine J.o (ot_fieldAddr_own (.tmp rfl) fd28_0) rfl ?_
  refine J.o (ot_load_own (.tmp rfl) (.head _) sc3 (cTs_ld rfl)) rfl ?_
  refine J.o (ot_gtr (.tmp rfl) .is) rfl ?_
  refine J.nil (JQ.then_normal ?_)
  refine JC.cond (.tmp rfl) (fun hc0 => ?_) (fun hc0 => ?_)
  · try simp only [bsx] at hc0
    have hs9 := hc0
    refine JC.seq (JC.region ?_)
    refine J.o (ot_eqt (T' := tV encI (Z.mk (false) ([]))) (ot_build (Ts := [tIs (.bool (false)), tSl encD ([])]) pl25 (fun _ => ⟨rfl, rfl, slP_nil _ _, rfl, trivial⟩) (.nil) rfl) (tV_F' rfl)) rfl ?_
    refine J.store (.tmp rfl) (.eq (.tmp rfl) (tV_F (Ts := [tIs (.bool (false)), tSl encD ([])]) rfl)) (.there .here) sz25 (st_agg (Ts' := [tIs (.bool (false)), tSl encD ([])]) (o := 0) rfl) ?_
    refine J.a .is rfl ?_
    refine J.nil (JQ.then_normal (JC.ret (JQ.then_ret ?_)))
    exact JQ.ret2 rfl (.agg (.tmp rfl) (.tail _ (.head _)) ag25 (agg_eq (T := tV encI (Z.mk (false) ([]))) (T' := tV encI (if 0 < (normN p).lv then z0 else (normN p).c)) (by rw [if_pos hc0]; rfl) (cTs_ldV (g := zT) (y := (Z.mk (false) ([]))) rfl rfl))) (.tmp (.eq (.tmp rfl) (by rw [decide_eq_true hc0]; rfl)))
  · try simp only [bsx] at hc0
    have hs9 := hc0
    refine JC.skip (JQ.then_normal (JC.seq (JC.region ?_)))
    refine J.o (ot_fieldAddr_own (.tmp rfl) fd28_1) rfl ?_
    refine J.o (ot_load_own_agg (.tmp rfl) (.head _) ag25 (cTs_ldV (g := zT) (y := ((normN p).c)) rfl rfl)) rfl ?_
    refine J.store (.tmp rfl) (.eq (.tmp rfl) (tV_F (Ts := [tIs (.bool (((normN p).c).neg)), tSl encD (((normN p).c).abs)]) rfl)) (.there .here) sz25 (st_agg (Ts' := [tIs (.bool (((normN p).c).neg)), tSl encD (((normN p).c).abs)]) (o := 0) rfl) ?_
    refine J.a .is rfl ?_
    refine J.nil (JQ.then_normal (JC.ret ?_))
    exact JQ.ret2 rfl (.agg (.tmp rfl) (.tail _ (.head _)) ag25 (agg_eq (T := tV encI ((normN p).c)) (T' := tV encI (if 0 < (normN p).lv then z0 else (normN p).c)) (by rw [if_neg hc0]) (cTs_ldV (g := zT) (y := ((normN p).c)) rfl rfl))) (.tmp (.eq (.tmp rfl) (by rw [decide_eq_false hc0]; rfl)))

theorem msign_c {B : Nat} (p : Pol) (hf : Fit B p) (np : nrm p < B32 ^ B) (hcn : cnt p ≤ 1000000000) (hb : B ≤ 1000000000) (hlen : (termsP (normN p) mo0).length ≤ 4294967295) (hne : normN p ≠ p0) : Ctr Try.prog 14 [tV encP (p)] (tV encP (msign p)) := by
  have hM := msF np hcn hlen hne
  refine Ctr.of Try.func14 rfl Try.ntmps14 (Nat.le_of_ble_eq_true rfl) fun w0 M0 => ?_
  refine JC.seq (JC.region ?_)
  refine J.boxF (Ts := [tIs (.int .i64 (p.lv)), tIs (.bool (p.c.neg)), tSl encD (p.c.abs), tSl encP (p.cs)]) (.tmp rfl) (polT_eq _) (ltN rfl) fun b1 => ?_
  refine J.alloc (R := cTs [tIs (.int .i64 (0)), tIs (.bool (false)), tSl encD ([]), tSl encP ([])]) zr28 (fun _ => ⟨rfl, rfl, rfl, rfl, slP_nil _ _, rfl, slP_nil _ _, rfl, trivial⟩) (ltN rfl) fun b2 => ?_
  refine J.nil (JQ.then_normal (JC.seq (JC.region ?_)))
  refine J.o (ot_load_own_agg (.tmp rfl) (.tail _ (.head _)) ag28 (cTs_ldV (g := polT) (y := p) (polT_eq p).symm rfl)) rfl ?_
  refine J.o (ot_call fn26 (toG_c p hf np hcn hb hlen) (.cons (.tmp rfl) .nil)) rfl ?_
  refine J.o (ot_eqt (T' := tSl encTm (sgnT (toS (normN p)))) (ot_call fn34 (signN_c (toS (normN p)) hM.tl hM.td hM.tz (by omega) (by rw [hM.n1]; exact hM.tn)) (.cons (.tmp rfl) .nil)) (by rw [hM.n1])) rfl ?_
  refine J.o (ot_eqt (T' := tV encP (msign p)) (ot_call fn33 (ofG_c (sgnT (toS (normN p))) hM.sl hM.sd hM.sz (by omega) (by rw [hM.n2]; exact hM.se) (by rw [hM.n2]; exact hM.sz) (by omega)) (.cons (.tmp rfl) .nil)) (by rw [hM.n2]; rfl)) rfl ?_
  refine J.store (.tmp rfl) (.eq (.tmp rfl) (tV_F (Ts := [tIs (.int .i64 ((msign p).lv)), tIs (.bool (((msign p).c).neg)), tSl encD (((msign p).c).abs), tSl encP ((msign p).cs)]) (polT_eq _))) .here sz28 (st_agg (Ts' := [tIs (.int .i64 ((msign p).lv)), tIs (.bool (((msign p).c).neg)), tSl encD (((msign p).c).abs), tSl encP ((msign p).cs)]) (o := 0) rfl) ?_
  refine J.nil (JQ.then_normal (JC.ret ?_))
  exact JQ.ret1 rfl (.agg (.tmp rfl) (.head _) ag28 (cTs_ldV (g := polT) (y := (msign p)) (polT_eq (msign p)).symm rfl))

theorem atomG_c {B : Nat} (p : Pol) (r : Int) (hf : Fit B p) (np : nrm p < B32 ^ B) (hcn : cnt p ≤ 1000000000) (hb : B ≤ 1000000000) (hlen : (termsP (normN p) mo0).length ≤ 4294967295) : Ctr Try.prog 7 [tV encP (p), tIs (.int .i64 (r))] (tV encM (atomM p r)) := by
  have hnz := can_norm p
  have hnn : nrm (normN p) < B32 ^ B := Nat.lt_of_le_of_lt (nrm_norm p) np
  have hfn := (sz_norm p).fit (by omega) hnn
  have hfc := hfn.c
  refine Ctr.of Try.func7 rfl Try.ntmps7 (Nat.le_of_ble_eq_true rfl) fun w0 M0 => ?_
  refine JC.seq (JC.region ?_)
  refine J.boxF (Ts := [tIs (.int .i64 (p.lv)), tIs (.bool (p.c.neg)), tSl encD (p.c.abs), tSl encP (p.cs)]) (.tmp rfl) (polT_eq _) (ltN rfl) fun b2 => ?_
  refine J.alloc (R := cTs [tIs (.int .i64 (0)), tIs (.int .i64 (0)), tIs (.int .i64 (0)), tIs (.bool (false)), tSl encD ([]), tSl encP ([]), tSl encM ([])]) zr37 (fun _ => ⟨rfl, rfl, rfl, rfl, rfl, rfl, rfl, rfl, slP_nil _ _, rfl, slP_nil _ _, rfl, slP_nil _ _, rfl, trivial⟩) (ltN rfl) fun b4 => ?_
  refine J.nil (JQ.then_normal (JC.seq (JC.region ?_)))
  refine J.m (.tmp rfl) rfl ?_
  refine J.o (ot_call fn22 (bits_c r ) (.cons (.tmp rfl) .nil)) rfl ?_
  refine J.a (.tmp rfl) rfl ?_
  refine J.nil (JQ.then_normal (JC.seq (JC.seq (JC.region ?_))))
  refine J.o (ot_load_own_agg (.tmp rfl) (.tail _ (.head _)) ag28 (cTs_ldV (g := polT) (y := p) (polT_eq p).symm rfl)) rfl ?_
  refine J.o (ot_call fn11 (constG_c p hf np hcn hb) (.cons (.tmp rfl) .nil)) rfl ?_
  refine J.m (.tmp rfl) rfl ?_
  refine J.o (ot_extract (.tmp rfl) rfl) rfl ?_
  refine J.o (ot_extract (.tmp rfl) rfl) rfl ?_
  refine J.alloc (R := cTs [tIs (.bool (false)), tSl encD ([])]) zr25 (fun _ => ⟨rfl, rfl, slP_nil _ _, rfl, trivial⟩) (ltN rfl) fun b6 => ?_
  refine J.store (.tmp rfl) (.eq (.tmp rfl) (tV_F (Ts := [tIs (.bool ((if 0 < (normN p).lv then z0 else (normN p).c).neg)), tSl encD ((if 0 < (normN p).lv then z0 else (normN p).c).abs)]) rfl)) .here sz25 (st_agg (Ts' := [tIs (.bool ((if 0 < (normN p).lv then z0 else (normN p).c).neg)), tSl encD ((if 0 < (normN p).lv then z0 else (normN p).c).abs)]) (o := 0) rfl) ?_
  refine J.a (.tmp rfl) rfl ?_
  refine J.nil (JQ.then_normal (JC.seq (JC.region ?_)))
  refine J.m (.tmp rfl) rfl ?_
  refine J.nil (JQ.then_normal ?_)
  refine JC.cond (.tmp rfl) (fun hc0 => ?_) (fun hc0 => ?_)
  · try simp only [bsx] at hc0
    have hs17 := hc0
    have hlv : ¬ 0 < (normN p).lv := by simpa using hs17
    refine JC.seq (JC.region ?_)
    refine J.m (.tmp rfl) rfl ?_
    refine J.o (ot_load_own_agg (.tmp rfl) (.head _) ag25 (cTs_ldV (g := zT) (y := (if 0 < (normN p).lv then z0 else (normN p).c)) rfl rfl)) rfl ?_
    refine J.o (ot_eqt (T' := tIs (.int .i64 (sgn (zval (normN p).c)))) (ot_call fn25 (intSign_c (if 0 < (normN p).lv then z0 else (normN p).c) (by rw [if_neg hlv]; omega)) (.cons (.tmp rfl) .nil)) (by rw [if_neg hlv])) rfl ?_
    refine J.o (ot_call fn24 (sign_c (sgn (zval (normN p).c)) (by rcases sgn_cases (zval (normN p).c) with h | h | h <;> omega)) (.cons (.tmp rfl) .nil)) rfl ?_
    refine J.o (ot_and (.tmp rfl) (.tmp rfl) rfl) rfl ?_
    refine J.o (ot_neq (.tmp rfl) .is) rfl ?_
    refine J.o (ot_call fn23 (truth_c (!decide ((bitsOf .and .i64 (bitsR r) (2 ^ ((sgn (zval (normN p).c)) + 1).toNat)) = 0)) ) (.cons (.tmp rfl) .nil)) rfl ?_
    refine J.store (.tmp rfl) (.eq (.tmp rfl) (tV_F (Ts := [tIs (.int .i64 ((truthM (!decide ((bitsOf .and .i64 (bitsR r) (2 ^ ((sgn (zval (normN p).c)) + 1).toNat)) = 0))).kind)), tIs (.int .i64 ((truthM (!decide ((bitsOf .and .i64 (bitsR r) (2 ^ ((sgn (zval (normN p).c)) + 1).toNat)) = 0))).rel)), tIs (.int .i64 (((truthM (!decide ((bitsOf .and .i64 (bitsR r) (2 ^ ((sgn (zval (normN p).c)) + 1).toNat)) = 0))).poly).lv)), tIs (.bool ((((truthM (!decide ((bitsOf .and .i64 (bitsR r) (2 ^ ((sgn (zval (normN p).c)) + 1).toNat)) = 0))).poly).c).neg)), tSl encD ((((truthM (!decide ((bitsOf .and .i64 (bitsR r) (2 ^ ((sgn (zval (normN p).c)) + 1).toNat)) = 0))).poly).c).abs), tSl encP (((truthM (!decide ((bitsOf .and .i64 (bitsR r) (2 ^ ((sgn (zval (normN p).c)) + 1).toNat)) = 0))).poly).cs), tSl encM ((truthM (!decide ((bitsOf .and .i64 (bitsR r) (2 ^ ((sgn (zval (normN p).c)) + 1).toNat)) = 0))).kids)]) (mxT_eq _))) (.there .here) sz37 (st_agg (Ts' := [tIs (.int .i64 ((truthM (!decide ((bitsOf .and .i64 (bitsR r) (2 ^ ((sgn (zval (normN p).c)) + 1).toNat)) = 0))).kind)), tIs (.int .i64 ((truthM (!decide ((bitsOf .and .i64 (bitsR r) (2 ^ ((sgn (zval (normN p).c)) + 1).toNat)) = 0))).rel)), tIs (.int .i64 (((truthM (!decide ((bitsOf .and .i64 (bitsR r) (2 ^ ((sgn (zval (normN p).c)) + 1).toNat)) = 0))).poly).lv)), tIs (.bool ((((truthM (!decide ((bitsOf .and .i64 (bitsR r) (2 ^ ((sgn (zval (normN p).c)) + 1).toNat)) = 0))).poly).c).neg)), tSl encD ((((truthM (!decide ((bitsOf .and .i64 (bitsR r) (2 ^ ((sgn (zval (normN p).c)) + 1).toNat)) = 0))).poly).c).abs), tSl encP (((truthM (!decide ((bitsOf .and .i64 (bitsR r) (2 ^ ((sgn (zval (normN p).c)) + 1).toNat)) = 0))).poly).cs), tSl encM ((truthM (!decide ((bitsOf .and .i64 (bitsR r) (2 ^ ((sgn (zval (normN p).c)) + 1).toNat)) = 0))).kids)]) (o := 0) rfl) ?_
    refine J.nil (JQ.then_normal (JC.ret (JQ.then_ret ?_)))
    exact JQ.ret1 rfl (.agg (.tmp rfl) (.tail _ (.head _)) ag37 (agg_eq (T := tV encM (truthM (!decide ((bitsOf .and .i64 (bitsR r) (2 ^ ((sgn (zval (normN p).c)) + 1).toNat)) = 0)))) (T' := tV encM (atomM p r)) (by rw [atomM, if_neg hlv]) (cTs_ldV (g := mxT) (y := (truthM (!decide ((bitsOf .and .i64 (bitsR r) (2 ^ ((sgn (zval (normN p).c)) + 1).toNat)) = 0)))) (mxT_eq (truthM (!decide ((bitsOf .and .i64 (bitsR r) (2 ^ ((sgn (zval (normN p).c)) + 1).toNat)) = 0)))).symm rfl)))
  · try simp only [bsx] at hc0
    have hs17 := hc0
    have hlv : 0 < (normN p).lv := by simpa using hs17
    have hne : normN p ≠ p0 := fun e => absurd (e ▸ hlv) (by decide)
    have hM := msF np hcn hlen hne
    have hM1 : 0 < (toS (normN p)).length := by rcases Nat.eq_zero_or_pos (toS (normN p)).length with h | h; exact absurd (List.eq_nil_of_length_eq_zero h) hM.tn; exact h
    refine JC.skip (JQ.then_normal ?_)
    refine JC.join1 (α := Int) (fun bb => [(2, pOwn b2 (0)), (4, pOwn b4 (0)), (5, tIs (.int .i64 (bb)))]) (fun bb => [⟨b6, 25, cTs [tIs (.bool ((if 0 < (normN p).lv then z0 else (normN p).c).neg)), tSl encD ((if 0 < (normN p).lv then z0 else (normN p).c).abs)]⟩, ⟨b4, 37, cTs [tIs (.int .i64 (0)), tIs (.int .i64 (0)), tIs (.int .i64 (0)), tIs (.bool (false)), tSl encD ([]), tSl encP ([]), tSl encM ([])]⟩, ⟨b2, 28, cTs [tIs (.int .i64 (p.lv)), tIs (.bool (p.c.neg)), tSl encD (p.c.abs), tSl encP (p.cs)]⟩]) (fun bb => bb = bitsN p r) ?way1 ?on1
    case way1 =>
      refine JC.seq (JC.region ?_)
      refine J.o (ot_load_own_agg (.tmp rfl) (.tail _ (.tail _ (.head _))) ag28 (cTs_ldV (g := polT) (y := p) (polT_eq p).symm rfl)) rfl ?_
      refine J.o (ot_call fn26 (toG_c p hf np hcn hb hlen) (.cons (.tmp rfl) .nil)) rfl ?_
      refine J.o (ot_index (z := atT (toS (normN p)) 0) (.tmp rfl) .is sl65 (by omega) (atT_at rfl (by omega))) rfl ?_
      refine J.o (ot_fieldAddr (.tmp rfl) fd63_0 (fun _ _ h => h)) rfl ?_
      refine J.o (ot_load_agg (.tmp rfl) ag25 (ldFV0 (g := zT) (y := (atT (toS (normN p)) 0).coef) rfl rfl)) rfl ?_
      refine J.o (ot_call fn25 (intSign_c ((atT (toS (normN p)) 0).coef) (Nat.le_trans (hM.tz _ (atT_mem (by omega))) (by omega))) (.cons (.tmp rfl) .nil)) rfl ?_
      refine J.o (ot_lss (.tmp rfl) .is) rfl ?_
      refine J.nil (JQ.then_normal ?_)
      refine JC.cond (.tmp rfl) (fun hc1 => ?_) (fun hc1 => ?_)
      · try simp only [bsx] at hc1
        have hs31 := hc1
        refine JC.region ?_
        refine J.m (.tmp rfl) rfl ?_
        refine J.o (ot_and (.tmp rfl) .is rfl) rfl ?_
        refine J.m (.tmp rfl) rfl ?_
        refine J.o (ot_and (.tmp rfl) .is rfl) rfl ?_
        refine J.o (ot_shl (.tmp rfl) .is (by omega) rfl) rfl ?_
        refine J.o (ot_or (.tmp rfl) (.tmp rfl) rfl) rfl ?_
        refine J.m (.tmp rfl) rfl ?_
        refine J.o (ot_and (.tmp rfl) .is rfl) rfl ?_
        refine J.o (ot_shr (.tmp rfl) .is (by omega) rfl) rfl ?_
        refine J.o (ot_or (.tmp rfl) (.tmp rfl) rfl) rfl ?_
        refine J.a (.tmp rfl) rfl ?_
        refine J.nil ?_
        exact JQ.join1 (flipE (bitsR r)) (by rw [bitsN, if_pos (by rcases sgn_cases (zval (atT (toS (normN p)) 0).coef) with h | h | h <;> omega)]) (sub_trans (sub_heap (.keep (fun _ _ h => h) (.keep (fun _ _ h => h) (.keep (fun _ _ h => h) .nil)))) (sub_cons (.tmp rfl) (sub_cons (.tmp rfl) (sub_cons (.eq (.tmp rfl) (by rfl)) (sub_nil)))))
      · try simp only [bsx] at hc1
        have hs31 := hc1
        refine JC.skip ?_
        exact JQ.join1 (bitsR r) (by rw [bitsN, if_neg (by rcases sgn_cases (zval (atT (toS (normN p)) 0).coef) with h | h | h <;> omega)]) (sub_trans (sub_heap (.keep (fun _ _ h => h) (.keep (fun _ _ h => h) (.keep (fun _ _ h => h) .nil)))) (sub_cons (.tmp rfl) (sub_cons (.tmp rfl) (sub_cons (.eq (.tmp rfl) (by first | rfl | (congr 3; omega) | (congr 2; omega))) (sub_nil)))))
    intro bb hj5
    have hbb := hj5
    refine JC.seq (JC.region ?_)
    refine J.m (.tmp rfl) rfl ?_
    refine J.o (ot_call fn27 (relation_c bb ) (.cons (.tmp rfl) .nil)) rfl ?_
    refine J.m (.tmp rfl) rfl ?_
    refine J.o (ot_extract (.tmp rfl) rfl) rfl ?_
    refine J.o (ot_extract (.tmp rfl) rfl) rfl ?_
    refine J.a (.tmp rfl) rfl ?_
    refine J.a (.tmp rfl) rfl ?_
    refine J.nil (JQ.then_normal (JC.seq (JC.region ?_)))
    refine J.m (.tmp rfl) rfl ?_
    refine J.o (ot_load_own_agg (.tmp rfl) (.tail _ (.tail _ (.head _))) ag28 (cTs_ldV (g := polT) (y := p) (polT_eq p).symm rfl)) rfl ?_
    refine J.o (ot_call fn14 (msign_c p hf np hcn hb hlen hne) (.cons (.tmp rfl) .nil)) rfl ?_
    refine J.o (ot_eqt (T' := tV encM (Mx.mk (2) ((relR bb).1) (msign p) ([]))) (ot_build (Ts := [tIs (.int .i64 (0)), tIs (.int .i64 (0)), tIs (.int .i64 (0)), tIs (.bool (false)), tSl encD ([]), tSl encP ([]), tSl encM ([])]) pl37 (fun _ => ⟨rfl, rfl, rfl, rfl, rfl, rfl, rfl, rfl, slP_nil _ _, rfl, slP_nil _ _, rfl, slP_nil _ _, rfl, trivial⟩) ((.one (off := 0) rfl .is (one_is rfl rfl) (Ts' := [tIs (.int .i64 (2)), tIs (.int .i64 (0)), tIs (.int .i64 (0)), tIs (.bool (false)), tSl encD ([]), tSl encP ([]), tSl encM ([])]) rfl rfl (.one (off := 1) rfl (.tmp rfl) (one_is rfl rfl) (Ts' := [tIs (.int .i64 (2)), tIs (.int .i64 ((relR bb).1)), tIs (.int .i64 (0)), tIs (.bool (false)), tSl encD ([]), tSl encP ([]), tSl encM ([])]) rfl rfl (.agg (off := 2) rfl (.eq (.tmp rfl) (tV_F (Ts := [tIs (.int .i64 ((msign p).lv)), tIs (.bool (((msign p).c).neg)), tSl encD (((msign p).c).abs), tSl encP ((msign p).cs)]) (polT_eq _))) (Ts' := [tIs (.int .i64 (2)), tIs (.int .i64 ((relR bb).1)), tIs (.int .i64 ((msign p).lv)), tIs (.bool (((msign p).c).neg)), tSl encD (((msign p).c).abs), tSl encP ((msign p).cs), tSl encM ([])]) rfl rfl .nil)))) rfl) (tV_F' (mxT_eq _))) rfl ?_
    refine J.store (.tmp rfl) (.eq (.tmp rfl) (tV_F (Ts := [tIs (.int .i64 (2)), tIs (.int .i64 ((relR bb).1)), tIs (.int .i64 ((msign p).lv)), tIs (.bool (((msign p).c).neg)), tSl encD (((msign p).c).abs), tSl encP ((msign p).cs), tSl encM ([])]) (mxT_eq _))) (.there .here) sz37 (st_agg (Ts' := [tIs (.int .i64 (2)), tIs (.int .i64 ((relR bb).1)), tIs (.int .i64 ((msign p).lv)), tIs (.bool (((msign p).c).neg)), tSl encD (((msign p).c).abs), tSl encP ((msign p).cs), tSl encM ([])]) (o := 0) rfl) ?_
    refine J.nil (JQ.then_normal (JC.ret ?_))
    exact JQ.ret1 rfl (.agg (.tmp rfl) (.tail _ (.head _)) ag37 (agg_eq (T := tV encM (Mx.mk (2) ((relR bb).1) (msign p) ([]))) (T' := tV encM (atomM p r)) (by rw [atomM, if_pos hlv, ← hbb]) (cTs_ldV (g := mxT) (y := (Mx.mk (2) ((relR bb).1) (msign p) ([]))) (mxT_eq (Mx.mk (2) ((relR bb).1) (msign p) ([]))).symm rfl)))

theorem sameInt_c (x : Z) (y : Z) (hlx : x.abs.length ≤ 1099511627776) (hly : y.abs.length ≤ 1099511627776) : Ctr Try.prog 32 [tV encI (x), tV encI (y)] (tIs (.bool (sameZ x y))) := by
  refine Ctr.of Try.func32 rfl Try.ntmps32 (Nat.le_of_ble_eq_true rfl) fun w0 M0 => ?_
  refine JC.seq (JC.region ?_)
  refine J.boxF (Ts := [tIs (.bool (x.neg)), tSl encD (x.abs)]) (.tmp rfl) rfl (ltN rfl) fun b2 => ?_
  refine J.boxF (Ts := [tIs (.bool (y.neg)), tSl encD (y.abs)]) (.tmp rfl) rfl (ltN rfl) fun b3 => ?_
  refine J.a .is rfl ?_
  refine J.nil (JQ.then_normal (JC.seq (JC.seq (JC.region ?_))))
  refine J.o (ot_fieldAddr_own (.tmp rfl) fd25_0) rfl ?_
  refine J.o (ot_load_own (.tmp rfl) (.tail _ (.head _)) sc4 (cTs_ld rfl)) rfl ?_
  refine J.o (ot_fieldAddr_own (.tmp rfl) fd25_0) rfl ?_
  refine J.o (ot_load_own (.tmp rfl) (.head _) sc4 (cTs_ld rfl)) rfl ?_
  refine J.o (ot_neqb (.tmp rfl) (.tmp rfl) un4) rfl ?_
  refine J.m (.tmp rfl) rfl ?_
  refine J.opg rfl rfl rfl (ltN rfl) (fun hg => ot_fieldAddr_own (.tmp rfl) fd25_1) rfl (ltN rfl) ?_
  refine J.opg rfl rfl rfl (ltN rfl) (fun hg => ot_load_own (.iff hg (.tmp rfl)) (.tail _ (.head _)) sc23 (cTs_ld rfl)) rfl (ltN rfl) ?_
  refine J.opg rfl rfl rfl (ltN rfl) (fun hg => ot_len (.iff hg (.tmp rfl)) sl23 rfl) rfl (ltN rfl) ?_
  refine J.opg rfl rfl rfl (ltN rfl) (fun hg => ot_fieldAddr_own (.tmp rfl) fd25_1) rfl (ltN rfl) ?_
  refine J.opg rfl rfl rfl (ltN rfl) (fun hg => ot_load_own (.iff hg (.tmp rfl)) (.head _) sc23 (cTs_ld rfl)) rfl (ltN rfl) ?_
  refine J.opg rfl rfl rfl (ltN rfl) (fun hg => ot_len (.iff hg (.tmp rfl)) sl23 rfl) rfl (ltN rfl) ?_
  refine J.opg rfl rfl rfl (ltN rfl) (fun hg => ot_neq (.iff hg (.tmp rfl)) (.iff hg (.tmp rfl))) rfl (ltN rfl) ?_
  refine J.o (ot_or2 (.tmp rfl) .is (.tmp rfl)) rfl ?_
  refine J.nil (JQ.then_normal ?_)
  refine JC.cond (.tmp rfl) (fun hc0 => ?_) (fun hc0 => ?_)
  · try simp only [bsx] at hc0
    have hs19 := hc0
    have hno : ¬ (x.neg = y.neg) ∨ ¬ x.abs.length = y.abs.length := by simpa [Int.ofNat_inj] using hc0
    refine JC.seq (JC.region ?_)
    refine J.a .is rfl ?_
    refine J.nil (JQ.then_normal (JC.ret (JQ.then_ret ?_)))
    exact JQ.ret1 rfl (.tmp (.eq (.tmp rfl) (by rw [sameZ_no hno])))
  · try simp only [bsx] at hc0
    have hs19 := hc0
    have hne : x.neg = y.neg ∧ x.abs.length = y.abs.length := by simpa [Int.ofNat_inj] using hc0
    refine JC.skip (JQ.then_normal (JC.seq (JC.seq (JC.region ?_))))
    refine J.o (ot_fieldAddr_own (.tmp rfl) fd25_1) rfl ?_
    refine J.o (ot_load_own (.tmp rfl) (.tail _ (.head _)) sc23 (cTs_ld rfl)) rfl ?_
    refine J.o (ot_len (.tmp rfl) sl23 rfl) rfl ?_
    refine J.m .is rfl ?_
    refine J.nil (JQ.then_normal (JC.block ?_))
    refine JC.loop (ι := Nat) (fun k => [(2, pOwn b2 (0)), (3, pOwn b3 (0)), (22, tIs (.int .i64 (((x.abs).length : Int)))), (23, tIs (.int .i64 (((k : Nat) : Int))))]) (fun k => [⟨b3, 25, cTs [tIs (.bool (y.neg)), tSl encD (y.abs)]⟩, ⟨b2, 25, cTs [tIs (.bool (x.neg)), tSl encD (x.abs)]⟩]) (fun k => k ≤ x.abs.length ∧ x.abs.take k = y.abs.take k) (fun k => x.abs.length - k) 0 ⟨by omega, by simp⟩ ?lsub0 ?round0
    case lsub0 => exact sub_trans (sub_heap (.keep (fun _ _ h => h) (.keep (fun _ _ h => h) .nil))) (sub_cons (.tmp rfl) (sub_cons (.tmp rfl) (sub_cons (.tmp rfl) (sub_cons (.eq (.tmp rfl) (by first | rfl | (congr 3; omega) | (congr 2; omega))) (sub_nil)))))
    intro k hinv
    obtain ⟨hk, ht⟩ := hinv
    refine JC.seq (JC.region ?_)
    refine J.o (ot_lss (.tmp rfl) (.tmp rfl)) rfl ?_
    refine J.nil (JQ.then_normal (JC.seq ?_))
    refine JC.cond (.tmp rfl) (fun hc1 => ?_) (fun hc1 => ?_)
    · try simp only [bsx] at hc1
      have hs24 := hc1
      refine JC.skip (JQ.then_normal (JC.seq (JC.block (JC.seq (JC.region ?_)))))
      refine J.m (.tmp rfl) rfl ?_
      refine J.a (.tmp rfl) rfl ?_
      refine J.nil (JQ.then_normal (JC.seq ?_))
      refine JC.draw (Γ' := ?g1) mo (by kernel_rfl) ?tw1 ?k1
      case tw1 =>
        refine TW.o (ot_fieldAddr_own (.tmp rfl) fd25_1) rfl ?_
        refine TW.o (ot_load_own (.tmp rfl) (.tail _ (.head _)) sc23 (cTs_ld rfl)) rfl ?_
        refine TW.m (.tmp rfl) rfl ?_
        refine TW.o (ot_index (z := x.abs.getD k 0) (.tmp rfl) (.tmp rfl) sl23 (by omega) (digAt (by omega) (by omega))) rfl ?_
        refine TW.o (ot_load (.tmp rfl) sc86 encD_ld) rfl ?_
        refine TW.o (ot_fieldAddr_own (.tmp rfl) fd25_1) rfl ?_
        refine TW.o (ot_load_own (.tmp rfl) (.head _) sc23 (cTs_ld rfl)) rfl ?_
        refine TW.m (.tmp rfl) rfl ?_
        refine TW.o (ot_index (z := y.abs.getD k 0) (.tmp rfl) (.tmp rfl) sl23 (by omega) (digAt (by omega) (by omega))) rfl ?_
        refine TW.o (ot_load (.tmp rfl) sc86 encD_ld) rfl ?_
        refine TW.o (ot_neq (.tmp rfl) (.tmp rfl)) rfl ?_
        exact TW.nil
      refine JQ.then_normal ?_
      refine JC.cond (.tmp rfl) (fun hc2 => ?_) (fun hc2 => ?_)
      · try simp only [bsx] at hc2
        have hs36 := hc2
        have hse : ¬ x.abs.getD k 0 = y.abs.getD k 0 := by omega
        refine JC.seq (JC.region ?_)
        refine J.a .is rfl ?_
        refine J.nil (JQ.then_normal (JC.ret (JQ.block_ret (JQ.then_ret (JQ.then_ret (JQ.block_ret (JQ.then_ret ?_)))))))
        exact JQ.ret1 rfl (.tmp (.eq (.tmp rfl) (by rw [sameZ_at hse])))
      · try simp only [bsx] at hc2
        have hs36 := hc2
        have hse : x.abs.getD k 0 = y.abs.getD k 0 := by omega
        refine JC.skip (JQ.block_normal (JQ.then_normal (JC.region ?_)))
        refine J.o (ot_add (.tmp rfl) .is (w64 (by omega) (by omega))) rfl ?_
        refine J.m (.tmp rfl) rfl ?_
        refine J.nil ?_
        exact JQ.round (k + 1) ⟨by omega, take_stepN ht (by omega) (by omega) hse⟩ (by omega) (sub_trans (sub_heap (.keep (fun _ _ h => h) (.keep (fun _ _ h => h) .nil))) (sub_cons (.tmp rfl) (sub_cons (.tmp rfl) (sub_cons (.tmp rfl) (sub_cons (.eq (.tmp rfl) (by first | rfl | (congr 3; omega) | (congr 2; omega))) (sub_nil))))))
    · try simp only [bsx] at hc1
      have hs24 := hc1
      refine JC.exit (JQ.then_exit (JQ.then_exit (JQ.block_exit (JQ.then_normal (JC.seq (JC.region ?_))))))
      refine J.a .is rfl ?_
      refine J.nil (JQ.then_normal (JC.ret ?_))
      exact JQ.ret1 rfl (.tmp (.eq (.tmp rfl) (by rw [sameZ_yes hne (by omega) ht])))

theorem samePoly_c {B D : Nat} (p q : Pol) (hf : Fit B p) (hg : Fit D q) (hb : B ≤ 1000000000000 ∧ D ≤ 1000000000000) : Ctr Try.prog 13 [tV encP (p), tV encP (q)] (tIs (.bool (sameB p q))) := by
  induction p using Pol.ind generalizing q
  rename_i p ih
  have hc := hf.c
  have hcs := hf.cs
  have hc2 := hg.c
  have hcs2 := hg.cs
  refine Ctr.of Try.func13 rfl Try.ntmps13 (Nat.le_of_ble_eq_true rfl) fun w0 M0 => ?_
  refine JC.seq (JC.region ?_)
  refine J.boxF (Ts := [tIs (.int .i64 (p.lv)), tIs (.bool (p.c.neg)), tSl encD (p.c.abs), tSl encP (p.cs)]) (.tmp rfl) (polT_eq _) (ltN rfl) fun b2 => ?_
  refine J.boxF (Ts := [tIs (.int .i64 (q.lv)), tIs (.bool (q.c.neg)), tSl encD (q.c.abs), tSl encP (q.cs)]) (.tmp rfl) (polT_eq _) (ltN rfl) fun b3 => ?_
  refine J.a .is rfl ?_
  refine J.nil (JQ.then_normal (JC.seq (JC.seq (JC.region ?_))))
  refine J.o (ot_fieldAddr_own (.tmp rfl) fd28_0) rfl ?_
  refine J.o (ot_load_own (.tmp rfl) (.tail _ (.head _)) sc3 (cTs_ld rfl)) rfl ?_
  refine J.o (ot_fieldAddr_own (.tmp rfl) fd28_0) rfl ?_
  refine J.o (ot_load_own (.tmp rfl) (.head _) sc3 (cTs_ld rfl)) rfl ?_
  refine J.o (ot_neq (.tmp rfl) (.tmp rfl)) rfl ?_
  refine J.m (.tmp rfl) rfl ?_
  refine J.opg rfl rfl rfl (ltN rfl) (fun hg => ot_fieldAddr_own (.tmp rfl) fd28_2) rfl (ltN rfl) ?_
  refine J.opg rfl rfl rfl (ltN rfl) (fun hg => ot_load_own (.iff hg (.tmp rfl)) (.tail _ (.head _)) sc26 (cTs_ld rfl)) rfl (ltN rfl) ?_
  refine J.opg rfl rfl rfl (ltN rfl) (fun hg => ot_len (.iff hg (.tmp rfl)) sl26 rfl) rfl (ltN rfl) ?_
  refine J.opg rfl rfl rfl (ltN rfl) (fun hg => ot_fieldAddr_own (.tmp rfl) fd28_2) rfl (ltN rfl) ?_
  refine J.opg rfl rfl rfl (ltN rfl) (fun hg => ot_load_own (.iff hg (.tmp rfl)) (.head _) sc26 (cTs_ld rfl)) rfl (ltN rfl) ?_
  refine J.opg rfl rfl rfl (ltN rfl) (fun hg => ot_len (.iff hg (.tmp rfl)) sl26 rfl) rfl (ltN rfl) ?_
  refine J.opg rfl rfl rfl (ltN rfl) (fun hg => ot_neq (.iff hg (.tmp rfl)) (.iff hg (.tmp rfl))) rfl (ltN rfl) ?_
  refine J.o (ot_or2 (.tmp rfl) .is (.tmp rfl)) rfl ?_
  refine J.m (.tmp rfl) rfl ?_
  refine J.opg rfl rfl rfl (ltN rfl) (fun hg => ot_fieldAddr_own (.tmp rfl) fd28_1) rfl (ltN rfl) ?_
  refine J.opg rfl rfl rfl (ltN rfl) (fun hg => ot_load_own_agg (.iff hg (.tmp rfl)) (.tail _ (.head _)) ag25 (cTs_ldV (g := zT) (y := p.c) rfl rfl)) rfl (ltN rfl) ?_
  refine J.opg rfl rfl rfl (ltN rfl) (fun hg => ot_fieldAddr_own (.tmp rfl) fd28_1) rfl (ltN rfl) ?_
  refine J.opg rfl rfl rfl (ltN rfl) (fun hg => ot_load_own_agg (.iff hg (.tmp rfl)) (.head _) ag25 (cTs_ldV (g := zT) (y := q.c) rfl rfl)) rfl (ltN rfl) ?_
  refine J.opg rfl rfl rfl (ltN rfl) (fun hg => (by have hg' := hg; (try simp only [bsx] at hg'); exact ot_call fn32 (sameInt_c p.c q.c (by omega) (by omega)) (.cons (.iff hg (.tmp rfl)) (.cons (.iff hg (.tmp rfl)) .nil)))) rfl (ltN rfl) ?_
  refine J.opg rfl rfl rfl (ltN rfl) (fun hg => ot_not (.iff hg (.tmp rfl))) rfl (ltN rfl) ?_
  refine J.o (ot_or2 (.tmp rfl) .is (.tmp rfl)) rfl ?_
  refine J.nil (JQ.then_normal ?_)
  refine JC.cond (.tmp rfl) (fun hc0 => ?_) (fun hc0 => ?_)
  · try simp only [bsx] at hc0
    have hs27 := hc0
    have hno : (¬ p.lv = q.lv ∨ ¬ p.cs.length = q.cs.length) ∨ sameZ p.c q.c = false := by simpa [Int.ofNat_inj] using hc0
    refine JC.seq (JC.region ?_)
    refine J.a .is rfl ?_
    refine J.nil (JQ.then_normal (JC.ret (JQ.then_ret ?_)))
    exact JQ.ret1 rfl (.tmp (.eq (.tmp rfl) (by rw [sameB_no hno])))
  · try simp only [bsx] at hc0
    have hs27 := hc0
    have hne : (p.lv = q.lv ∧ p.cs.length = q.cs.length) ∧ sameZ p.c q.c = true := by simpa [Int.ofNat_inj] using hc0
    refine JC.skip (JQ.then_normal (JC.seq (JC.seq (JC.region ?_))))
    refine J.o (ot_fieldAddr_own (.tmp rfl) fd28_2) rfl ?_
    refine J.o (ot_load_own (.tmp rfl) (.tail _ (.head _)) sc26 (cTs_ld rfl)) rfl ?_
    refine J.o (ot_len (.tmp rfl) sl26 rfl) rfl ?_
    refine J.m .is rfl ?_
    refine J.nil (JQ.then_normal (JC.block ?_))
    refine JC.loop (ι := Nat) (fun k => [(2, pOwn b2 (0)), (3, pOwn b3 (0)), (30, tIs (.int .i64 (((p.cs).length : Int)))), (31, tIs (.int .i64 (((k : Nat) : Int))))]) (fun k => [⟨b3, 28, cTs [tIs (.int .i64 (q.lv)), tIs (.bool (q.c.neg)), tSl encD (q.c.abs), tSl encP (q.cs)]⟩, ⟨b2, 28, cTs [tIs (.int .i64 (p.lv)), tIs (.bool (p.c.neg)), tSl encD (p.c.abs), tSl encP (p.cs)]⟩]) (fun k => k ≤ p.cs.length ∧ p.cs.take k = q.cs.take k) (fun k => p.cs.length - k) 0 ⟨by omega, by simp⟩ ?lsub0 ?round0
    case lsub0 => exact sub_trans (sub_heap (.keep (fun _ _ h => h) (.keep (fun _ _ h => h) .nil))) (sub_cons (.tmp rfl) (sub_cons (.tmp rfl) (sub_cons (.tmp rfl) (sub_cons (.eq (.tmp rfl) (by first | rfl | (congr 3; omega) | (congr 2; omega))) (sub_nil)))))
    intro k hinv
    obtain ⟨hk, ht⟩ := hinv
    refine JC.seq (JC.region ?_)
    refine J.o (ot_lss (.tmp rfl) (.tmp rfl)) rfl ?_
    refine J.nil (JQ.then_normal (JC.seq ?_))
    refine JC.cond (.tmp rfl) (fun hc1 => ?_) (fun hc1 => ?_)
    · try simp only [bsx] at hc1
      have hs32 := hc1
      refine JC.skip (JQ.then_normal (JC.seq (JC.block (JC.seq (JC.region ?_)))))
      refine J.m (.tmp rfl) rfl ?_
      refine J.a (.tmp rfl) rfl ?_
      refine J.nil (JQ.then_normal (JC.seq ?_))
      refine JC.draw (Γ' := ?g1) mo (by kernel_rfl) ?tw1 ?k1
      case tw1 =>
        refine TW.o (ot_fieldAddr_own (.tmp rfl) fd28_2) rfl ?_
        refine TW.o (ot_load_own (.tmp rfl) (.tail _ (.head _)) sc26 (cTs_ld rfl)) rfl ?_
        refine TW.m (.tmp rfl) rfl ?_
        refine TW.o (ot_index (z := atP p.cs k) (.tmp rfl) (.tmp rfl) sl26 (by omega) (atP_at (by omega) (by omega))) rfl ?_
        refine TW.o (ot_load_agg (.tmp rfl) ag28 ldp_whole) rfl ?_
        refine TW.o (ot_fieldAddr_own (.tmp rfl) fd28_2) rfl ?_
        refine TW.o (ot_load_own (.tmp rfl) (.head _) sc26 (cTs_ld rfl)) rfl ?_
        refine TW.m (.tmp rfl) rfl ?_
        refine TW.o (ot_index (z := atP q.cs k) (.tmp rfl) (.tmp rfl) sl26 (by omega) (atP_at (by omega) (by omega))) rfl ?_
        refine TW.o (ot_load_agg (.tmp rfl) ag28 ldp_whole) rfl ?_
        refine TW.o (ot_call fn13 (ih (atP p.cs k) (atP_mem (by omega)) (atP q.cs k) (hf.at (by omega)) (hg.at (by omega))) (.cons (.tmp rfl) (.cons (.tmp rfl) .nil))) rfl ?_
        refine TW.o (ot_not (.tmp rfl)) rfl ?_
        exact TW.nil
      refine JQ.then_normal ?_
      refine JC.cond (.tmp rfl) (fun hc2 => ?_) (fun hc2 => ?_)
      · try simp only [bsx] at hc2
        have hs45 := hc2
        refine JC.seq (JC.region ?_)
        refine J.a .is rfl ?_
        refine J.nil (JQ.then_normal (JC.ret (JQ.block_ret (JQ.then_ret (JQ.then_ret (JQ.block_ret (JQ.then_ret ?_)))))))
        exact JQ.ret1 rfl (.tmp (.eq (.tmp rfl) (by rw [sameB_at (k := k) (by simpa using hs45)])))
      · try simp only [bsx] at hc2
        have hs45 := hc2
        refine JC.skip (JQ.block_normal (JQ.then_normal (JC.region ?_)))
        refine J.o (ot_add (.tmp rfl) .is (w64 (by omega) (by omega))) rfl ?_
        refine J.m (.tmp rfl) rfl ?_
        refine J.nil ?_
        exact JQ.round (k + 1) ⟨by omega, take_stepP ht (by omega) (by omega) (by simpa using hs45)⟩ (by omega) (sub_trans (sub_heap (.keep (fun _ _ h => h) (.keep (fun _ _ h => h) .nil))) (sub_cons (.tmp rfl) (sub_cons (.tmp rfl) (sub_cons (.tmp rfl) (sub_cons (.eq (.tmp rfl) (by first | rfl | (congr 3; omega) | (congr 2; omega))) (sub_nil))))))
    · try simp only [bsx] at hc1
      have hs32 := hc1
      refine JC.exit (JQ.then_exit (JQ.then_exit (JQ.block_exit (JQ.then_normal (JC.seq (JC.region ?_))))))
      refine J.a .is rfl ?_
      refine J.nil (JQ.then_normal (JC.ret ?_))
      exact JQ.ret1 rfl (.tmp (.eq (.tmp rfl) (by rw [sameB_yes hne (by omega) ht])))

theorem room_c (p : Pol) (n d g : Int) (hn : 0 ≤ n ∧ n ≤ 1000000000) (hd : 0 ≤ d ∧ d ≤ 1000000000) : Ctr Try.prog 21 [tV encP (p), tIs (.int .i64 (n)), tIs (.int .i64 (d)), tIs (.int .i64 (g))] (tIs (.int .i64 (roomR g (d).toNat p n))) := by
  obtain ⟨m, hm⟩ : ∃ m, m = d.toNat := ⟨_, rfl⟩
  induction m using Nat.strongRecOn generalizing p n d
  rename_i m ih
  refine Ctr.of Try.func21 rfl Try.ntmps21 (Nat.le_of_ble_eq_true rfl) fun w0 M0 => ?_
  refine JC.seq (JC.region ?_)
  refine J.boxF (Ts := [tIs (.int .i64 (p.lv)), tIs (.bool (p.c.neg)), tSl encD (p.c.abs), tSl encP (p.cs)]) (.tmp rfl) (polT_eq _) (ltN rfl) fun b4 => ?_
  refine J.a .is rfl ?_
  refine J.nil (JQ.then_normal (JC.seq (JC.region ?_)))
  refine J.m (.tmp rfl) rfl ?_
  refine J.o (ot_sub (.tmp rfl) .is (w64 (by omega) (by omega))) rfl ?_
  refine J.a (.tmp rfl) rfl ?_
  refine J.nil (JQ.then_normal (JC.seq (JC.seq (JC.region ?_))))
  refine J.m (.tmp rfl) rfl ?_
  refine J.o (ot_eql (.tmp rfl) .is) rfl ?_
  refine J.m (.tmp rfl) rfl ?_
  refine J.opg rfl rfl rfl (ltN rfl) (fun hg => ot_fieldAddr_own (.tmp rfl) fd28_1) rfl (ltN rfl) ?_
  refine J.opg rfl rfl rfl (ltN rfl) (fun hg => ot_fieldAddr_own (.iff hg (.tmp rfl)) fd25_1) rfl (ltN rfl) ?_
  refine J.opg rfl rfl rfl (ltN rfl) (fun hg => ot_load_own (.iff hg (.tmp rfl)) (.head _) sc23 (cTs_ld rfl)) rfl (ltN rfl) ?_
  refine J.opg rfl rfl rfl (ltN rfl) (fun hg => ot_len (.iff hg (.tmp rfl)) sl23 rfl) rfl (ltN rfl) ?_
  refine J.opg rfl rfl rfl (ltN rfl) (fun hg => ot_move (.tmp rfl)) rfl (ltN rfl) ?_
  refine J.opg rfl rfl rfl (ltN rfl) (fun hg => ot_gtr (.iff hg (.tmp rfl)) (.iff hg (.tmp rfl))) rfl (ltN rfl) ?_
  refine J.o (ot_or2 (.tmp rfl) .is (.tmp rfl)) rfl ?_
  refine J.m (.tmp rfl) rfl ?_
  refine J.opg rfl rfl rfl (ltN rfl) (fun hg => ot_fieldAddr_own (.tmp rfl) fd28_2) rfl (ltN rfl) ?_
  refine J.opg rfl rfl rfl (ltN rfl) (fun hg => ot_load_own (.iff hg (.tmp rfl)) (.head _) sc26 (cTs_ld rfl)) rfl (ltN rfl) ?_
  refine J.opg rfl rfl rfl (ltN rfl) (fun hg => ot_len (.iff hg (.tmp rfl)) sl26 rfl) rfl (ltN rfl) ?_
  refine J.opg rfl rfl rfl (ltN rfl) (fun hg => ot_gtr (.iff hg (.tmp rfl)) .is) rfl (ltN rfl) ?_
  refine J.o (ot_or2 (.tmp rfl) .is (.tmp rfl)) rfl ?_
  refine J.nil (JQ.then_normal ?_)
  refine JC.cond (.tmp rfl) (fun hc0 => ?_) (fun hc0 => ?_)
  · try simp only [bsx] at hc0
    have hs27 := hc0
    have hbig : d = 0 ∨ (g < (p.c.abs.length : Int) ∨ 12 < p.cs.length) := by rcases hc0 with (h | h) | h; exact .inl (by omega); exact .inr (.inl (by omega)); exact .inr (.inr (by omega))
    refine JC.seq (JC.region ?_)
    refine J.a .is rfl ?_
    refine J.nil (JQ.then_normal (JC.ret (JQ.then_ret ?_)))
    exact JQ.ret1 rfl (.tmp (.eq (.tmp rfl) (by rcases hbig with h | h; rw [roomR_0 (d := d.toNat) (by omega)]; rw [roomR_big (d := d.toNat) h])))
  · try simp only [bsx] at hc0
    have hs27 := hc0
    have hgo : ¬ (g < (p.c.abs.length : Int) ∨ 12 < p.cs.length) := by omega
    obtain ⟨e, he⟩ : ∃ e, d.toNat = e + 1 := ⟨d.toNat - 1, by omega⟩
    have hbd : ∀ q c, -1 ≤ c → _ := fun q c h => room_bound (g := g) e q c h
    refine JC.skip (JQ.then_normal (JC.seq (JC.seq (JC.region ?_))))
    refine J.o (ot_fieldAddr_own (.tmp rfl) fd28_2) rfl ?_
    refine J.o (ot_load_own (.tmp rfl) (.head _) sc26 (cTs_ld rfl)) rfl ?_
    refine J.o (ot_len (.tmp rfl) sl26 rfl) rfl ?_
    refine J.m .is rfl ?_
    refine J.nil (JQ.then_normal (JC.block ?_))
    refine JC.loop2 (α := Nat) (β := Int) (fun k c => [(1, tIs (.int .i64 (c))), (2, tIs (.int .i64 (d))), (3, tIs (.int .i64 (g))), (4, pOwn b4 (0)), (30, tIs (.int .i64 (((p.cs).length : Int)))), (31, tIs (.int .i64 (((k : Nat) : Int))))]) (fun k c => [⟨b4, 28, cTs [tIs (.int .i64 (p.lv)), tIs (.bool (p.c.neg)), tSl encD (p.c.abs), tSl encP (p.cs)]⟩]) (fun k c => k ≤ p.cs.length ∧ (-1 ≤ c ∧ c ≤ 1000000000) ∧ roomL g e (p.cs.drop k) c = roomR g d.toNat p n) (fun k c => p.cs.length - k) 0 (n - 1) ⟨by omega, ⟨by omega, by omega⟩, by rw [he, roomR_go hgo]; rfl⟩ ?lsub0 ?round0
    case lsub0 => exact sub_trans (sub_heap (.keep (fun _ _ h => h) .nil)) (sub_cons (.eq (.tmp rfl) (by first | rfl | (congr 3; omega) | (congr 2; omega))) (sub_cons (.tmp rfl) (sub_cons (.tmp rfl) (sub_cons (.tmp rfl) (sub_cons (.tmp rfl) (sub_cons (.eq (.tmp rfl) (by first | rfl | (congr 3; omega) | (congr 2; omega))) (sub_nil)))))))
    intro k c hinv
    obtain ⟨hk, hcb, hv⟩ := hinv
    refine JC.seq (JC.region ?_)
    refine J.o (ot_lss (.tmp rfl) (.tmp rfl)) rfl ?_
    refine J.nil (JQ.then_normal (JC.seq ?_))
    refine JC.cond (.tmp rfl) (fun hc1 => ?_) (fun hc1 => ?_)
    · try simp only [bsx] at hc1
      have hs32 := hc1
      refine JC.skip (JQ.then_normal (JC.seq (JC.block (JC.seq (JC.region ?_)))))
      refine J.m (.tmp rfl) rfl ?_
      refine J.a (.tmp rfl) rfl ?_
      refine J.nil (JQ.then_normal (JC.seq (JC.seq (JC.region ?_))))
      refine J.m (.tmp rfl) rfl ?_
      refine J.o (ot_lss (.tmp rfl) .is) rfl ?_
      refine J.nil (JQ.then_normal ?_)
      refine JC.cond (.tmp rfl) (fun hc2 => ?_) (fun hc2 => ?_)
      · try simp only [bsx] at hc2
        have hs35 := hc2
        refine JC.seq (JC.region ?_)
        refine J.a .is rfl ?_
        refine J.nil (JQ.then_normal (JC.ret (JQ.then_ret (JQ.block_ret (JQ.then_ret (JQ.then_ret (JQ.block_ret (JQ.then_ret ?_))))))))
        exact JQ.ret1 rfl (.tmp (.eq (.tmp rfl) (by rw [← hv, ← roomL_neg (by omega) (by omega)])))
      · try simp only [bsx] at hc2
        have hs35 := hc2
        refine JC.skip (JQ.then_normal (JC.region ?_))
        refine J.o (ot_fieldAddr_own (.tmp rfl) fd28_2) rfl ?_
        refine J.o (ot_load_own (.tmp rfl) (.head _) sc26 (cTs_ld rfl)) rfl ?_
        refine J.m (.tmp rfl) rfl ?_
        refine J.o (ot_index (z := atP p.cs k) (.tmp rfl) (.tmp rfl) sl26 (by omega) (atP_at (by omega) (by omega))) rfl ?_
        refine J.o (ot_load_agg (.tmp rfl) ag28 ldp_whole) rfl ?_
        refine J.m (.tmp rfl) rfl ?_
        refine J.m (.tmp rfl) rfl ?_
        refine J.o (ot_sub (.tmp rfl) .is (w64 (by omega) (by omega))) rfl ?_
        refine J.m (.tmp rfl) rfl ?_
        refine J.o (ot_call fn21 (ih (d.toNat - 1) (by omega) (atP p.cs k) c (d - 1) ⟨by omega, by omega⟩ ⟨by omega, by omega⟩ (by omega)) (.cons (.tmp rfl) (.cons (.tmp rfl) (.cons (.tmp rfl) (.cons (.tmp rfl) .nil))))) rfl ?_
        refine J.a (.tmp rfl) rfl ?_
        refine J.nil (JQ.block_normal (JQ.then_normal (JC.region ?_)))
        refine J.o (ot_add (.tmp rfl) .is (w64 (by omega) (by omega))) rfl ?_
        refine J.m (.tmp rfl) rfl ?_
        refine J.nil ?_
        exact JQ.round2 (i := k) (i2 := c) (k + 1) (roomR g (d - 1).toNat (atP p.cs k) c) ⟨by omega, by have := hbd (atP p.cs k) (c - 1) (by omega); rw [show c - 1 + 1 = c by omega] at this; rw [show (d - 1).toNat = e by omega]; omega, by rw [← hv, show (d - 1).toNat = e by omega]; exact roomL_drop (by omega) (by omega)⟩ (by omega) (sub_trans (sub_heap (.keep (fun _ _ h => h) .nil)) (sub_cons (.eq (.tmp rfl) (by first | rfl | (congr 3; omega) | (congr 2; omega))) (sub_cons (.tmp rfl) (sub_cons (.tmp rfl) (sub_cons (.tmp rfl) (sub_cons (.tmp rfl) (sub_cons (.eq (.tmp rfl) (by first | rfl | (congr 3; omega) | (congr 2; omega))) (sub_nil))))))))
    · try simp only [bsx] at hc1
      have hs32 := hc1
      refine JC.exit (JQ.then_exit (JQ.then_exit (JQ.block_exit (JQ.then_normal (JC.seq (JC.region ?_))))))
      refine J.m (.tmp rfl) rfl ?_
      refine J.a (.tmp rfl) rfl ?_
      refine J.nil (JQ.then_normal (JC.ret ?_))
      exact JQ.ret1 rfl (.tmp (.eq (.tmp rfl) (by rw [← hv, ← roomL_end (by omega)])))

theorem fewPoly_c (p : Pol) (n g : Int) (hn : 0 ≤ n ∧ n ≤ 1000000000) : Ctr Try.prog 6 [tV encP (p), tIs (.int .i64 (n)), tIs (.int .i64 (g))] (tIs (.bool (decide (0 ≤ roomR g 6 p n)))) := by
  refine Ctr.of Try.func6 rfl Try.ntmps6 (Nat.le_of_ble_eq_true rfl) fun w0 M0 => ?_
  refine JC.seq (JC.region ?_)
  refine J.boxF (Ts := [tIs (.int .i64 (p.lv)), tIs (.bool (p.c.neg)), tSl encD (p.c.abs), tSl encP (p.cs)]) (.tmp rfl) (polT_eq _) (ltN rfl) fun b3 => ?_
  refine J.a .is rfl ?_
  refine J.nil (JQ.then_normal (JC.seq (JC.region ?_)))
  refine J.o (ot_load_own_agg (.tmp rfl) (.head _) ag28 (cTs_ldV (g := polT) (y := p) (polT_eq p).symm rfl)) rfl ?_
  refine J.m (.tmp rfl) rfl ?_
  refine J.m (.tmp rfl) rfl ?_
  refine J.o (ot_call fn21 (room_c p n 6 g ⟨by omega, by omega⟩ ⟨by omega, by omega⟩) (.cons (.tmp rfl) (.cons (.tmp rfl) (.cons .is (.cons (.tmp rfl) .nil))))) rfl ?_
  refine J.o (ot_geq (.tmp rfl) .is) rfl ?_
  refine J.a (.tmp rfl) rfl ?_
  refine J.nil (JQ.then_normal (JC.ret ?_))
  exact JQ.ret1 rfl (.tmp (.eq (.tmp rfl) (by rfl)))

theorem refNormA_c {B : Nat} (p : Pol) (r : Int) (hf : Fit B p) (np : nrm p < B32 ^ B) (hcn : cnt p ≤ 1000000000) (hb : B ≤ 1000000000) : Ctr Try.prog 9 [tV encM (Mx.mk (2) (r) (p) ([]))] (tV encM (Mx.mk (2) (relN r) (normN p) ([]))) := by
  refine Ctr.of Try.func9 rfl Try.ntmps9 (Nat.le_of_ble_eq_true rfl) fun w0 M0 => ?_
  refine JC.seq (JC.region ?_)
  refine J.boxF (Ts := [tIs (.int .i64 (2)), tIs (.int .i64 (r)), tIs (.int .i64 (p.lv)), tIs (.bool (p.c.neg)), tSl encD (p.c.abs), tSl encP (p.cs), tSl encM ([])]) (.tmp rfl) (mxT_eq _) (ltN rfl) fun b1 => ?_
  refine J.alloc (R := cTs [tIs (.int .i64 (0)), tIs (.int .i64 (0)), tIs (.int .i64 (0)), tIs (.bool (false)), tSl encD ([]), tSl encP ([]), tSl encM ([])]) zr37 (fun _ => ⟨rfl, rfl, rfl, rfl, rfl, rfl, rfl, rfl, slP_nil _ _, rfl, slP_nil _ _, rfl, slP_nil _ _, rfl, trivial⟩) (ltN rfl) fun b2 => ?_
  refine J.nil (JQ.then_normal (JC.seq (JC.seq (JC.region ?_))))
  refine J.o (ot_fieldAddr_own (.tmp rfl) fd37_0) rfl ?_
  refine J.o (ot_load_own (.tmp rfl) (.tail _ (.head _)) sc3 (cTs_ld rfl)) rfl ?_
  refine J.nil (JQ.then_normal (JC.block (JC.seq (JC.region ?_))))
  refine J.o (ot_eql (.tmp rfl) .is) rfl ?_
  refine J.a (.tmp rfl) rfl ?_
  refine J.nil (JQ.then_normal ?_)
  refine JC.cond_false (.eq (.tmp rfl) (by rfl)) ?_
  refine JC.seq (JC.region ?_)
  refine J.o (ot_eql (.tmp rfl) .is) rfl ?_
  refine J.a (.tmp rfl) rfl ?_
  refine J.nil (JQ.then_normal ?_)
  refine JC.cond_true (.eq (.tmp rfl) (by rfl)) ?_
  refine JC.seq (JC.region ?_)
  refine J.o (ot_fieldAddr_own (.tmp rfl) fd37_1) rfl ?_
  refine J.o (ot_load_own (.tmp rfl) (.tail _ (.head _)) sc34 (cTs_ld rfl)) rfl ?_
  refine J.a (.tmp rfl) rfl ?_
  refine J.nil (JQ.then_normal (JC.seq (JC.seq (JC.region ?_))))
  refine J.m (.tmp rfl) rfl ?_
  refine J.o (ot_lss (.tmp rfl) .is) rfl ?_
  refine J.m (.tmp rfl) rfl ?_
  refine J.opg rfl rfl rfl (ltN rfl) (fun hg => ot_move (.tmp rfl)) rfl (ltN rfl) ?_
  refine J.opg rfl rfl rfl (ltN rfl) (fun hg => ot_gtr (.iff hg (.tmp rfl)) .is) rfl (ltN rfl) ?_
  refine J.o (ot_or2 (.tmp rfl) .is (.tmp rfl)) rfl ?_
  refine J.nil (JQ.then_normal ?_)
  refine JC.cond (.tmp rfl) (fun hc2 => ?_) (fun hc2 => ?_)
  · try simp only [bsx] at hc2
    have hs20 := hc2
    refine JC.region ?_
    refine J.a .is rfl ?_
    refine J.nil (JQ.then_normal (JC.seq (JC.region ?_)))
    refine J.m (.tmp rfl) rfl ?_
    refine J.o (ot_fieldAddr_own (.tmp rfl) fd37_2) rfl ?_
    refine J.o (ot_load_own_agg (.tmp rfl) (.tail _ (.head _)) ag28 (cTs_ldV (g := polT) (y := p) (polT_eq p).symm rfl)) rfl ?_
    refine J.o (ot_call fn29 (rnormalG_c p (by assumption) (by assumption) (by assumption) (by assumption)) (.cons (.tmp rfl) .nil)) rfl ?_
    refine J.o (ot_eqt (T' := tV encM (Mx.mk (2) (3) (normN p) ([]))) (ot_build (Ts := [tIs (.int .i64 (0)), tIs (.int .i64 (0)), tIs (.int .i64 (0)), tIs (.bool (false)), tSl encD ([]), tSl encP ([]), tSl encM ([])]) pl37 (fun _ => ⟨rfl, rfl, rfl, rfl, rfl, rfl, rfl, rfl, slP_nil _ _, rfl, slP_nil _ _, rfl, slP_nil _ _, rfl, trivial⟩) ((.one (off := 0) rfl .is (one_is rfl rfl) (Ts' := [tIs (.int .i64 (2)), tIs (.int .i64 (0)), tIs (.int .i64 (0)), tIs (.bool (false)), tSl encD ([]), tSl encP ([]), tSl encM ([])]) rfl rfl (.one (off := 1) rfl (.tmp rfl) (one_is rfl rfl) (Ts' := [tIs (.int .i64 (2)), tIs (.int .i64 (3)), tIs (.int .i64 (0)), tIs (.bool (false)), tSl encD ([]), tSl encP ([]), tSl encM ([])]) rfl rfl (.agg (off := 2) rfl (.eq (.tmp rfl) (tV_F (Ts := [tIs (.int .i64 ((normN p).lv)), tIs (.bool (((normN p).c).neg)), tSl encD (((normN p).c).abs), tSl encP ((normN p).cs)]) (polT_eq _))) (Ts' := [tIs (.int .i64 (2)), tIs (.int .i64 (3)), tIs (.int .i64 ((normN p).lv)), tIs (.bool (((normN p).c).neg)), tSl encD (((normN p).c).abs), tSl encP ((normN p).cs), tSl encM ([])]) rfl rfl .nil)))) rfl) (tV_F' (mxT_eq _))) rfl ?_
    refine J.store (.tmp rfl) (.eq (.tmp rfl) (tV_F (Ts := [tIs (.int .i64 (2)), tIs (.int .i64 (3)), tIs (.int .i64 ((normN p).lv)), tIs (.bool (((normN p).c).neg)), tSl encD (((normN p).c).abs), tSl encP ((normN p).cs), tSl encM ([])]) (mxT_eq _))) .here sz37 (st_agg (Ts' := [tIs (.int .i64 (2)), tIs (.int .i64 (3)), tIs (.int .i64 ((normN p).lv)), tIs (.bool (((normN p).c).neg)), tSl encD (((normN p).c).abs), tSl encP ((normN p).cs), tSl encM ([])]) (o := 0) rfl) ?_
    refine J.nil (JQ.then_normal (JC.ret (JQ.block_ret (JQ.then_ret ?_))))
    exact JQ.ret1 rfl (.agg (.tmp rfl) (.head _) ag37 (agg_eq (T := tV encM (Mx.mk (2) (3) (normN p) ([]))) (T' := tV encM (Mx.mk (2) (relN r) (normN p) ([]))) (by rw [relN, if_pos (by omega)]) (cTs_ldV (g := mxT) (y := (Mx.mk (2) (3) (normN p) ([]))) (mxT_eq (Mx.mk (2) (3) (normN p) ([]))).symm rfl)))
  · try simp only [bsx] at hc2
    have hs20 := hc2
    refine JC.skip (JQ.then_normal (JC.seq (JC.region ?_)))
    refine J.m (.tmp rfl) rfl ?_
    refine J.o (ot_fieldAddr_own (.tmp rfl) fd37_2) rfl ?_
    refine J.o (ot_load_own_agg (.tmp rfl) (.tail _ (.head _)) ag28 (cTs_ldV (g := polT) (y := p) (polT_eq p).symm rfl)) rfl ?_
    refine J.o (ot_call fn29 (rnormalG_c p (by assumption) (by assumption) (by assumption) (by assumption)) (.cons (.tmp rfl) .nil)) rfl ?_
    refine J.o (ot_eqt (T' := tV encM (Mx.mk (2) (r) (normN p) ([]))) (ot_build (Ts := [tIs (.int .i64 (0)), tIs (.int .i64 (0)), tIs (.int .i64 (0)), tIs (.bool (false)), tSl encD ([]), tSl encP ([]), tSl encM ([])]) pl37 (fun _ => ⟨rfl, rfl, rfl, rfl, rfl, rfl, rfl, rfl, slP_nil _ _, rfl, slP_nil _ _, rfl, slP_nil _ _, rfl, trivial⟩) ((.one (off := 0) rfl .is (one_is rfl rfl) (Ts' := [tIs (.int .i64 (2)), tIs (.int .i64 (0)), tIs (.int .i64 (0)), tIs (.bool (false)), tSl encD ([]), tSl encP ([]), tSl encM ([])]) rfl rfl (.one (off := 1) rfl (.tmp rfl) (one_is rfl rfl) (Ts' := [tIs (.int .i64 (2)), tIs (.int .i64 (r)), tIs (.int .i64 (0)), tIs (.bool (false)), tSl encD ([]), tSl encP ([]), tSl encM ([])]) rfl rfl (.agg (off := 2) rfl (.eq (.tmp rfl) (tV_F (Ts := [tIs (.int .i64 ((normN p).lv)), tIs (.bool (((normN p).c).neg)), tSl encD (((normN p).c).abs), tSl encP ((normN p).cs)]) (polT_eq _))) (Ts' := [tIs (.int .i64 (2)), tIs (.int .i64 (r)), tIs (.int .i64 ((normN p).lv)), tIs (.bool (((normN p).c).neg)), tSl encD (((normN p).c).abs), tSl encP ((normN p).cs), tSl encM ([])]) rfl rfl .nil)))) rfl) (tV_F' (mxT_eq _))) rfl ?_
    refine J.store (.tmp rfl) (.eq (.tmp rfl) (tV_F (Ts := [tIs (.int .i64 (2)), tIs (.int .i64 (r)), tIs (.int .i64 ((normN p).lv)), tIs (.bool (((normN p).c).neg)), tSl encD (((normN p).c).abs), tSl encP ((normN p).cs), tSl encM ([])]) (mxT_eq _))) .here sz37 (st_agg (Ts' := [tIs (.int .i64 (2)), tIs (.int .i64 (r)), tIs (.int .i64 ((normN p).lv)), tIs (.bool (((normN p).c).neg)), tSl encD (((normN p).c).abs), tSl encP ((normN p).cs), tSl encM ([])]) (o := 0) rfl) ?_
    refine J.nil (JQ.then_normal (JC.ret (JQ.block_ret (JQ.then_ret ?_))))
    exact JQ.ret1 rfl (.agg (.tmp rfl) (.head _) ag37 (agg_eq (T := tV encM (Mx.mk (2) (r) (normN p) ([]))) (T' := tV encM (Mx.mk (2) (relN r) (normN p) ([]))) (by rw [relN, if_neg (by omega)]) (cTs_ldV (g := mxT) (y := (Mx.mk (2) (r) (normN p) ([]))) (mxT_eq (Mx.mk (2) (r) (normN p) ([]))).symm rfl)))

theorem value_c {B D : Nat} (x : Mo) (p : Pol) (hx : ∀ i, i < 4 → (x.at i).natAbs ≤ B32) (hp : CanP 4 p) (hs : Sz D p) (hB : nrm p < B32 ^ B) (hb : B + 4 * D ≤ 100000000000) : Ctr Try.prog 30 [tV encP (p), tSl encI (moZ x)] (tV encI (ofI (valP x p))) := by
  induction p using Pol.ind
  rename_i p ih
  have hlv := hp.lev.lv
  have hpc := hp.c_ofI
  have hxl : (moZ x).length = 4 := rfl
  have hcs := hs.cs
  have hV := valF hx hp hs hB
  have hxZ : ∀ i, i < 4 → (ofI (x.at i)).abs.length ≤ 2 := fun i hi => dig_len_pow (Nat.lt_of_le_of_lt (hx i hi) (by decide))
  refine Ctr.of Try.func30 rfl Try.ntmps30 (Nat.le_of_ble_eq_true rfl) fun w0 M0 => ?_
  refine JC.seq (JC.region ?_)
  refine J.boxF (Ts := [tIs (.int .i64 (p.lv)), tIs (.bool (p.c.neg)), tSl encD (p.c.abs), tSl encP (p.cs)]) (.tmp rfl) (polT_eq _) (ltN rfl) fun b2 => ?_
  refine J.alloc (R := cTs [tIs (.bool (false)), tSl encD ([])]) zr25 (fun _ => ⟨rfl, rfl, slP_nil _ _, rfl, trivial⟩) (ltN rfl) fun b4 => ?_
  refine J.nil (JQ.then_normal (JC.seq (JC.seq (JC.region ?_))))
  refine J.o (ot_fieldAddr_own (.tmp rfl) fd28_0) rfl ?_
  refine J.o (ot_load_own (.tmp rfl) (.tail _ (.head _)) sc3 (cTs_ld rfl)) rfl ?_
  refine J.o (ot_leq (.tmp rfl) .is) rfl ?_
  refine J.nil (JQ.then_normal ?_)
  refine JC.cond (.tmp rfl) (fun hc0 => ?_) (fun hc0 => ?_)
  · try simp only [bsx] at hc0
    have hs9 := hc0
    refine JC.seq (JC.region ?_)
    refine J.o (ot_fieldAddr_own (.tmp rfl) fd28_1) rfl ?_
    refine J.o (ot_load_own_agg (.tmp rfl) (.tail _ (.head _)) ag25 (cTs_ldV (g := zT) (y := p.c) rfl rfl)) rfl ?_
    refine J.store (.tmp rfl) (.eq (.tmp rfl) (tV_F (Ts := [tIs (.bool (p.c.neg)), tSl encD (p.c.abs)]) rfl)) .here sz25 (st_agg (Ts' := [tIs (.bool (p.c.neg)), tSl encD (p.c.abs)]) (o := 0) rfl) ?_
    refine J.nil (JQ.then_normal (JC.ret (JQ.then_ret ?_)))
    exact JQ.ret1 rfl (.agg (.tmp rfl) (.head _) ag25 (agg_eq (T := tV encI (p.c)) (T' := tV encI (ofI (valP x p))) (by rw [hpc, valP_eq, if_pos hc0]) (cTs_ldV (g := zT) (y := p.c) rfl rfl)))
  · try simp only [bsx] at hc0
    have hs9 := hc0
    refine JC.skip (JQ.then_normal (JC.seq (JC.seq (JC.region ?_))))
    refine J.o (ot_fieldAddr_own (.tmp rfl) fd28_0) rfl ?_
    refine J.o (ot_load_own (.tmp rfl) (.tail _ (.head _)) sc3 (cTs_ld rfl)) rfl ?_
    refine J.m (.tmp rfl) rfl ?_
    refine J.o (ot_len (.tmp rfl) sl39 rfl) rfl ?_
    refine J.o (ot_gtr (.tmp rfl) (.tmp rfl)) rfl ?_
    refine J.nil (JQ.then_normal ?_)
    refine JC.cond_false (.eq (.tmp rfl) (by rw [decide_eq_false (by omega)])) ?_
    refine JC.skip (JQ.then_normal (JC.seq (JC.region ?_)))
    refine J.o (ot_eqt (T' := tV encI (Z.mk (false) ([]))) (ot_build (Ts := [tIs (.bool (false)), tSl encD ([])]) pl25 (fun _ => ⟨rfl, rfl, slP_nil _ _, rfl, trivial⟩) (.nil) rfl) (tV_F' rfl)) rfl ?_
    refine J.alloc (R := cTs [tIs (.bool (false)), tSl encD ([])]) zr25 (fun _ => ⟨rfl, rfl, slP_nil _ _, rfl, trivial⟩) (ltN rfl) fun b5 => ?_
    refine J.store (.tmp rfl) (.eq (.tmp rfl) (tV_F (Ts := [tIs (.bool (false)), tSl encD ([])]) rfl)) .here sz25 (st_agg (Ts' := [tIs (.bool (false)), tSl encD ([])]) (o := 0) rfl) ?_
    refine J.nil (JQ.then_normal (JC.seq (JC.seq (JC.region ?_))))
    refine J.o (ot_fieldAddr_own (.tmp rfl) fd28_2) rfl ?_
    refine J.o (ot_load_own (.tmp rfl) (.tail _ (.tail _ (.head _))) sc26 (cTs_ld rfl)) rfl ?_
    refine J.o (ot_len (.tmp rfl) sl26 rfl) rfl ?_
    refine J.o (ot_sub (.tmp rfl) .is (w64 (by omega) (by omega))) rfl ?_
    refine J.a (.tmp rfl) rfl ?_
    refine J.nil (JQ.then_normal (JC.block ?_))
    refine JC.loop (ι := Nat) (fun k => [(1, tSl encI (moZ x)), (2, pOwn b2 (0)), (4, pOwn b4 (0)), (5, pOwn b5 (0)), (6, tIs (.int .i64 (((k : Nat) : Int) - 1)))]) (fun k => [⟨b5, 25, cTs [tIs (.bool ((ofI (valL x (x.at (p.lv - 1).toNat) (p.cs.drop k))).neg)), tSl encD ((ofI (valL x (x.at (p.lv - 1).toNat) (p.cs.drop k))).abs)]⟩, ⟨b4, 25, cTs [tIs (.bool (false)), tSl encD ([])]⟩, ⟨b2, 28, cTs [tIs (.int .i64 (p.lv)), tIs (.bool (p.c.neg)), tSl encD (p.c.abs), tSl encP (p.cs)]⟩]) (fun k => k ≤ p.cs.length) (fun k => k) p.cs.length (by omega) ?lsub0 ?round0
    case lsub0 => exact sub_trans (sub_heap (.keep (fun _ _ h => by rw [List.drop_length, valL, ofI_zero]; exact h) (.keep (fun _ _ h => h) (.keep (fun _ _ h => h) .nil)))) (sub_cons (.tmp rfl) (sub_cons (.tmp rfl) (sub_cons (.tmp rfl) (sub_cons (.tmp rfl) (sub_cons (.eq (.tmp rfl) (by first | rfl | (congr 3; omega) | (congr 2; omega))) (sub_nil))))))
    intro k hinv
    refine JC.seq (JC.seq (JC.region ?_))
    refine J.m (.tmp rfl) rfl ?_
    refine J.o (ot_geq (.tmp rfl) .is) rfl ?_
    refine J.nil (JQ.then_normal ?_)
    refine JC.cond (.tmp rfl) (fun hc2 => ?_) (fun hc2 => ?_)
    · try simp only [bsx] at hc2
      have hs24 := hc2
      refine JC.skip (JQ.then_normal (JC.seq (JC.block ?_)))
      refine JC.drawAt (Γ' := ?g1) 16 mo (by kernel_rfl) ?tw1 ?k1
      case tw1 =>
        refine TW.o (ot_load_own_agg (.tmp rfl) (.head _) ag25 (cTs_ldV (g := zT) (y := (ofI (valL x (x.at (p.lv - 1).toNat) (p.cs.drop k)))) rfl rfl)) rfl ?_
        refine TW.m (.tmp rfl) rfl ?_
        refine TW.o (ot_fieldAddr_own (.tmp rfl) fd28_0) rfl ?_
        refine TW.o (ot_load_own (.tmp rfl) (.tail _ (.tail _ (.head _))) sc3 (cTs_ld rfl)) rfl ?_
        refine TW.o (ot_sub (.tmp rfl) .is (w64 (by omega) (by omega))) rfl ?_
        refine TW.o (ot_index (z := atZ (moZ x) (p.lv - 1).toNat) (.tmp rfl) (.tmp rfl) sl39 (by omega) (atZ_at rfl (by omega))) rfl ?_
        refine TW.o (ot_load_agg (.tmp rfl) ag25 ldp_whole) rfl ?_
        refine TW.o (ot_eqt (T' := tV encI (ofI (valL x (x.at (p.lv - 1).toNat) (p.cs.drop k) * x.at (p.lv - 1).toNat))) (ot_call fn49 (intMul_c (ofI (valL x (x.at (p.lv - 1).toNat) (p.cs.drop k))) (atZ (moZ x) (p.lv - 1).toNat) (Nat.le_trans (hV.l k) (by omega)) (by rw [atZ_mo (by omega)]; exact Nat.le_trans (hxZ _ (by omega)) (by omega))) (.cons (.tmp rfl) (.cons (.tmp rfl) .nil))) (by rw [atZ_mo (by omega), zval_ofI, zval_ofI])) rfl ?_
        refine TW.o (ot_fieldAddr_own (.tmp rfl) fd28_2) rfl ?_
        refine TW.o (ot_load_own (.tmp rfl) (.tail _ (.tail _ (.head _))) sc26 (cTs_ld rfl)) rfl ?_
        refine TW.m (.tmp rfl) rfl ?_
        refine TW.o (ot_index (z := atP p.cs (k - 1)) (.tmp rfl) (.tmp rfl) sl26 (by omega) (atP_at (by omega) (by omega))) rfl ?_
        refine TW.o (ot_load_agg (.tmp rfl) ag28 ldp_whole) rfl ?_
        refine TW.m (.tmp rfl) rfl ?_
        refine TW.o (ot_call fn30 (ih (atP p.cs (k - 1)) (atP_mem (by omega)) (hV.cp _ (atP_mem (by omega))) (hV.sz _ (atP_mem (by omega))) (hV.n _ (atP_mem (by omega)))) (.cons (.tmp rfl) (.cons (.tmp rfl) .nil))) rfl ?_
        refine TW.o (ot_eqt (T' := tV encI (ofI (valL x (x.at (p.lv - 1).toNat) (p.cs.drop k) * x.at (p.lv - 1).toNat + valP x (atP p.cs (k - 1))))) (ot_call fn48 (intAdd_c (ofI (valL x (x.at (p.lv - 1).toNat) (p.cs.drop k) * x.at (p.lv - 1).toNat)) (ofI (valP x (atP p.cs (k - 1)))) (Nat.le_trans (mul_fit (hV.l k) (hxZ _ (by omega))) (by omega)) (Nat.le_trans (hV.v _ (atP_mem (by omega))) (by omega))) (.cons (.tmp rfl) (.cons (.tmp rfl) .nil))) (by rw [zval_ofI, zval_ofI])) rfl ?_
        exact TW.nil
      refine J.store (.tmp rfl) (.eq (.tmp rfl) (tV_F (Ts := [tIs (.bool ((ofI (valL x (x.at (p.lv - 1).toNat) (p.cs.drop k) * x.at (p.lv - 1).toNat + valP x (atP p.cs (k - 1)))).neg)), tSl encD ((ofI (valL x (x.at (p.lv - 1).toNat) (p.cs.drop k) * x.at (p.lv - 1).toNat + valP x (atP p.cs (k - 1)))).abs)]) rfl)) .here sz25 (st_agg (Ts' := [tIs (.bool ((ofI (valL x (x.at (p.lv - 1).toNat) (p.cs.drop k) * x.at (p.lv - 1).toNat + valP x (atP p.cs (k - 1)))).neg)), tSl encD ((ofI (valL x (x.at (p.lv - 1).toNat) (p.cs.drop k) * x.at (p.lv - 1).toNat + valP x (atP p.cs (k - 1)))).abs)]) (o := 0) rfl) ?_
      refine J.nil (JQ.block_normal (JQ.then_normal (JC.region ?_)))
      refine J.m (.tmp rfl) rfl ?_
      refine J.o (ot_sub (.tmp rfl) .is (w64 (by omega) (by omega))) rfl ?_
      refine J.a (.tmp rfl) rfl ?_
      refine J.nil ?_
      exact JQ.round (k - 1) (by omega) (by omega) (sub_trans (sub_heap (.keep (fun _ _ h => by rw [← valL_drop (by omega) hinv]; exact h) (.keep (fun _ _ h => h) (.keep (fun _ _ h => h) .nil)))) (sub_cons (.tmp rfl) (sub_cons (.tmp rfl) (sub_cons (.tmp rfl) (sub_cons (.tmp rfl) (sub_cons (.eq (.tmp rfl) (by first | rfl | (congr 3; omega) | (congr 2; omega))) (sub_nil)))))))
    · try simp only [bsx] at hc2
      have hs24 := hc2
      refine JC.exit (JQ.then_exit (JQ.then_exit (JQ.block_exit (JQ.then_normal (JC.seq (JC.region ?_))))))
      refine J.o (ot_load_own_agg (.tmp rfl) (.head _) ag25 (cTs_ldV (g := zT) (y := (ofI (valL x (x.at (p.lv - 1).toNat) (p.cs.drop k)))) rfl rfl)) rfl ?_
      refine J.store (.tmp rfl) (.eq (.tmp rfl) (tV_F (Ts := [tIs (.bool ((ofI (valL x (x.at (p.lv - 1).toNat) (p.cs.drop k))).neg)), tSl encD ((ofI (valL x (x.at (p.lv - 1).toNat) (p.cs.drop k))).abs)]) rfl)) (.there .here) sz25 (st_agg (Ts' := [tIs (.bool ((ofI (valL x (x.at (p.lv - 1).toNat) (p.cs.drop k))).neg)), tSl encD ((ofI (valL x (x.at (p.lv - 1).toNat) (p.cs.drop k))).abs)]) (o := 0) rfl) ?_
      refine J.nil (JQ.then_normal (JC.ret ?_))
      exact JQ.ret1 rfl (.agg (.tmp rfl) (.tail _ (.head _)) ag25 (agg_eq (T := tV encI (ofI (valL x (x.at (p.lv - 1).toNat) (p.cs.drop k)))) (T' := tV encI (ofI (valP x p))) (by rw [valP_eq, if_neg hc0, if_neg (by omega), show k = 0 by omega, List.drop_zero]) (cTs_ldV (g := zT) (y := (ofI (valL x (x.at (p.lv - 1).toNat) (p.cs.drop k)))) rfl rfl)))

theorem truthV_c {B D : Nat} (x : Mo) (m : Mx) (hx : ∀ i, i < 4 → (x.at i).natAbs ≤ B32) (hk : m.kind = 0 ∨ m.kind = 1 ∨ m.kind = 2) (hp : m.kind = 2 → CanP 4 m.poly ∧ Sz D m.poly ∧ nrm m.poly < B32 ^ B) (hb : B + 4 * D ≤ 100000000000) : Ctr Try.prog 10 [tV encM (m), tSl encI (moZ x)] (tIs (.bool (truthV x m))) := by
  refine Ctr.of Try.func10 rfl Try.ntmps10 (Nat.le_of_ble_eq_true rfl) fun w0 M0 => ?_
  refine JC.seq (JC.region ?_)
  refine J.boxF (Ts := [tIs (.int .i64 (m.kind)), tIs (.int .i64 (m.rel)), tIs (.int .i64 (m.poly.lv)), tIs (.bool (m.poly.c.neg)), tSl encD (m.poly.c.abs), tSl encP (m.poly.cs), tSl encM (m.kids)]) (.tmp rfl) (mxT_eq _) (ltN rfl) fun b2 => ?_
  refine J.a .is rfl ?_
  refine J.nil (JQ.then_normal (JC.seq (JC.seq (JC.region ?_))))
  refine J.o (ot_fieldAddr_own (.tmp rfl) fd37_0) rfl ?_
  refine J.o (ot_load_own (.tmp rfl) (.head _) sc3 (cTs_ld rfl)) rfl ?_
  refine J.nil (JQ.then_normal (JC.block (JC.seq (JC.region ?_))))
  refine J.o (ot_eql (.tmp rfl) .is) rfl ?_
  refine J.a (.tmp rfl) rfl ?_
  refine J.nil (JQ.then_normal ?_)
  refine JC.cond (.tmp rfl) (fun hc0 => ?_) (fun hc0 => ?_)
  · try simp only [bsx] at hc0
    have hs8 := hc0
    refine JC.seq (JC.region ?_)
    refine J.a .is rfl ?_
    refine J.nil (JQ.then_normal (JC.ret (JQ.block_ret (JQ.then_ret ?_))))
    exact JQ.ret1 rfl (.tmp (.eq (.tmp rfl) (by rw [truthV, if_pos hs8])))
  · try simp only [bsx] at hc0
    have hs8 := hc0
    refine JC.seq (JC.region ?_)
    refine J.o (ot_eql (.tmp rfl) .is) rfl ?_
    refine J.a (.tmp rfl) rfl ?_
    refine J.nil (JQ.then_normal ?_)
    refine JC.cond (.tmp rfl) (fun hc1 => ?_) (fun hc1 => ?_)
    · try simp only [bsx] at hc1
      have hs10 := hc1
      obtain ⟨hp1, hp2, hp3⟩ := hp hs10
      have hvl := val_len (val_bound hx (Nat.le_refl _) hp1.lev hp2) hp3
      refine JC.seq ?_
      refine JC.draw (Γ' := ?g1) mo (by kernel_rfl) ?tw1 ?k1
      case tw1 =>
        refine TW.o (ot_fieldAddr_own (.tmp rfl) fd37_1) rfl ?_
        refine TW.o (ot_load_own (.tmp rfl) (.head _) sc34 (cTs_ld rfl)) rfl ?_
        refine TW.o (ot_fieldAddr_own (.tmp rfl) fd37_2) rfl ?_
        refine TW.o (ot_load_own_agg (.tmp rfl) (.head _) ag28 (cTs_ldV (g := polT) (y := m.poly) (polT_eq m.poly).symm rfl)) rfl ?_
        refine TW.m (.tmp rfl) rfl ?_
        refine TW.o (ot_call fn30 (value_c x m.poly hx hp1 hp2 hp3 hb) (.cons (.tmp rfl) (.cons (.tmp rfl) .nil))) rfl ?_
        refine TW.o (ot_eqt (T' := tIs (.int .i64 (sgn (valP x m.poly)))) (ot_call fn25 (intSign_c (ofI (valP x m.poly)) (Nat.le_trans hvl (by omega))) (.cons (.tmp rfl) .nil)) (by rw [zval_ofI])) rfl ?_
        refine TW.o (ot_call fn15 (permits_c m.rel (sgn (valP x m.poly)) ) (.cons (.tmp rfl) (.cons (.tmp rfl) .nil))) rfl ?_
        refine TW.o (ot_assign (.tmp rfl)) rfl ?_
        exact TW.nil
      refine JQ.then_normal (JC.ret (JQ.block_ret (JQ.then_ret ?_)))
      exact JQ.ret1 rfl (.tmp (.eq (.tmp rfl) (by rw [truthV, if_neg hs8, if_pos hs10])))
    · try simp only [bsx] at hc1
      have hs10 := hc1
      refine JC.seq (JC.seq (JC.region ?_))
      refine J.o (ot_eql (.tmp rfl) .is) rfl ?_
      refine J.a (.tmp rfl) rfl ?_
      refine J.nil (JQ.then_normal ?_)
      refine JC.cond_false (.eq (.tmp rfl) (by rw [decide_eq_false (by omega)])) ?_
      refine JC.region ?_
      refine J.o (ot_eql (.tmp rfl) .is) rfl ?_
      refine J.a (.tmp rfl) rfl ?_
      refine J.nil (JQ.then_normal ?_)
      refine JC.cond_false (.eq (.tmp rfl) (by rw [decide_eq_false (by omega)])) ?_
      refine JC.skip (JQ.block_normal (JQ.then_normal (JC.seq (JC.region ?_))))
      refine J.a .is rfl ?_
      refine J.nil (JQ.then_normal (JC.ret ?_))
      exact JQ.ret1 rfl (.tmp (.eq (.tmp rfl) (by rw [truthV, if_neg hs8, if_neg hs10])))

theorem simpleA_c {B : Nat} (p : Pol) (r : Int) (hr : 1 ≤ r ∧ r ≤ 6) (hf : Fit B p) (np : nrm p < B32 ^ B) (hcn : cnt p ≤ 1000000000) (hb : B ≤ 1000000000) (hlen : (termsP (normN p) mo0).length ≤ 4294967295) (hlv : 0 < (normN p).lv) (hms : msign p = p) : Ctr Try.prog 31 [tV encM (Mx.mk (2) (r) (p) ([]))] (tIs (.bool (true))) := by
  have hne : normN p ≠ p0 := fun e => absurd (e ▸ hlv) (by decide)
  refine Ctr.of Try.func31 rfl Try.ntmps31 (Nat.le_of_ble_eq_true rfl) fun w0 M0 => ?_
  refine JC.seq (JC.region ?_)
  refine J.boxF (Ts := [tIs (.int .i64 (2)), tIs (.int .i64 (r)), tIs (.int .i64 (p.lv)), tIs (.bool (p.c.neg)), tSl encD (p.c.abs), tSl encP (p.cs), tSl encM ([])]) (.tmp rfl) (mxT_eq _) (ltN rfl) fun b1 => ?_
  refine J.a .is rfl ?_
  refine J.nil (JQ.then_normal (JC.seq (JC.seq (JC.region ?_))))
  refine J.o (ot_fieldAddr_own (.tmp rfl) fd37_0) rfl ?_
  refine J.o (ot_load_own (.tmp rfl) (.head _) sc3 (cTs_ld rfl)) rfl ?_
  refine J.nil (JQ.then_normal (JC.block (JC.seq (JC.region ?_))))
  refine J.o (ot_eql (.tmp rfl) .is) rfl ?_
  refine J.a (.tmp rfl) rfl ?_
  refine J.nil (JQ.then_normal ?_)
  refine JC.cond_true (.eq (.tmp rfl) (by rfl)) ?_
  refine JC.seq (JC.region ?_)
  refine J.o (ot_fieldAddr_own (.tmp rfl) fd37_2) rfl ?_
  refine J.o (ot_load_own_agg (.tmp rfl) (.head _) ag28 (cTs_ldV (g := polT) (y := p) (polT_eq p).symm rfl)) rfl ?_
  refine J.o (ot_call fn11 (constG_c p hf np hcn hb) (.cons (.tmp rfl) .nil)) rfl ?_
  refine J.m (.tmp rfl) rfl ?_
  refine J.o (ot_extract (.tmp rfl) rfl) rfl ?_
  refine J.o (ot_extract (.tmp rfl) rfl) rfl ?_
  refine J.alloc (R := cTs [tIs (.bool (false)), tSl encD ([])]) zr25 (fun _ => ⟨rfl, rfl, slP_nil _ _, rfl, trivial⟩) (ltN rfl) fun b3 => ?_
  refine J.store (.tmp rfl) (.eq (.tmp rfl) (tV_F (Ts := [tIs (.bool ((if 0 < (normN p).lv then z0 else (normN p).c).neg)), tSl encD ((if 0 < (normN p).lv then z0 else (normN p).c).abs)]) rfl)) .here sz25 (st_agg (Ts' := [tIs (.bool ((if 0 < (normN p).lv then z0 else (normN p).c).neg)), tSl encD ((if 0 < (normN p).lv then z0 else (normN p).c).abs)]) (o := 0) rfl) ?_
  refine J.a (.tmp rfl) rfl ?_
  refine J.nil (JQ.then_normal (JC.seq ?_))
  refine JC.draw (Γ' := ?g1) mo (by kernel_rfl) ?tw1 ?k1
  case tw1 =>
    refine TW.m (.tmp rfl) rfl ?_
    refine TW.o (ot_not (.tmp rfl)) rfl ?_
    refine TW.m (.tmp rfl) rfl ?_
    refine TW.opg rfl rfl rfl (ltN rfl) (fun hg => ot_fieldAddr_own (.tmp rfl) fd37_2) rfl (ltN rfl) ?_
    refine TW.opg rfl rfl rfl (ltN rfl) (fun hg => ot_load_own_agg (.iff hg (.tmp rfl)) (.tail _ (.head _)) ag28 (cTs_ldV (g := polT) (y := p) (polT_eq p).symm rfl)) rfl (ltN rfl) ?_
    refine TW.opg rfl rfl rfl (ltN rfl) (fun hg => ot_fieldAddr_own (.tmp rfl) fd37_2) rfl (ltN rfl) ?_
    refine TW.opg rfl rfl rfl (ltN rfl) (fun hg => ot_load_own_agg (.iff hg (.tmp rfl)) (.tail _ (.head _)) ag28 (cTs_ldV (g := polT) (y := p) (polT_eq p).symm rfl)) rfl (ltN rfl) ?_
    refine TW.opg rfl rfl rfl (ltN rfl) (fun hg => ot_call fn14 (msign_c p hf np hcn hb hlen hne) (.cons (.iff hg (.tmp rfl)) .nil)) rfl (ltN rfl) ?_
    refine TW.opg rfl rfl rfl (ltN rfl) (fun hg => (by have hg' := hg; (try simp only [bsx] at hg'); exact ot_eqt (T' := tIs (.bool (true))) (ot_call fn13 (samePoly_c p (msign p) hf (hms.symm ▸ hf) ⟨by omega, by omega⟩) (.cons (.iff hg (.tmp rfl)) (.cons (.iff hg (.tmp rfl)) .nil))) (by rw [hms, sameB_self]))) rfl (ltN rfl) ?_
    refine TW.o (ot_and2 (.tmp rfl) (.tmp rfl) .is) rfl ?_
    refine TW.m (.tmp rfl) rfl ?_
    refine TW.opg rfl rfl rfl (ltN rfl) (fun hg => ot_fieldAddr_own (.tmp rfl) fd37_1) rfl (ltN rfl) ?_
    refine TW.opg rfl rfl rfl (ltN rfl) (fun hg => ot_load_own (.iff hg (.tmp rfl)) (.tail _ (.head _)) sc34 (cTs_ld rfl)) rfl (ltN rfl) ?_
    refine TW.opg rfl rfl rfl (ltN rfl) (fun hg => ot_geq (.iff hg (.tmp rfl)) .is) rfl (ltN rfl) ?_
    refine TW.o (ot_and2 (.tmp rfl) (.tmp rfl) .is) rfl ?_
    refine TW.m (.tmp rfl) rfl ?_
    refine TW.opg rfl rfl rfl (ltN rfl) (fun hg => ot_fieldAddr_own (.tmp rfl) fd37_1) rfl (ltN rfl) ?_
    refine TW.opg rfl rfl rfl (ltN rfl) (fun hg => ot_load_own (.iff hg (.tmp rfl)) (.tail _ (.head _)) sc34 (cTs_ld rfl)) rfl (ltN rfl) ?_
    refine TW.opg rfl rfl rfl (ltN rfl) (fun hg => ot_leq (.iff hg (.tmp rfl)) .is) rfl (ltN rfl) ?_
    refine TW.o (ot_and2 (.tmp rfl) (.tmp rfl) .is) rfl ?_
    refine TW.m (.tmp rfl) rfl ?_
    refine TW.opg rfl rfl rfl (ltN rfl) (fun hg => ot_fieldAddr_own (.tmp rfl) fd37_3) rfl (ltN rfl) ?_
    refine TW.opg rfl rfl rfl (ltN rfl) (fun hg => ot_load_own (.iff hg (.tmp rfl)) (.tail _ (.head _)) sc35 (cTs_ld rfl)) rfl (ltN rfl) ?_
    refine TW.opg rfl rfl rfl (ltN rfl) (fun hg => ot_len (.iff hg (.tmp rfl)) sl35 rfl) rfl (ltN rfl) ?_
    refine TW.opg rfl rfl rfl (ltN rfl) (fun hg => ot_eql (.iff hg (.tmp rfl)) .is) rfl (ltN rfl) ?_
    refine TW.o (ot_and2 (.tmp rfl) (.tmp rfl) .is) rfl ?_
    refine TW.o (ot_assign (.tmp rfl)) rfl ?_
    exact TW.nil
  refine JQ.then_normal (JC.ret (JQ.block_ret (JQ.then_ret ?_)))
  exact JQ.ret1 rfl (.tmp (.eq (.tmp rfl) (by first | rfl | (congr 3; omega) | (congr 2; omega) | simp [*])))

theorem isSimpleT_c (m : Mx) (b : Bool) (hm : m = truthM b) : Ctr Try.prog 12 [tV encM (m)] (tIs (.bool (true))) := by
  have hk : m.kind = 0 ∨ m.kind = 1 := by rw [hm]; cases b <;> simp [truthM, Mx.kind]
  have h1 : m.rel = 0 := by rw [hm]; cases b <;> rfl
  have h2 : m.kids = [] := by rw [hm]; cases b <;> rfl
  have h3 : m.poly = p0 := by rw [hm]; cases b <;> rfl
  refine Ctr.of Try.func12 rfl Try.ntmps12 (Nat.le_of_ble_eq_true rfl) fun w0 M0 => ?_
  refine JC.seq (JC.region ?_)
  refine J.boxF (Ts := [tIs (.int .i64 (m.kind)), tIs (.int .i64 (m.rel)), tIs (.int .i64 (m.poly.lv)), tIs (.bool (m.poly.c.neg)), tSl encD (m.poly.c.abs), tSl encP (m.poly.cs), tSl encM (m.kids)]) (.tmp rfl) (mxT_eq _) (ltN rfl) fun b1 => ?_
  refine J.a .is rfl ?_
  refine J.nil (JQ.then_normal (JC.seq (JC.seq (JC.region ?_))))
  refine J.o (ot_fieldAddr_own (.tmp rfl) fd37_0) rfl ?_
  refine J.o (ot_load_own (.tmp rfl) (.head _) sc3 (cTs_ld rfl)) rfl ?_
  refine J.o (ot_eql (.tmp rfl) .is) rfl ?_
  refine J.m (.tmp rfl) rfl ?_
  refine J.opg rfl rfl rfl (ltN rfl) (fun hg => ot_fieldAddr_own (.tmp rfl) fd37_0) rfl (ltN rfl) ?_
  refine J.opg rfl rfl rfl (ltN rfl) (fun hg => ot_load_own (.iff hg (.tmp rfl)) (.head _) sc3 (cTs_ld rfl)) rfl (ltN rfl) ?_
  refine J.opg rfl rfl rfl (ltN rfl) (fun hg => ot_eql (.iff hg (.tmp rfl)) .is) rfl (ltN rfl) ?_
  refine J.o (ot_or2 (.tmp rfl) .is (.tmp rfl)) rfl ?_
  refine J.nil (JQ.then_normal ?_)
  refine JC.cond_true (.eq (.tmp rfl) (by rcases hk with h | h <;> simp [h])) ?_
  refine JC.seq (JC.region ?_)
  refine J.o (ot_fieldAddr_own (.tmp rfl) fd37_1) rfl ?_
  refine J.o (ot_load_own (.tmp rfl) (.head _) sc34 (cTs_ld rfl)) rfl ?_
  refine J.o (ot_eql (.tmp rfl) .is) rfl ?_
  refine J.m (.tmp rfl) rfl ?_
  refine J.opg rfl rfl rfl (ltN rfl) (fun hg => ot_fieldAddr_own (.tmp rfl) fd37_3) rfl (ltN rfl) ?_
  refine J.opg rfl rfl rfl (ltN rfl) (fun hg => ot_load_own (.iff hg (.tmp rfl)) (.head _) sc35 (cTs_ld rfl)) rfl (ltN rfl) ?_
  refine J.opg rfl rfl rfl (ltN rfl) (fun hg => ot_len (.iff hg (.tmp rfl)) sl35 rfl) rfl (ltN rfl) ?_
  refine J.opg rfl rfl rfl (ltN rfl) (fun hg => ot_eql (.iff hg (.tmp rfl)) .is) rfl (ltN rfl) ?_
  refine J.o (ot_and2 (.tmp rfl) (.tmp rfl) .is) rfl ?_
  refine J.m (.tmp rfl) rfl ?_
  refine J.opg rfl rfl rfl (ltN rfl) (fun hg => ot_fieldAddr_own (.tmp rfl) fd37_2) rfl (ltN rfl) ?_
  refine J.opg rfl rfl rfl (ltN rfl) (fun hg => ot_load_own_agg (.iff hg (.tmp rfl)) (.head _) ag28 (cTs_ldV (g := polT) (y := m.poly) (polT_eq m.poly).symm rfl)) rfl (ltN rfl) ?_
  refine J.opg rfl rfl rfl (ltN rfl) (fun hg => ot_eqt (T' := tV encP (Pol.mk (0) (Z.mk (false) ([])) ([]))) (ot_build (Ts := [tIs (.int .i64 (0)), tIs (.bool (false)), tSl encD ([]), tSl encP ([])]) pl28 (fun _ => ⟨rfl, rfl, rfl, rfl, slP_nil _ _, rfl, slP_nil _ _, rfl, trivial⟩) (.nil) rfl) (tV_F' (polT_eq _))) rfl (ltN rfl) ?_
  refine J.opg rfl rfl rfl (ltN rfl) (fun hg => (by have hg' := hg; (try simp only [bsx] at hg'); exact ot_eqt (T' := tIs (.bool (true))) (ot_call fn13 (samePoly_c m.poly (Pol.mk (0) (Z.mk (false) ([])) ([])) (by rw [h3]; exact fit_p0 (B := 0)) (fit_p0 (B := 0)) ⟨by omega, by omega⟩) (.cons (.iff hg (.tmp rfl)) (.cons (.iff hg (.tmp rfl)) .nil))) (by rw [h3]; exact congrArg (fun x => tIs (.bool x)) (sameB_self p0)))) rfl (ltN rfl) ?_
  refine J.o (ot_and2 (.tmp rfl) (.tmp rfl) .is) rfl ?_
  refine J.a (.tmp rfl) rfl ?_
  refine J.nil (JQ.then_normal (JC.ret (JQ.then_ret ?_)))
  exact JQ.ret1 rfl (.tmp (.eq (.tmp rfl) (by rw [h1, h2]; rfl)))

end Go.Proofs.Ytkpmcldbcljkfaa
