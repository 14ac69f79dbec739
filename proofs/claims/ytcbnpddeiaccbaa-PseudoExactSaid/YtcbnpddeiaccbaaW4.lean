/- Walks through the program: each function called at values of the kinds that its contract names returns what the contract says. Conditions: those in the contracts. Written by the program wip/gen. -/
import Derived.Test.YtcbnpddeiaccbaaW3
set_option linter.unusedVariables false
set_option linter.unusedSimpArgs false
set_option maxRecDepth 100000
set_option maxHeartbeats 4000000
namespace Go.Proofs.Ytcbnpddeiaccbaa
open Go Go.RowKit Go.Rt
theorem normLG_c {B : Nat} (pb pc pq : Nat) (ts : List Tm) (hl : ts.length ≤ 4294967295) (hd : ∀ t ∈ ts, Digs t.coef.abs) (hz : ∀ t ∈ ts, t.coef.abs.length ≤ B) (hb : B ≤ 1000000000000) : CtrL Try.prog 93 [sIs pb 0 (ts.length) pc] pb 97 (cRow encTm ts pq) (cRow encTm ts pq) (tSl encTm (normS ts)) := by
 have hkl := keepT_len ts
 have hsl := stT_len (keepT ts)
 have hm : ∀ t ∈ stT (keepT ts), t ∈ ts := fun t h => (List.mem_filter.1 (stT_mem t h)).1
 refine CtrL.of Try.func93 rfl Try.ntmps93 (Nat.le_of_ble_eq_true rfl) fun w0 M0 => (JC.g ?_)
 refine J.o (ot_assign (.nil (E := encTm))) rfl (J.e (JC.g ?_))
 refine J.a .is rfl (J.e (JC.seq (JC.g (J.M rfl rfl ?_))))
 refine J.o (ot_len_own (.t rfl) sl54 rfl) rfl ?_
 refine J.m .is rfl (J.e (JC.block ?_))
 refine JC.loop4 (α := Bool) (β := Nat) (γ := Nat) (δ := Nat) (fun e k b c => bif e then [(2, tSl encTm ([])), (3, tIs (.slice none 0 0)), (9, sIs pb 0 (ts.length) pc), (10, tIs (.int .i64 (((ts.length : Nat) : Int)))), (11, tIs (.int .i64 (k : Int)))] else [(2, tSl encTm ([])), (3, sIs b 0 ((keepT (ts.take k)).length) c), (9, sIs pb 0 (ts.length) pc), (10, tIs (.int .i64 (((ts.length : Nat) : Int)))), (11, tIs (.int .i64 (k : Int)))]) (fun e k b c => bif e then [⟨pb, 97, cRow encTm ts pq⟩] else [⟨b, 97, cRow encTm (keepT (ts.take k)) c⟩, ⟨pb, 97, cRow encTm ts pq⟩]) (fun e k b c => k ≤ ts.length ∧ (e = true → keepT (ts.take k) = [])) (fun e k b c => ts.length - k) true 0 0 0 ⟨by omega, fun _ => rfl⟩ ?lsub0 ?round0
 case lsub0 => exact sub_trans (sub_heap (.k .nil)) (sub_l ⟨.t rfl, .t rfl, .t rfl, .t rfl, .eq (.t rfl) (by first | rfl | (congr 3; omega) | (congr 2; omega)), trivial⟩)
 intro e k b c hinv
 rcases e with _ | _
 ·change JC _ _ _ [(2, tSl encTm ([])), (3, sIs b 0 ((keepT (ts.take k)).length) c), (9, sIs pb 0 (ts.length) pc), (10, tIs (.int .i64 (((ts.length : Nat) : Int)))), (11, tIs (.int .i64 (k : Int)))] [⟨b, 97, cRow encTm (keepT (ts.take k)) c⟩, ⟨pb, 97, cRow encTm ts pq⟩]
  obtain ⟨hk, he⟩ := hinv
  have hkk := keepT_len (ts.take k)
  rw [List.length_take] at hkk
  refine (JC.g ?_)
  refine J.o (ot_lss (.t rfl) (.t rfl)) rfl (J.e (JC.seq ?_))
  refine JC.cond (.t rfl) (fun hc0 => ?_) (fun hc0 => ?_)
  ·try simp only [bsx] at hc0
   have hs12 := hc0
   refine JC.skip (JQ.then_normal (JC.seq (JC.block (JC.g ?_))))
   refine J.o (ot_eqt (T' := pOwn pb (0 + k * 6)) (oix (.t rfl) (.t rfl) sl54 (by omega) (by omega)) (own_off2 (by omega))) rfl ?_
   refine J.o (oa (.t rfl) (.tail _ (.head _)) ag97 (row_agg rfl (atT_some (by omega)))) rfl ?_
   refine J.alloc (R := cTs [tIs (.bool false), tSl encD ([]), tIs (.int .i64 0), tIs (.int .i64 0), tIs (.int .i64 0), tIs (.int .i64 0)]) zr97 (fun _ => ⟨rfl, rfl, slP_nil _ _, rfl, rfl, rfl, rfl, rfl, rfl, rfl, rfl, rfl, trivial⟩) (ltN rfl) fun b5 => ?_
   refine J.store (.t rfl) (.eq (.t rfl) (tV_F (Ts := [tIs (.bool (((atT ts k).coef).neg)), tSl encD (((atT ts k).coef).abs), tIs (.int .i64 (((atT ts k).exp).a)), tIs (.int .i64 (((atT ts k).exp).b)), tIs (.int .i64 (((atT ts k).exp).c)), tIs (.int .i64 (((atT ts k).exp).d))]) rfl)) .here sz97 (st_agg (Ts' := [tIs (.bool (((atT ts k).coef).neg)), tSl encD (((atT ts k).coef).abs), tIs (.int .i64 (((atT ts k).exp).a)), tIs (.int .i64 (((atT ts k).exp).b)), tIs (.int .i64 (((atT ts k).exp).c)), tIs (.int .i64 (((atT ts k).exp).d))]) (o := 0) rfl) (J.e (JC.seq ?_))
   refine JC.weak (sub_freezeP (R' := cEnc encTm (atT ts k)) [5] ⟨rfl, trivial⟩ .here (cTs_F (f := tmT) (x := atT ts k) rfl rfl)) (JC.region ?_)
   refine J.o (ofp (R' := cDrop (cEnc encTm (atT ts k)) 2) (.t rfl) fd97_1 (fun _ _ h => cDrop_mk h)) rfl ?_
   refine J.o (ot_sliceA (.t rfl) ar4_95 tm_exp) rfl ?_
   refine J.o (oc fn109 (min_c ((atT ts k).exp.list) (by simp [Mo.list])) (.cons (.t rfl) .nil)) rfl ?_
   refine J.o (ot_geq (.t rfl) .is) rfl (J.e ?_)
   refine JC.cond (.t rfl) (fun hc1 => ?_) (fun hc1 => ?_)
   ·try simp only [bsx] at hc1
    have hs18 := hc1
    refine JC.region (J.M rfl rfl ?_)
    refine J.o (lda (.t rfl) ag97 ldp_whole) rfl ?_
    refine J.o (ot_buildSlice (E := encTm) (zs := [atT ts k]) sl54 (.cons (.t rfl) .nil) rfl zr97 rfl (by decide) (by decide)) rfl ?_
    refine J.append (E := encTm) (xs := keepT (ts.take k)) (ys := [atT ts k]) (.t rfl) rfl (.t rfl) sl54 rfl zr97 rfl .here (by simp <;> omega) (by simp <;> omega) (ltN rfl) fun b22 c22 => (J.A rfl rfl (J.nil (JQ.block_normal (JQ.then_normal (JC.region ?_)))))
    refine J.o (ot_add (.t rfl) .is (w64 (by omega) (by omega))) rfl (J.M rfl rfl (J.nil ?_))
    have hyes := keepT_yes (show k < ts.length by omega) (okT_iff.2 hs18)
    exact JQ.round4 (i := false) (i2 := k) (i3 := b) (i4 := c) false (k + 1) b22 c22 ⟨by omega, fun h => by cases h⟩ (by omega) (sub_trans (sub_heap (.keep (cRow_eq hyes) (.k .nil))) (sub_l ⟨.t rfl, .eq (.t rfl) (by rw [hyes]), .t rfl, .t rfl, .eq (.t rfl) (by first | rfl | (congr 3; omega) | (congr 2; omega)), trivial⟩))
   ·try simp only [bsx] at hc1
    have hs18 := hc1
    refine JC.skip (JQ.block_normal (JQ.then_normal (JC.region ?_)))
    refine J.o (ot_add (.t rfl) .is (w64 (by omega) (by omega))) rfl (J.M rfl rfl (J.nil ?_))
    have hno := keepT_no (show k < ts.length by omega) (fun h => hs18 (okT_iff.1 h))
    exact JQ.round4 (i := false) (i2 := k) (i3 := b) (i4 := c) false (k + 1) b c ⟨by omega, fun h => by cases h⟩ (by omega) (sub_trans (sub_heap (.keep (cRow_eq hno) (.k .nil))) (sub_l ⟨.t rfl, .eq (.t rfl) (by rw [hno]), .t rfl, .t rfl, .eq (.t rfl) (by first | rfl | (congr 3; omega) | (congr 2; omega)), trivial⟩))
  ·try simp only [bsx] at hc0
   have hs12 := hc0
   have hkt : keepT (ts.take k) = keepT ts := by rw [List.take_of_length_le (by omega)]
   refine JC.exit (JQ.then_exit (JQ.then_exit (JQ.block_exit (JQ.then_normal (JC.g (J.M rfl rfl ?_))))))
   refine J.callL (R' := cRow encTm (stT (keepT (ts.take k))) c) (Us := []) (cap := []) fn110 (.func (fun _ => rfl)) (sortG_c b c (keepT (ts.take k)) (by omega)) (.cons (.t rfl) (.cons (.func (fun _ => rfl)) .nil)) (fun _ => trivial) .here (ltN rfl) (J.e (JC.seq ?_))
   refine JC.weak (sub_freeze0 (E := encTm) (xs := stT (keepT (ts.take k))) (n := (keepT (ts.take k)).length) (c := c) [24, 3] ⟨rfl, rfl, trivial⟩ .here (by rw [stT_len]) (by omega)) (JC.region ?_)
   refine J.a .is rfl (J.e (JC.seq (JC.g ?_)))
   refine J.a .is rfl (J.e (JC.block ?_))
   refine JC.loop5 (α := Bool) (β := Nat) (γ := List Tm) (δ := Nat) (ε := Nat) (fun e i O b c => bif e then [(2, tSl encTm ([])), (3, tSl encTm ((stT (keepT ts)))), (6, tIs (.slice none 0 0)), (7, tIs (.int .i64 (i : Int)))] else [(2, tSl encTm ([])), (3, tSl encTm ((stT (keepT ts)))), (6, sIs b 0 (O.length) c), (7, tIs (.int .i64 (i : Int)))]) (fun e i O b c => bif e then [⟨pb, 97, cRow encTm ts pq⟩] else [⟨b, 97, cRow encTm O c⟩, ⟨pb, 97, cRow encTm ts pq⟩]) (fun e i O b c => i ≤ (stT (keepT ts)).length ∧ O ++ mergeT ((stT (keepT ts)).drop i) = mergeT (stT (keepT ts)) ∧ O.length ≤ i ∧ (e = true → O = [])) (fun e i O b c => (stT (keepT ts)).length - i) true 0 ([]) 0 0 ⟨by omega, by simp, by simp, fun _ => rfl⟩ ?lsub1 ?round1
   case lsub1 => exact sub_trans (sub_heap (.k .nil)) (sub_l ⟨.t rfl, .eq (.t rfl) (by rw [hkt]), .t rfl, .eq (.t rfl) (by first | rfl | (congr 3; omega) | (congr 2; omega)), trivial⟩)
   intro e i O b c hinv
   rcases e with _ | _
   ·change JC _ _ _ [(2, tSl encTm ([])), (3, tSl encTm ((stT (keepT ts)))), (6, sIs b 0 (O.length) c), (7, tIs (.int .i64 (i : Int)))] [⟨b, 97, cRow encTm O c⟩, ⟨pb, 97, cRow encTm ts pq⟩]
    obtain ⟨hi, hO, hOl, hOe⟩ := hinv
    refine JC.seq (JC.g (J.M rfl rfl (J.M rfl rfl ?_)))
    refine J.o (ot_len (.t rfl) sl54 rfl) rfl ?_
    refine J.o (ot_lss (.t rfl) (.t rfl)) rfl (J.e ?_)
    refine JC.cond (.t rfl) (fun hc2 => ?_) (fun hc2 => ?_)
    ·try simp only [bsx] at hc2
     have hs29 := hc2
     refine JC.skip (JQ.then_normal (JC.block (JC.g (J.M rfl rfl (J.M rfl rfl ?_)))))
     refine J.o (ixo (z := atT (stT (keepT ts)) i) (.t rfl) (.t rfl) sl54 (by omega) (atT_at (by omega) (by omega))) rfl ?_
     refine J.o (ofp (R' := cDrop (cEnc encTm (atT (stT (keepT ts)) i)) 2) (.t rfl) fd97_1 (fun _ _ h => cDrop_mk h)) rfl ?_
     refine J.o (lda (.t rfl) ag95 (ldFV (g := moT) (y := (atT (stT (keepT ts)) i).exp) rfl rfl)) rfl ?_
     refine J.o (ot_eqt (T' := tV encTm (Tm.mk (Z.mk false ([])) ((atT (stT (keepT ts)) i).exp))) (ot_build (Ts := [tIs (.bool false), tSl encD ([]), tIs (.int .i64 0), tIs (.int .i64 0), tIs (.int .i64 0), tIs (.int .i64 0)]) pl97 (fun _ => ⟨rfl, rfl, slP_nil _ _, rfl, rfl, rfl, rfl, rfl, rfl, rfl, rfl, rfl, trivial⟩) ((.agg (off := 2) rfl (.eq (.t rfl) (tV_F (Ts := [tIs (.int .i64 (((atT (stT (keepT ts)) i).exp).a)), tIs (.int .i64 (((atT (stT (keepT ts)) i).exp).b)), tIs (.int .i64 (((atT (stT (keepT ts)) i).exp).c)), tIs (.int .i64 (((atT (stT (keepT ts)) i).exp).d))]) rfl)) (Ts' := [tIs (.bool false), tSl encD ([]), tIs (.int .i64 (((atT (stT (keepT ts)) i).exp).a)), tIs (.int .i64 (((atT (stT (keepT ts)) i).exp).b)), tIs (.int .i64 (((atT (stT (keepT ts)) i).exp).c)), tIs (.int .i64 (((atT (stT (keepT ts)) i).exp).d))]) rfl rfl .nil)) rfl) (tV_F' rfl)) rfl ?_
     refine J.alloc (R := cTs [tIs (.bool false), tSl encD ([]), tIs (.int .i64 0), tIs (.int .i64 0), tIs (.int .i64 0), tIs (.int .i64 0)]) zr97 (fun _ => ⟨rfl, rfl, slP_nil _ _, rfl, rfl, rfl, rfl, rfl, rfl, rfl, rfl, rfl, trivial⟩) (ltN rfl) fun b8 => ?_
     refine J.store (.t rfl) (.eq (.t rfl) (tV_F (Ts := [tIs (.bool false), tSl encD ([]), tIs (.int .i64 (((atT (stT (keepT ts)) i).exp).a)), tIs (.int .i64 (((atT (stT (keepT ts)) i).exp).b)), tIs (.int .i64 (((atT (stT (keepT ts)) i).exp).c)), tIs (.int .i64 (((atT (stT (keepT ts)) i).exp).d))]) rfl)) .here sz97 (st_agg (Ts' := [tIs (.bool false), tSl encD ([]), tIs (.int .i64 (((atT (stT (keepT ts)) i).exp).a)), tIs (.int .i64 (((atT (stT (keepT ts)) i).exp).b)), tIs (.int .i64 (((atT (stT (keepT ts)) i).exp).c)), tIs (.int .i64 (((atT (stT (keepT ts)) i).exp).d))]) (o := 0) rfl) (J.e (JC.seq (JC.block ?_)))
     refine JC.loop2 (α := Nat) (β := Int) (fun j q => [(2, tSl encTm ([])), (3, tSl encTm ((stT (keepT ts)))), (6, sIs b 0 (O.length) c), (7, tIs (.int .i64 (j : Int))), (8, pOwn b8 0), (26, tIs (.int .i64 (i : Int))), (27, tSl encTm ((stT (keepT ts)))), (28, tIs (.int .i64 ((((stT (keepT ts))).length : Int)))), (29, tIs (.bool (decide ((i : Int) < (((stT (keepT ts))).length : Int))))), (30, tSl encTm ((stT (keepT ts)))), (31, tIs (.int .i64 (i : Int))), (32, tPtr (cEnc encTm (atT (stT (keepT ts)) i))), (33, tPtr (cDrop (cEnc encTm (atT (stT (keepT ts)) i)) 2)), (34, tV encMo ((atT (stT (keepT ts)) i).exp)), (35, tV encTm (Tm.mk (Z.mk false ([])) ((atT (stT (keepT ts)) i).exp)))]) (fun j q => [⟨b8, 97, cTs [tIs (.bool ((ofI q).neg)), tSl encD ((ofI q).abs), tIs (.int .i64 (((atT (stT (keepT ts)) i).exp).a)), tIs (.int .i64 (((atT (stT (keepT ts)) i).exp).b)), tIs (.int .i64 (((atT (stT (keepT ts)) i).exp).c)), tIs (.int .i64 (((atT (stT (keepT ts)) i).exp).d))]⟩, ⟨b, 97, cRow encTm O c⟩, ⟨pb, 97, cRow encTm ts pq⟩]) (fun j q => i ≤ j ∧ j ≤ (stT (keepT ts)).length ∧ sumRun (atT (stT (keepT ts)) i).exp q ((stT (keepT ts)).drop j) = sumRun (atT (stT (keepT ts)) i).exp 0 ((stT (keepT ts)).drop i) ∧ q.natAbs ≤ j * B32 ^ B) (fun j q => (stT (keepT ts)).length - j) i 0 ⟨by omega, by omega, rfl, by simp⟩ ?lsub2 ?round2
     case lsub2 => exact sub_trans (sub_heap (.keep (fun _ _ h => by rw [ofI_zero]; exact h) (.k (.k .nil)))) (sub_l ⟨.t rfl, .t rfl, .t rfl, .t rfl, .t rfl, .t rfl, .t rfl, .t rfl, .t rfl, .t rfl, .t rfl, .t rfl, .t rfl, .t rfl, .t rfl, trivial⟩)
     intro j q hinv
     obtain ⟨hij, hjl, hrun, hq⟩ := hinv
     have hqf := sum_fit hq (by omega)
     have hqf2 : (ofI q).abs.length ≤ B + 1 := hqf
     refine JC.seq (JC.seq ?_)
     refine JC.draw (Γ' := ?g1) mo (by kernel_rfl) ?tw1 ?k1
     case tw1 =>
      refine TW.M rfl rfl (TW.M rfl rfl ?_)
      refine TW.o (ot_len (.t rfl) sl54 rfl) rfl ?_
      refine TW.o (ot_lss (.t rfl) (.t rfl)) rfl (TW.M rfl rfl ?_)
      refine TW.opg rfl rfl rfl (ltN rfl) (fun hg => ot_move (.t rfl)) rfl (ltN rfl) ?_
      refine TW.opg rfl rfl rfl (ltN rfl) (fun hg => ot_move (.t rfl)) rfl (ltN rfl) ?_
      refine TW.opg rfl rfl rfl (ltN rfl) (fun hg => (by have hg' := hg; (try simp only [bsx] at hg'); exact ixo (z := atT (stT (keepT ts)) j) (.iff hg (.t rfl)) (.iff hg (.t rfl)) sl54 (by omega) (atT_at (by omega) (by omega)))) rfl (ltN rfl) ?_
      refine TW.opg rfl rfl rfl (ltN rfl) (fun hg => ofp (R' := cDrop (cEnc encTm (atT (stT (keepT ts)) j)) 2) (.iff hg (.t rfl)) fd97_1 (fun _ _ h => cDrop_mk h)) rfl (ltN rfl) ?_
      refine TW.opg rfl rfl rfl (ltN rfl) (fun hg => lda (.iff hg (.t rfl)) ag95 (ldFV (g := moT) (y := (atT (stT (keepT ts)) j).exp) rfl rfl)) rfl (ltN rfl) ?_
      refine TW.opg rfl rfl rfl (ltN rfl) (fun hg => ofa (.t rfl) fd97_1) rfl (ltN rfl) ?_
      refine TW.opg rfl rfl rfl (ltN rfl) (fun hg => oa (.iff hg (.t rfl)) (.head _) ag95 (cTs_ldV (g := moT) (y := ((atT (stT (keepT ts)) i).exp)) rfl rfl)) rfl (ltN rfl) ?_
      refine TW.opg rfl rfl rfl (ltN rfl) (fun hg => ot_eqA (.iff hg (.t rfl)) (.iff hg (.t rfl)) ar4_95) rfl (ltN rfl) ?_
      refine TW.o (ot_and2 (.t rfl) (.t rfl) .is) rfl ?_
      exact TW.nil
     refine JQ.then_normal ?_
     refine JC.cond (.t rfl) (fun hc3 => ?_) (fun hc3 => ?_)
     ·try simp only [bsx] at hc3
      have hs49 := hc3
      have hmj : atT (stT (keepT ts)) j ∈ ts := hm _ (atT_mem (by omega))
      have hzj := hz _ hmj
      refine JC.skip (JQ.then_normal (JC.block (JC.seq ?_)))
      refine JC.drawAt (Γ' := ?g2) 9 mo (by kernel_rfl) ?tw2 ?k2
      case tw2 =>
       refine TW.o (ofa (.t rfl) fd97_0) rfl ?_
       refine TW.o (oa (.t rfl) (.head _) ag25 (cTs_ldV (g := zT) (y := (ofI q)) rfl rfl)) rfl (TW.M rfl rfl (TW.M rfl rfl ?_))
       refine TW.o (ixo (z := atT (stT (keepT ts)) j) (.t rfl) (.t rfl) sl54 (by omega) (atT_at (by omega) (by omega))) rfl ?_
       refine TW.o (ofp (.t rfl) fd97_0 (fun _ _ h => h)) rfl ?_
       refine TW.o (lda (.t rfl) ag25 (ldFV0 (g := zT) (y := (atT (stT (keepT ts)) j).coef) rfl rfl)) rfl ?_
       refine TW.o (ot_eqt (T' := tV encI (ofI (q + zval (atT (stT (keepT ts)) j).coef))) (oc fn96 (intAdd_c (ofI q) ((atT (stT (keepT ts)) j).coef) (by omega) (by omega)) (.cons (.t rfl) (.cons (.t rfl) .nil))) (by rw [zval_ofI])) rfl ?_
       refine TW.o (ofa (.t rfl) fd97_0) rfl ?_
       exact TW.nil
      refine J.store (.t rfl) (.eq (.t rfl) (tV_F (Ts := [tIs (.bool ((ofI (q + zval (atT (stT (keepT ts)) j).coef)).neg)), tSl encD ((ofI (q + zval (atT (stT (keepT ts)) j).coef)).abs)]) rfl)) .here sz25 (st_agg (Ts' := [tIs (.bool ((ofI (q + zval (atT (stT (keepT ts)) j).coef)).neg)), tSl encD ((ofI (q + zval (atT (stT (keepT ts)) j).coef)).abs), tIs (.int .i64 (((atT (stT (keepT ts)) i).exp).a)), tIs (.int .i64 (((atT (stT (keepT ts)) i).exp).b)), tIs (.int .i64 (((atT (stT (keepT ts)) i).exp).c)), tIs (.int .i64 (((atT (stT (keepT ts)) i).exp).d))]) (o := 0) rfl) (J.e (JC.region (J.M rfl rfl ?_)))
      refine J.o (ot_add (.t rfl) .is (w64 (by omega) (by omega))) rfl (J.A rfl rfl (J.nil (JQ.block_normal ?_)))
      exact JQ.round2 (i := j) (i2 := q) (j + 1) (q + zval (atT (stT (keepT ts)) j).coef) ⟨by omega, by omega, by rw [← hrun]; exact sumRun_step (by omega) hs49.2, sum_next hq (hd _ hmj) (hz _ hmj)⟩ (by omega) (sub_trans (sub_heap (.k (.k (.k .nil)))) (sub_l ⟨.t rfl, .t rfl, .t rfl, .eq (.t rfl) (by first | rfl | (congr 3; omega) | (congr 2; omega)), .t rfl, .t rfl, .t rfl, .t rfl, .t rfl, .t rfl, .t rfl, .t rfl, .t rfl, .t rfl, .t rfl, trivial⟩))
     ·try simp only [bsx] at hc3
      have hs49 := hc3
      have hst := sumRun_stop (c := q) (show ¬ j < (stT (keepT ts)).length ∨ ¬ (atT (stT (keepT ts)) j).exp = (atT (stT (keepT ts)) i).exp from hs49.imp (fun h => by omega) id)
      rw [hrun] at hst
      have hlt : i < j := by rcases Nat.lt_or_eq_of_le hij with h | h; exact h; subst h; rcases hs49 with q | q; omega; exact absurd rfl q
      refine JC.exit (JQ.then_exit (JQ.then_exit (JQ.block_exit (JQ.then_normal (JC.g ?_)))))
      refine J.o (ofa (.t rfl) fd97_0) rfl ?_
      refine J.o (oa (.t rfl) (.head _) ag25 (cTs_ldV (g := zT) (y := (ofI q)) rfl rfl)) rfl ?_
      refine J.o (ot_eqt (T' := tIs (.int .i64 (sgn q))) (oc fn35 (intSign_c (ofI q) (by omega)) (.cons (.t rfl) .nil)) (by rw [zval_ofI])) rfl ?_
      refine J.o (ot_neq (.t rfl) .is) rfl (J.e ?_)
      refine JC.cond (.t rfl) (fun hc4 => ?_) (fun hc4 => ?_)
      ·try simp only [bsx] at hc4
       have hs64 := hc4
       refine JC.region (J.M rfl rfl ?_)
       refine J.o (oa (.t rfl) (.head _) ag97 (cTs_ldV (g := tmT) (y := (Tm.mk (ofI q) ((atT (stT (keepT ts)) i).exp))) rfl rfl)) rfl ?_
       refine J.o (ot_buildSlice (E := encTm) (zs := [Tm.mk (ofI q) ((atT (stT (keepT ts)) i).exp)]) sl54 (.cons (.t rfl) .nil) rfl zr97 rfl (by decide) (by decide)) rfl ?_
       refine J.append (E := encTm) (xs := O) (ys := [Tm.mk (ofI q) ((atT (stT (keepT ts)) i).exp)]) (.t rfl) rfl (.t rfl) sl54 rfl zr97 rfl (.there .here) (by simp <;> omega) (by simp <;> omega) (ltN rfl) fun b68 c68 => (J.A rfl rfl (J.nil (JQ.block_normal ?_)))
       have hq0 : ¬ q = 0 := fun h => hs64 (by rw [h]; rfl)
       exact JQ.round5 (i := false) (i2 := i) (i3 := O) (i4 := b) (i5 := c) false j (O ++ [Tm.mk (ofI q) ((atT (stT (keepT ts)) i).exp)]) b68 c68 ⟨hjl, merge_yes (by omega) hO hst hq0, by simp; omega, fun h => by cases h⟩ (by omega) (sub_trans (sub_heap (.keep (fun _ _ h => by first | exact h | simpa using h) (.drop (.k .nil)))) (sub_l ⟨.t rfl, .t rfl, .eq (.t rfl) (by first | rfl | (congr 3; omega) | (congr 2; omega)), .t rfl, trivial⟩))
      ·try simp only [bsx] at hc4
       have hs64 := hc4
       refine JC.skip (JQ.block_normal ?_)
       have hq0 : q = 0 := by rcases sgn_cases q with h | h | h <;> omega
       exact JQ.round5 (i := false) (i2 := i) (i3 := O) (i4 := b) (i5 := c) false j O b c ⟨hjl, merge_no (by omega) hO hst hq0, by omega, fun h => by cases h⟩ (by omega) (sub_trans (sub_heap (.drop (.k (.k .nil)))) (sub_l ⟨.t rfl, .t rfl, .t rfl, .t rfl, trivial⟩))
    ·try simp only [bsx] at hc2
     have hs29 := hc2
     refine JC.exit (JQ.then_exit (JQ.then_exit (JQ.block_exit (JQ.then_normal (JC.seq ?_)))))
     refine JC.weak (sub_freeze0 (E := encTm) (xs := O) (n := O.length) (c := c) [6] ⟨rfl, trivial⟩ .here rfl (by omega)) (JC.region (J.M rfl rfl ?_))
     refine J.o (oc fn113 (clip_c O (by omega)) (.cons (.t rfl) .nil)) rfl (J.A rfl rfl (J.e (JC.ret ?_)))
     exact (JQ.retL1 rfl (.head _) (fun _ _ h => h) (.eq (.t rfl) (by rw [merge_end (by omega) hO mergeT_nil, normS_st]))).1
   ·change JC _ _ _ [(2, tSl encTm ([])), (3, tSl encTm ((stT (keepT ts)))), (6, tIs (.slice none 0 0)), (7, tIs (.int .i64 (i : Int)))] [⟨pb, 97, cRow encTm ts pq⟩]
    obtain ⟨hi, hO, hOl, hOe⟩ := hinv
    refine JC.seq (JC.g (J.M rfl rfl (J.M rfl rfl ?_)))
    refine J.o (ot_len (.t rfl) sl54 rfl) rfl ?_
    refine J.o (ot_lss (.t rfl) (.t rfl)) rfl (J.e ?_)
    refine JC.cond (.t rfl) (fun hc5 => ?_) (fun hc5 => ?_)
    ·try simp only [bsx] at hc5
     have hs29 := hc5
     refine JC.skip (JQ.then_normal (JC.block (JC.g (J.M rfl rfl (J.M rfl rfl ?_)))))
     refine J.o (ixo (z := atT (stT (keepT ts)) i) (.t rfl) (.t rfl) sl54 (by omega) (atT_at (by omega) (by omega))) rfl ?_
     refine J.o (ofp (R' := cDrop (cEnc encTm (atT (stT (keepT ts)) i)) 2) (.t rfl) fd97_1 (fun _ _ h => cDrop_mk h)) rfl ?_
     refine J.o (lda (.t rfl) ag95 (ldFV (g := moT) (y := (atT (stT (keepT ts)) i).exp) rfl rfl)) rfl ?_
     refine J.o (ot_eqt (T' := tV encTm (Tm.mk (Z.mk false ([])) ((atT (stT (keepT ts)) i).exp))) (ot_build (Ts := [tIs (.bool false), tSl encD ([]), tIs (.int .i64 0), tIs (.int .i64 0), tIs (.int .i64 0), tIs (.int .i64 0)]) pl97 (fun _ => ⟨rfl, rfl, slP_nil _ _, rfl, rfl, rfl, rfl, rfl, rfl, rfl, rfl, rfl, trivial⟩) ((.agg (off := 2) rfl (.eq (.t rfl) (tV_F (Ts := [tIs (.int .i64 (((atT (stT (keepT ts)) i).exp).a)), tIs (.int .i64 (((atT (stT (keepT ts)) i).exp).b)), tIs (.int .i64 (((atT (stT (keepT ts)) i).exp).c)), tIs (.int .i64 (((atT (stT (keepT ts)) i).exp).d))]) rfl)) (Ts' := [tIs (.bool false), tSl encD ([]), tIs (.int .i64 (((atT (stT (keepT ts)) i).exp).a)), tIs (.int .i64 (((atT (stT (keepT ts)) i).exp).b)), tIs (.int .i64 (((atT (stT (keepT ts)) i).exp).c)), tIs (.int .i64 (((atT (stT (keepT ts)) i).exp).d))]) rfl rfl .nil)) rfl) (tV_F' rfl)) rfl ?_
     refine J.alloc (R := cTs [tIs (.bool false), tSl encD ([]), tIs (.int .i64 0), tIs (.int .i64 0), tIs (.int .i64 0), tIs (.int .i64 0)]) zr97 (fun _ => ⟨rfl, rfl, slP_nil _ _, rfl, rfl, rfl, rfl, rfl, rfl, rfl, rfl, rfl, trivial⟩) (ltN rfl) fun b8 => ?_
     refine J.store (.t rfl) (.eq (.t rfl) (tV_F (Ts := [tIs (.bool false), tSl encD ([]), tIs (.int .i64 (((atT (stT (keepT ts)) i).exp).a)), tIs (.int .i64 (((atT (stT (keepT ts)) i).exp).b)), tIs (.int .i64 (((atT (stT (keepT ts)) i).exp).c)), tIs (.int .i64 (((atT (stT (keepT ts)) i).exp).d))]) rfl)) .here sz97 (st_agg (Ts' := [tIs (.bool false), tSl encD ([]), tIs (.int .i64 (((atT (stT (keepT ts)) i).exp).a)), tIs (.int .i64 (((atT (stT (keepT ts)) i).exp).b)), tIs (.int .i64 (((atT (stT (keepT ts)) i).exp).c)), tIs (.int .i64 (((atT (stT (keepT ts)) i).exp).d))]) (o := 0) rfl) (J.e (JC.seq (JC.block ?_)))
     refine JC.loop2 (α := Nat) (β := Int) (fun j q => [(2, tSl encTm ([])), (3, tSl encTm ((stT (keepT ts)))), (6, tIs (.slice none 0 0)), (7, tIs (.int .i64 (j : Int))), (8, pOwn b8 0), (26, tIs (.int .i64 (i : Int))), (27, tSl encTm ((stT (keepT ts)))), (28, tIs (.int .i64 ((((stT (keepT ts))).length : Int)))), (29, tIs (.bool (decide ((i : Int) < (((stT (keepT ts))).length : Int))))), (30, tSl encTm ((stT (keepT ts)))), (31, tIs (.int .i64 (i : Int))), (32, tPtr (cEnc encTm (atT (stT (keepT ts)) i))), (33, tPtr (cDrop (cEnc encTm (atT (stT (keepT ts)) i)) 2)), (34, tV encMo ((atT (stT (keepT ts)) i).exp)), (35, tV encTm (Tm.mk (Z.mk false ([])) ((atT (stT (keepT ts)) i).exp)))]) (fun j q => [⟨b8, 97, cTs [tIs (.bool ((ofI q).neg)), tSl encD ((ofI q).abs), tIs (.int .i64 (((atT (stT (keepT ts)) i).exp).a)), tIs (.int .i64 (((atT (stT (keepT ts)) i).exp).b)), tIs (.int .i64 (((atT (stT (keepT ts)) i).exp).c)), tIs (.int .i64 (((atT (stT (keepT ts)) i).exp).d))]⟩, ⟨pb, 97, cRow encTm ts pq⟩]) (fun j q => i ≤ j ∧ j ≤ (stT (keepT ts)).length ∧ sumRun (atT (stT (keepT ts)) i).exp q ((stT (keepT ts)).drop j) = sumRun (atT (stT (keepT ts)) i).exp 0 ((stT (keepT ts)).drop i) ∧ q.natAbs ≤ j * B32 ^ B) (fun j q => (stT (keepT ts)).length - j) i 0 ⟨by omega, by omega, rfl, by simp⟩ ?lsub3 ?round3
     case lsub3 => exact sub_trans (sub_heap (.keep (fun _ _ h => by rw [ofI_zero]; exact h) (.k .nil))) (sub_l ⟨.t rfl, .t rfl, .t rfl, .t rfl, .t rfl, .t rfl, .t rfl, .t rfl, .t rfl, .t rfl, .t rfl, .t rfl, .t rfl, .t rfl, .t rfl, trivial⟩)
     intro j q hinv
     obtain ⟨hij, hjl, hrun, hq⟩ := hinv
     have hqf := sum_fit hq (by omega)
     have hqf2 : (ofI q).abs.length ≤ B + 1 := hqf
     refine JC.seq (JC.seq ?_)
     refine JC.draw (Γ' := ?g3) mo (by kernel_rfl) ?tw3 ?k3
     case tw3 =>
      refine TW.M rfl rfl (TW.M rfl rfl ?_)
      refine TW.o (ot_len (.t rfl) sl54 rfl) rfl ?_
      refine TW.o (ot_lss (.t rfl) (.t rfl)) rfl (TW.M rfl rfl ?_)
      refine TW.opg rfl rfl rfl (ltN rfl) (fun hg => ot_move (.t rfl)) rfl (ltN rfl) ?_
      refine TW.opg rfl rfl rfl (ltN rfl) (fun hg => ot_move (.t rfl)) rfl (ltN rfl) ?_
      refine TW.opg rfl rfl rfl (ltN rfl) (fun hg => (by have hg' := hg; (try simp only [bsx] at hg'); exact ixo (z := atT (stT (keepT ts)) j) (.iff hg (.t rfl)) (.iff hg (.t rfl)) sl54 (by omega) (atT_at (by omega) (by omega)))) rfl (ltN rfl) ?_
      refine TW.opg rfl rfl rfl (ltN rfl) (fun hg => ofp (R' := cDrop (cEnc encTm (atT (stT (keepT ts)) j)) 2) (.iff hg (.t rfl)) fd97_1 (fun _ _ h => cDrop_mk h)) rfl (ltN rfl) ?_
      refine TW.opg rfl rfl rfl (ltN rfl) (fun hg => lda (.iff hg (.t rfl)) ag95 (ldFV (g := moT) (y := (atT (stT (keepT ts)) j).exp) rfl rfl)) rfl (ltN rfl) ?_
      refine TW.opg rfl rfl rfl (ltN rfl) (fun hg => ofa (.t rfl) fd97_1) rfl (ltN rfl) ?_
      refine TW.opg rfl rfl rfl (ltN rfl) (fun hg => oa (.iff hg (.t rfl)) (.head _) ag95 (cTs_ldV (g := moT) (y := ((atT (stT (keepT ts)) i).exp)) rfl rfl)) rfl (ltN rfl) ?_
      refine TW.opg rfl rfl rfl (ltN rfl) (fun hg => ot_eqA (.iff hg (.t rfl)) (.iff hg (.t rfl)) ar4_95) rfl (ltN rfl) ?_
      refine TW.o (ot_and2 (.t rfl) (.t rfl) .is) rfl ?_
      exact TW.nil
     refine JQ.then_normal ?_
     refine JC.cond (.t rfl) (fun hc6 => ?_) (fun hc6 => ?_)
     ·try simp only [bsx] at hc6
      have hs49 := hc6
      have hmj : atT (stT (keepT ts)) j ∈ ts := hm _ (atT_mem (by omega))
      have hzj := hz _ hmj
      refine JC.skip (JQ.then_normal (JC.block (JC.seq ?_)))
      refine JC.drawAt (Γ' := ?g4) 9 mo (by kernel_rfl) ?tw4 ?k4
      case tw4 =>
       refine TW.o (ofa (.t rfl) fd97_0) rfl ?_
       refine TW.o (oa (.t rfl) (.head _) ag25 (cTs_ldV (g := zT) (y := (ofI q)) rfl rfl)) rfl (TW.M rfl rfl (TW.M rfl rfl ?_))
       refine TW.o (ixo (z := atT (stT (keepT ts)) j) (.t rfl) (.t rfl) sl54 (by omega) (atT_at (by omega) (by omega))) rfl ?_
       refine TW.o (ofp (.t rfl) fd97_0 (fun _ _ h => h)) rfl ?_
       refine TW.o (lda (.t rfl) ag25 (ldFV0 (g := zT) (y := (atT (stT (keepT ts)) j).coef) rfl rfl)) rfl ?_
       refine TW.o (ot_eqt (T' := tV encI (ofI (q + zval (atT (stT (keepT ts)) j).coef))) (oc fn96 (intAdd_c (ofI q) ((atT (stT (keepT ts)) j).coef) (by omega) (by omega)) (.cons (.t rfl) (.cons (.t rfl) .nil))) (by rw [zval_ofI])) rfl ?_
       refine TW.o (ofa (.t rfl) fd97_0) rfl ?_
       exact TW.nil
      refine J.store (.t rfl) (.eq (.t rfl) (tV_F (Ts := [tIs (.bool ((ofI (q + zval (atT (stT (keepT ts)) j).coef)).neg)), tSl encD ((ofI (q + zval (atT (stT (keepT ts)) j).coef)).abs)]) rfl)) .here sz25 (st_agg (Ts' := [tIs (.bool ((ofI (q + zval (atT (stT (keepT ts)) j).coef)).neg)), tSl encD ((ofI (q + zval (atT (stT (keepT ts)) j).coef)).abs), tIs (.int .i64 (((atT (stT (keepT ts)) i).exp).a)), tIs (.int .i64 (((atT (stT (keepT ts)) i).exp).b)), tIs (.int .i64 (((atT (stT (keepT ts)) i).exp).c)), tIs (.int .i64 (((atT (stT (keepT ts)) i).exp).d))]) (o := 0) rfl) (J.e (JC.region (J.M rfl rfl ?_)))
      refine J.o (ot_add (.t rfl) .is (w64 (by omega) (by omega))) rfl (J.A rfl rfl (J.nil (JQ.block_normal ?_)))
      exact JQ.round2 (i := j) (i2 := q) (j + 1) (q + zval (atT (stT (keepT ts)) j).coef) ⟨by omega, by omega, by rw [← hrun]; exact sumRun_step (by omega) hs49.2, sum_next hq (hd _ hmj) (hz _ hmj)⟩ (by omega) (sub_trans (sub_heap (.k (.k .nil))) (sub_l ⟨.t rfl, .t rfl, .t rfl, .eq (.t rfl) (by first | rfl | (congr 3; omega) | (congr 2; omega)), .t rfl, .t rfl, .t rfl, .t rfl, .t rfl, .t rfl, .t rfl, .t rfl, .t rfl, .t rfl, .t rfl, trivial⟩))
     ·try simp only [bsx] at hc6
      have hs49 := hc6
      have hst := sumRun_stop (c := q) (show ¬ j < (stT (keepT ts)).length ∨ ¬ (atT (stT (keepT ts)) j).exp = (atT (stT (keepT ts)) i).exp from hs49.imp (fun h => by omega) id)
      rw [hrun] at hst
      have hlt : i < j := by rcases Nat.lt_or_eq_of_le hij with h | h; exact h; subst h; rcases hs49 with q | q; omega; exact absurd rfl q
      refine JC.exit (JQ.then_exit (JQ.then_exit (JQ.block_exit (JQ.then_normal (JC.g ?_)))))
      refine J.o (ofa (.t rfl) fd97_0) rfl ?_
      refine J.o (oa (.t rfl) (.head _) ag25 (cTs_ldV (g := zT) (y := (ofI q)) rfl rfl)) rfl ?_
      refine J.o (ot_eqt (T' := tIs (.int .i64 (sgn q))) (oc fn35 (intSign_c (ofI q) (by omega)) (.cons (.t rfl) .nil)) (by rw [zval_ofI])) rfl ?_
      refine J.o (ot_neq (.t rfl) .is) rfl (J.e ?_)
      refine JC.cond (.t rfl) (fun hc7 => ?_) (fun hc7 => ?_)
      ·try simp only [bsx] at hc7
       have hs64 := hc7
       refine JC.region (J.M rfl rfl ?_)
       refine J.o (oa (.t rfl) (.head _) ag97 (cTs_ldV (g := tmT) (y := (Tm.mk (ofI q) ((atT (stT (keepT ts)) i).exp))) rfl rfl)) rfl ?_
       refine J.o (ot_buildSlice (E := encTm) (zs := [Tm.mk (ofI q) ((atT (stT (keepT ts)) i).exp)]) sl54 (.cons (.t rfl) .nil) rfl zr97 rfl (by decide) (by decide)) rfl ?_
       refine J.append0 (E := encTm) (ys := [Tm.mk (ofI q) ((atT (stT (keepT ts)) i).exp)]) (.sub (.t rfl) nil_z) (.t rfl) (by simp) sl54 rfl zr97 rfl (by simp <;> omega) (by simp <;> omega) (ltN rfl) fun b68 c68 => (J.A rfl rfl (J.nil (JQ.block_normal ?_)))
       have hq0 : ¬ q = 0 := fun h => hs64 (by rw [h]; rfl)
       have hO0 := hOe rfl
       exact JQ.round5 (i := true) (i2 := i) (i3 := O) (i4 := b) (i5 := c) false j (O ++ [Tm.mk (ofI q) ((atT (stT (keepT ts)) i).exp)]) b68 c68 ⟨hjl, merge_yes (by omega) hO hst hq0, by simp; omega, fun h => by cases h⟩ (by omega) (sub_trans (sub_heap (.keep (cRow_eq (by rw [hO0]; rfl)) (.drop (.k .nil)))) (sub_l ⟨.t rfl, .t rfl, .eq (.t rfl) (by rw [hO0]; rfl), .t rfl, trivial⟩))
      ·try simp only [bsx] at hc7
       have hs64 := hc7
       refine JC.skip (JQ.block_normal ?_)
       have hq0 : q = 0 := by rcases sgn_cases q with h | h | h <;> omega
       exact JQ.round5 (i := true) (i2 := i) (i3 := O) (i4 := b) (i5 := c) true j O 0 0 ⟨hjl, merge_no (by omega) hO hst hq0, by omega, fun _ => hOe rfl⟩ (by omega) (sub_trans (sub_heap (.drop (.k .nil))) (sub_l ⟨.t rfl, .t rfl, .t rfl, .t rfl, trivial⟩))
    ·try simp only [bsx] at hc5
     have hs29 := hc5
     refine JC.exit (JQ.then_exit (JQ.then_exit (JQ.block_exit (JQ.then_normal (JC.g (J.M rfl rfl ?_))))))
     refine J.o (oc fn113 (clip_c ([]) (by simp)) (.cons (.sub (.t rfl) nil_sl) .nil)) rfl (J.A rfl rfl (J.e (JC.ret ?_)))
     exact (JQ.retL1 rfl (.head _) (fun _ _ h => h) (.eq (.t rfl) (by rw [← normS_st, ← merge_end (by omega) hO mergeT_nil, hOe rfl]))).1
 ·change JC _ _ _ [(2, tSl encTm ([])), (3, tIs (.slice none 0 0)), (9, sIs pb 0 (ts.length) pc), (10, tIs (.int .i64 (((ts.length : Nat) : Int)))), (11, tIs (.int .i64 (k : Int)))] [⟨pb, 97, cRow encTm ts pq⟩]
  obtain ⟨hk, he⟩ := hinv
  have hkk := keepT_len (ts.take k)
  rw [List.length_take] at hkk
  refine (JC.g ?_)
  refine J.o (ot_lss (.t rfl) (.t rfl)) rfl (J.e (JC.seq ?_))
  refine JC.cond (.t rfl) (fun hc8 => ?_) (fun hc8 => ?_)
  ·try simp only [bsx] at hc8
   have hs12 := hc8
   refine JC.skip (JQ.then_normal (JC.seq (JC.block (JC.g ?_))))
   refine J.o (ot_eqt (T' := pOwn pb (0 + k * 6)) (oix (.t rfl) (.t rfl) sl54 (by omega) (by omega)) (own_off2 (by omega))) rfl ?_
   refine J.o (oa (.t rfl) (.head _) ag97 (row_agg rfl (atT_some (by omega)))) rfl ?_
   refine J.alloc (R := cTs [tIs (.bool false), tSl encD ([]), tIs (.int .i64 0), tIs (.int .i64 0), tIs (.int .i64 0), tIs (.int .i64 0)]) zr97 (fun _ => ⟨rfl, rfl, slP_nil _ _, rfl, rfl, rfl, rfl, rfl, rfl, rfl, rfl, rfl, trivial⟩) (ltN rfl) fun b5 => ?_
   refine J.store (.t rfl) (.eq (.t rfl) (tV_F (Ts := [tIs (.bool (((atT ts k).coef).neg)), tSl encD (((atT ts k).coef).abs), tIs (.int .i64 (((atT ts k).exp).a)), tIs (.int .i64 (((atT ts k).exp).b)), tIs (.int .i64 (((atT ts k).exp).c)), tIs (.int .i64 (((atT ts k).exp).d))]) rfl)) .here sz97 (st_agg (Ts' := [tIs (.bool (((atT ts k).coef).neg)), tSl encD (((atT ts k).coef).abs), tIs (.int .i64 (((atT ts k).exp).a)), tIs (.int .i64 (((atT ts k).exp).b)), tIs (.int .i64 (((atT ts k).exp).c)), tIs (.int .i64 (((atT ts k).exp).d))]) (o := 0) rfl) (J.e (JC.seq ?_))
   refine JC.weak (sub_freezeP (R' := cEnc encTm (atT ts k)) [5] ⟨rfl, trivial⟩ .here (cTs_F (f := tmT) (x := atT ts k) rfl rfl)) (JC.region ?_)
   refine J.o (ofp (R' := cDrop (cEnc encTm (atT ts k)) 2) (.t rfl) fd97_1 (fun _ _ h => cDrop_mk h)) rfl ?_
   refine J.o (ot_sliceA (.t rfl) ar4_95 tm_exp) rfl ?_
   refine J.o (oc fn109 (min_c ((atT ts k).exp.list) (by simp [Mo.list])) (.cons (.t rfl) .nil)) rfl ?_
   refine J.o (ot_geq (.t rfl) .is) rfl (J.e ?_)
   refine JC.cond (.t rfl) (fun hc9 => ?_) (fun hc9 => ?_)
   ·try simp only [bsx] at hc9
    have hs18 := hc9
    refine JC.region (J.M rfl rfl ?_)
    refine J.o (lda (.t rfl) ag97 ldp_whole) rfl ?_
    refine J.o (ot_buildSlice (E := encTm) (zs := [atT ts k]) sl54 (.cons (.t rfl) .nil) rfl zr97 rfl (by decide) (by decide)) rfl ?_
    refine J.append0 (E := encTm) (ys := [atT ts k]) (.sub (.t rfl) nil_z) (.t rfl) (by simp) sl54 rfl zr97 rfl (by simp <;> omega) (by simp <;> omega) (ltN rfl) fun b22 c22 => (J.A rfl rfl (J.nil (JQ.block_normal (JQ.then_normal (JC.region ?_)))))
    refine J.o (ot_add (.t rfl) .is (w64 (by omega) (by omega))) rfl (J.M rfl rfl (J.nil ?_))
    have hyes := keepT_yes (show k < ts.length by omega) (okT_iff.2 hs18)
    rw [he rfl, List.nil_append] at hyes
    exact JQ.round4 (i := true) (i2 := k) (i3 := b) (i4 := c) false (k + 1) b22 c22 ⟨by omega, fun h => by cases h⟩ (by omega) (sub_trans (sub_heap (.keep (cRow_eq hyes) (.k .nil))) (sub_l ⟨.t rfl, .eq (.t rfl) (by rw [hyes]), .t rfl, .t rfl, .eq (.t rfl) (by first | rfl | (congr 3; omega) | (congr 2; omega)), trivial⟩))
   ·try simp only [bsx] at hc9
    have hs18 := hc9
    refine JC.skip (JQ.block_normal (JQ.then_normal (JC.region ?_)))
    refine J.o (ot_add (.t rfl) .is (w64 (by omega) (by omega))) rfl (J.M rfl rfl (J.nil ?_))
    have hno := keepT_no (show k < ts.length by omega) (fun h => hs18 (okT_iff.1 h))
    exact JQ.round4 (i := true) (i2 := k) (i3 := b) (i4 := c) true (k + 1) 0 0 ⟨by omega, fun _ => hno ▸ he rfl⟩ (by omega) (sub_trans (sub_heap (.k .nil)) (sub_l ⟨.t rfl, .t rfl, .t rfl, .t rfl, .eq (.t rfl) (by first | rfl | (congr 3; omega) | (congr 2; omega)), trivial⟩))
  ·try simp only [bsx] at hc8
   have hs12 := hc8
   have hkt : keepT (ts.take k) = keepT ts := by rw [List.take_of_length_le (by omega)]
   refine JC.exit (JQ.then_exit (JQ.then_exit (JQ.block_exit (JQ.then_normal (JC.g (J.M rfl rfl ?_))))))
   refine J.o (oc fn110 (sort0_c  ) (.cons (.t rfl) (.cons (.func (fun _ => rfl)) .nil))) rfl (J.e (JC.g ?_))
   refine J.a .is rfl (J.e (JC.seq (JC.g ?_)))
   refine J.a .is rfl (J.e (JC.block ?_))
   refine JC.loop (ι := Nat) (fun i => [(2, tSl encTm ([])), (3, tIs (.slice none 0 0)), (6, tIs (.slice none 0 0)), (7, tIs (.int .i64 0))]) (fun i => [⟨pb, 97, cRow encTm ts pq⟩]) (fun i => i = 0) (fun i => i) 0 (by omega) ?lsub4 ?round4
   case lsub4 => exact sub_trans (sub_heap (.k .nil)) (sub_l ⟨.t rfl, .t rfl, .t rfl, .t rfl, trivial⟩)
   intro i hinv
   refine JC.seq (JC.g (J.M rfl rfl (J.M rfl rfl ?_)))
   refine J.o (ot_len_nil (.t rfl) sl54 rfl) rfl ?_
   refine J.o (ot_lss (.t rfl) (.t rfl)) rfl (J.e ?_)
   refine JC.cond_false (.eq (.t rfl) (by rfl)) ?_
   refine JC.exit (JQ.then_exit (JQ.then_exit (JQ.block_exit (JQ.then_normal (JC.g (J.M rfl rfl ?_))))))
   refine J.o (oc fn113 (clip_c ([]) (by simp)) (.cons (.sub (.t rfl) nil_sl) .nil)) rfl (J.A rfl rfl (J.e (JC.ret ?_)))
   exact (JQ.retL1 rfl (.head _) (fun _ _ h => h) (.eq (.t rfl) (by rw [← normS_st, ← hkt, he rfl]; exact congrArg _ mergeT_nil.symm))).1

theorem sptermsLG_c {B : Nat} (pb pc pq : Nat) (ts : List Tm) (hl : ts.length ≤ 4294967295) (hd : ∀ t ∈ ts, Digs t.coef.abs) (hz : ∀ t ∈ ts, t.coef.abs.length ≤ B) (hb : B ≤ 1000000000000) : CtrL Try.prog 71 [sIs pb 0 (ts.length) pc] pb 97 (cRow encTm ts pq) (cRow encTm ts pq) (tClo 102 [tPtr (cTs [tSl encTm (normS ts)])]) := by
 refine CtrL.of Try.func71 rfl Try.ntmps71 (Nat.le_of_ble_eq_true rfl) fun w0 M0 => (JC.g ?_)
 refine J.a .is rfl (J.e (JC.g (J.M rfl rfl ?_)))
 refine J.callL (R' := cRow encTm ts pq) (Us := []) (cap := []) fn93 (.func (fun _ => rfl)) (normLG_c pb pc pq ts hl hd hz hb) (.cons (.t rfl) .nil) (fun _ => trivial) .here (ltN rfl) ?_
 refine J.alloc (R := cTs [tSl encTm ([])]) zr54 (fun _ => ⟨slP_nil _ _, rfl, trivial⟩) (ltN rfl) fun b3 => ?_
 refine J.store (.t rfl) (.t rfl) .here sz54 (st_cell (o := 0) one_sl rfl) (J.e (JC.seq ?_))
 refine JC.weak (sub_freezeP (R' := cTs [tSl encTm (normS ts)]) [3] ⟨rfl, trivial⟩ .here (fun _ _ h => h)) (JC.region ?_)
 refine J.o (ot_clo (.cons (.t rfl) .nil)) rfl (J.A rfl rfl (J.e (JC.ret ?_)))
 exact (JQ.retL1 rfl (.head _) (fun _ _ h => h) (.t rfl)).1

theorem contN_c {B : Nat} (pb pc pq : Nat) (ts : List Tm) (hl : ts.length ≤ 4294967295) (hd : ∀ t ∈ ts, Digs t.coef.abs) (hz : ∀ t ∈ ts, t.coef.abs.length ≤ B) (hb : B ≤ 1000000000000) (hz2 : ∀ t ∈ normS ts, t.coef.abs.length ≤ 100000000000) : CtrL Try.prog 99 [sIs pb 0 (ts.length) pc] pb 97 (cRow encTm ts pq) (cRow encTm ts pq) (tV encI (ofI (contS ts))) := by
 have hnl : (normS ts).length ≤ 4294967296 := Nat.le_trans (normS_len ts) (by omega)
 refine CtrL.ofM Try.func99 rfl Try.ntmps99 (Nat.le_of_ble_eq_true rfl) fun w0 M0 => (JC.g ?_)
 refine J.alloc (R := cTs [tIs (.bool false), tSl encD ([])]) zr25 (fun _ => ⟨rfl, rfl, slP_nil _ _, rfl, trivial⟩) (ltN rfl) fun b2 => (J.e (JC.g ?_))
 refine J.o (oc fn37 (intOf_c 0 (by omega)) (.cons .is .nil)) rfl ?_
 refine J.alloc (R := cTs [tIs (.bool false), tSl encD ([])]) zr25 (fun _ => ⟨rfl, rfl, slP_nil _ _, rfl, trivial⟩) (ltN rfl) fun b3 => ?_
 refine J.store (.t rfl) (.eq (.t rfl) (tV_F (Ts := [tIs (.bool ((ofI 0).neg)), tSl encD ((ofI 0).abs)]) rfl)) .here sz25 (st_agg (Ts' := [tIs (.bool ((ofI 0).neg)), tSl encD ((ofI 0).abs)]) (o := 0) rfl) (J.e (JC.seq (JC.g (J.M rfl rfl ?_))))
 refine J.callL (R' := cRow encTm ts pq) (Us := []) (cap := []) fn71 (.func (fun _ => rfl)) (sptermsLG_c pb pc pq ts hl hd hz hb) (.cons (.t rfl) .nil) (fun _ => trivial) (.there (.there .here)) (ltN rfl) (J.e (JC.block ?_))
 refine JC.rangeFunc (ps := [9, 10]) (f := 102) (Us := [tPtr (cTs [tSl encTm (normS ts)])]) (n := (normS ts).length) (Ts := fun k => [tV encMo ((atT (normS ts) k).exp), tV encI (ofI (zval (atT (normS ts) k).coef))]) (Γ0 := [(2, pOwn b2 0), (3, pOwn b3 0), (8, tClo 102 [tPtr (cTs [tSl encTm (normS ts)])])]) (fun k => [⟨b3, 25, cTs [tIs (.bool ((ofI (gcdT ((normS ts).take k))).neg)), tSl encD ((ofI (gcdT ((normS ts).take k))).abs)]⟩, ⟨b2, 25, cTs [tIs (.bool false), tSl encD ([])]⟩, ⟨pb, 97, cRow encTm ts pq⟩]) (.t rfl) fn102 (termsY (normS ts) hnl (fun t h => Nat.le_trans (hz2 t h) (by omega))) rfl ?rs0 (fun _ => rfl) rfl (fun _ => rfl) ?rr0 ?rd0
 case rs0 => exact sub_trans (sub_heap (.keep (fun _ _ h => by first | exact h | simpa using h) (.k (.k .nil)))) (sub_l ⟨.t rfl, .t rfl, .t rfl, trivial⟩)
 case rr0 =>
  intro k hk l w0 M0 L Q1 hend1
  have hgl := gcdT_lenB normS_ofI hz2 (k := k) (by omega)
  have hmk := coefB (normS_ofI (atT_mem hk)) (hz2 _ (atT_mem hk))
  refine JCR.weak (Γ' := [(10, tV encI (ofI (zval (atT (normS ts) k).coef))), (9, tV encMo ((atT (normS ts) k).exp)), (2, pOwn b2 0), (3, pOwn b3 0), (8, tClo 102 [tPtr (cTs [tSl encTm (normS ts)])])]) (H' := [⟨b3, 25, cTs [tIs (.bool ((ofI (gcdT ((normS ts).take k))).neg)), tSl encD ((ofI (gcdT ((normS ts).take k))).abs)]⟩, ⟨b2, 25, cTs [tIs (.bool false), tSl encD ([])]⟩, ⟨pb, 97, cRow encTm ts pq⟩]) (fun _ _ h => h) ?_
  refine JCR.region ?_
  refine J.alloc (R := cTs [tIs (.bool false), tSl encD ([])]) zr25 (fun _ => ⟨rfl, rfl, slP_nil _ _, rfl, trivial⟩) (ltN rfl) fun b5 => ?_
  refine J.store (.t rfl) (.eq (.t rfl) (tV_F (Ts := [tIs (.bool ((ofI (zval (atT (normS ts) k).coef)).neg)), tSl encD ((ofI (zval (atT (normS ts) k).coef)).abs)]) rfl)) .here sz25 (st_agg (Ts' := [tIs (.bool ((ofI (zval (atT (normS ts) k).coef)).neg)), tSl encD ((ofI (zval (atT (normS ts) k).coef)).abs)]) (o := 0) rfl) (J.nil ?_)
  refine hend1 _ _ fun w1 M1 L1 Q2 hend2 => ?_
  refine JCR.block (JCR.region ?_)
  refine J.o (oa (.t rfl) (.tail _ (.head _)) ag25 (cTs_ldV (g := zT) (y := (ofI (gcdT ((normS ts).take k)))) rfl rfl)) rfl ?_
  refine J.o (oa (.t rfl) (.head _) ag25 (cTs_ldV (g := zT) (y := (ofI (zval (atT (normS ts) k).coef))) rfl rfl)) rfl ?_
  refine J.o (ot_eqt (T' := tV encI (ofI (Int.gcd (gcdT ((normS ts).take k)) (zval (atT (normS ts) k).coef)))) (oc fn117 (dgcdG_c (ofI (gcdT ((normS ts).take k))) (ofI (zval (atT (normS ts) k).coef)) (Nat.le_trans hgl (by omega)) (Nat.le_trans hmk (by omega))) (.cons (.t rfl) (.cons (.t rfl) .nil))) (by rw [zval_ofI, zval_ofI])) rfl ?_
  refine J.store (.t rfl) (.eq (.t rfl) (tV_F (Ts := [tIs (.bool ((ofI (Int.gcd (gcdT ((normS ts).take k)) (zval (atT (normS ts) k).coef))).neg)), tSl encD ((ofI (Int.gcd (gcdT ((normS ts).take k)) (zval (atT (normS ts) k).coef))).abs)]) rfl)) (.there .here) sz25 (st_agg (Ts' := [tIs (.bool ((ofI (Int.gcd (gcdT ((normS ts).take k)) (zval (atT (normS ts) k).coef))).neg)), tSl encD ((ofI (Int.gcd (gcdT ((normS ts).take k)) (zval (atT (normS ts) k).coef))).abs)]) (o := 0) rfl) (J.nil (JQ.block_normal ?_))
  exact JQ.weak (sub_trans (sub_heap (.drop (.keep (fun _ _ h => by rw [← gcdT_step hk]; exact h) (.k (.k .nil))))) sub_nil) hend2
 case rd0 =>
  intro D w1 M1 L1 hrb
  refine JQ.block_normal (JQ.then_normal (JC.g ?_))
  refine J.o (oa (.t rfl) (.head _) ag25 (cTs_ldV (g := zT) (y := (ofI (gcdT ((normS ts).take ((normS ts).length))))) rfl rfl)) rfl ?_
  refine J.store (.t rfl) (.eq (.t rfl) (tV_F (Ts := [tIs (.bool ((ofI (gcdT ((normS ts).take ((normS ts).length)))).neg)), tSl encD ((ofI (gcdT ((normS ts).take ((normS ts).length)))).abs)]) rfl)) (.there .here) sz25 (st_agg (Ts' := [tIs (.bool ((ofI (gcdT ((normS ts).take ((normS ts).length)))).neg)), tSl encD ((ofI (gcdT ((normS ts).take ((normS ts).length)))).abs)]) (o := 0) rfl) (J.e (JC.ret ?_))
  exact JQ.retML1_ret hrb rfl (.tail _ (.tail _ (.head _))) (fun _ _ h => h) (.agg (.t rfl) (.tail _ (.head _)) ag25 (agg_eq (T := tV encI (ofI (gcdT ((normS ts).take ((normS ts).length))))) (T' := tV encI (ofI (contS ts))) (by rw [contS, List.take_length]) (cTs_ldV (g := zT) (y := (ofI (gcdT ((normS ts).take ((normS ts).length))))) rfl rfl)))

theorem signN_c {B : Nat} (ts : List Tm) (hl : ts.length ≤ 4294967295) (hd : ∀ t ∈ ts, Digs t.coef.abs) (hz : ∀ t ∈ ts, t.coef.abs.length ≤ B) (hb : B ≤ 90000000000) (hne : normS ts ≠ []) : Ctr Try.prog 66 [tSl encTm ts] (tSl encTm (sgnT (normS ts))) := by
 obtain ⟨hl2, hd2, hz1, hz2, hz3, hc, hdv⟩ := sgnF hl hd hz hne
 have hlp : 0 < (normS ts).length := by rcases Nat.eq_zero_or_pos (normS ts).length with h | h; exact absurd (List.eq_nil_of_length_eq_zero h) hne; exact h
 have hcB : (ofI (contS (normS ts))).abs.length ≤ 100000000000 := Nat.le_trans (contB (ts := normS ts) hz3) (by omega)
 have hcl : (ofI (contS (normS ts))).abs.length ≤ 1099511627776 := Nat.le_trans hcB (by omega)
 refine Ctr.of Try.func66 rfl Try.ntmps66 (Nat.le_of_ble_eq_true rfl) fun w0 M0 => (JC.g ?_)
 refine J.o (ot_assign (.nil (E := encTm))) rfl (J.e (JC.g (J.M rfl rfl ?_)))
 refine J.callO (R := fun cap => cRow encTm (normS ts) cap) fn93 (normOG_c ts hl hd hz1 (by omega) hne) (.cons (.t rfl) .nil) (ltN rfl) fun b7 cap7 => (J.A rfl rfl (J.e (JC.seq (JC.g (J.M rfl rfl ?_)))))
 refine J.o (ot_len_own (.t rfl) sl54 rfl) rfl ?_
 refine J.o (ot_eql (.t rfl) .is) rfl (J.e ?_)
 refine JC.cond_false (.eq (.t rfl) (by rw [decide_eq_false (by omega)])) (JC.skip (JQ.then_normal (JC.g (J.M rfl rfl ?_))))
 refine J.callL (R' := cRow encTm (normS ts) cap7) (Us := []) (cap := []) fn99 (.func (fun _ => rfl)) (contN_c b7 (normS ts).length cap7 (normS ts) hl2 hd2 hz2 (by omega) (fun t h => Nat.le_trans (hz3 t h) (by omega))) (.cons (.t rfl) .nil) (fun _ => trivial) .here (ltN rfl) ?_
 refine J.alloc (R := cTs [tIs (.bool false), tSl encD ([])]) zr25 (fun _ => ⟨rfl, rfl, slP_nil _ _, rfl, trivial⟩) (ltN rfl) fun b4 => ?_
 refine J.store (.t rfl) (.eq (.t rfl) (tV_F (Ts := [tIs (.bool ((ofI (contS (normS ts))).neg)), tSl encD ((ofI (contS (normS ts))).abs)]) rfl)) .here sz25 (st_agg (Ts' := [tIs (.bool ((ofI (contS (normS ts))).neg)), tSl encD ((ofI (contS (normS ts))).abs)]) (o := 0) rfl) (J.e ?_)
 refine JC.join1 (α := Int) (fun g => [(2, tSl encTm ([])), (3, sIs b7 0 ((normS ts).length) ((normS ts).length)), (4, pOwn b4 0)]) (fun g => [⟨b4, 25, cTs [tIs (.bool ((ofI g).neg)), tSl encD ((ofI g).abs)]⟩, ⟨b7, 97, cRow encTm (normS ts) cap7⟩]) (fun g => g = signO ts) ?way1 ?on1
 case way1 =>
  refine (JC.g (J.M rfl rfl ?_))
  refine J.o (ot_eqt (T' := pOwn b7 (0 + 0 * 6)) (oix (.t rfl) .is sl54 (by omega) (by omega)) (own_off2 (by omega))) rfl ?_
  refine J.o (ofa (.t rfl) fd97_0) rfl ?_
  refine J.o (oa (.t rfl) (.tail _ (.head _)) ag25 (row_aggF (n := 6) (m := 2) (off := 0) (g := zT) (y := (atT (normS ts) 0).coef) (atT_some (by omega)) rfl rfl)) rfl ?_
  refine J.o (oc fn35 (intSign_c ((atT (normS ts) 0).coef) (Nat.le_trans (hz2 _ (atT_mem (by omega))) (by omega))) (.cons (.t rfl) .nil)) rfl ?_
  refine J.o (ot_lss (.t rfl) .is) rfl (J.e ?_)
  refine JC.cond (.t rfl) (fun hc1 => ?_) (fun hc1 => ?_)
  ·try simp only [bsx] at hc1
   have hs18 := hc1
   refine JC.region ?_
   refine J.o (oa (.t rfl) (.head _) ag25 (cTs_ldV (g := zT) (y := (ofI (contS (normS ts)))) rfl rfl)) rfl ?_
   refine J.o (ot_eqt (T' := tV encI (ofI (- contS (normS ts)))) (oc fn100 (intNeg_c (ofI (contS (normS ts))) hcl) (.cons (.t rfl) .nil)) (by rw [zval_ofI])) rfl ?_
   refine J.store (.t rfl) (.eq (.t rfl) (tV_F (Ts := [tIs (.bool ((ofI (- contS (normS ts))).neg)), tSl encD ((ofI (- contS (normS ts))).abs)]) rfl)) .here sz25 (st_agg (Ts' := [tIs (.bool ((ofI (- contS (normS ts))).neg)), tSl encD ((ofI (- contS (normS ts))).abs)]) (o := 0) rfl) (J.nil ?_)
   exact JQ.join1 (- contS (normS ts)) (by rw [signO, if_pos (by rcases sgn_cases (zval (atT (normS ts) 0).coef) with h | h | h <;> omega)]) (sub_trans (sub_heap (.k (.k .nil))) (sub_l ⟨.t rfl, .t rfl, .t rfl, trivial⟩))
  ·try simp only [bsx] at hc1
   have hs18 := hc1
   refine JC.skip ?_
   exact JQ.join1 (contS (normS ts)) (by rw [signO, if_neg (by rcases sgn_cases (zval (atT (normS ts) 0).coef) with h | h | h <;> omega)]) (sub_trans (sub_heap (.k (.k .nil))) (sub_l ⟨.t rfl, .t rfl, .t rfl, trivial⟩))
 intro g hj5
 have hgc := hj5
 refine JC.seq (JC.g (J.M rfl rfl ?_))
 refine J.o (ot_len_own (.t rfl) sl54 rfl) rfl ?_
 refine J.m .is rfl (J.e (JC.block ?_))
 refine JC.loop (ι := Nat) (fun k => [(2, tSl encTm ([])), (3, sIs b7 0 ((normS ts).length) ((normS ts).length)), (4, pOwn b4 0), (22, tIs (.int .i64 ((((normS ts).length : Nat) : Int)))), (23, tIs (.int .i64 (k : Int)))]) (fun k => [⟨b4, 25, cTs [tIs (.bool ((ofI g).neg)), tSl encD ((ofI g).abs)]⟩, ⟨b7, 97, cRow encTm ((fillT (divT g) (normS ts) k)) cap7⟩]) (fun k => k ≤ (normS ts).length) (fun k => (normS ts).length - k) 0 (by omega) ?lsub0 ?round0
 case lsub0 => exact sub_trans (sub_heap (.k (.keep (cRow_eq fillT_zero) .nil))) (sub_l ⟨.t rfl, .t rfl, .t rfl, .t rfl, .eq (.t rfl) (by first | rfl | (congr 3; omega) | (congr 2; omega)), trivial⟩)
 intro k hinv
 have hfl := fillT_len (f := divT g) (ts := normS ts) k
 refine (JC.g ?_)
 refine J.o (ot_lss (.t rfl) (.t rfl)) rfl (J.e (JC.seq ?_))
 refine JC.cond (.t rfl) (fun hc2 => ?_) (fun hc2 => ?_)
 ·try simp only [bsx] at hc2
  have hs24 := hc2
  refine JC.skip (JQ.then_normal (JC.seq (JC.block (JC.g (J.M rfl rfl (J.A rfl rfl (J.e ?_)))))))
  refine JC.drawS (Γ' := ?g1) (H' := [⟨b4, 25, cTs [tIs (.bool ((ofI g).neg)), tSl encD ((ofI g).abs)]⟩, ⟨b7, 97, cRow encTm (((fillT (divT g) (normS ts) k)).set k (Tm.mk (ofI (zval (atT (normS ts) k).coef / g)) ((atT (normS ts) k).exp))) cap7⟩]) 14 (fun i => [11].contains i) mo (by kernel_rfl) rfl ?tw1 ?st1 ?k1
  case tw1 =>
   refine TS.op (ot_move (.t rfl)) rfl (ltN rfl) rfl rfl ?_
   refine TS.op (ot_move (.t rfl)) rfl (ltN rfl) rfl rfl ?_
   refine TS.op (ot_move (.t rfl)) rfl (ltN rfl) rfl rfl ?_
   refine TS.op (ot_move (.t rfl)) rfl (ltN rfl) rfl rfl ?_
   refine TS.op (ot_eqt (T' := pOwn b7 (0 + k * 6)) (oix (.t rfl) (.t rfl) sl54 (by omega) (by omega)) (own_off2 (by omega))) rfl (ltN rfl) rfl rfl ?_
   refine TS.op (ofa (.t rfl) fd97_0) rfl (ltN rfl) rfl rfl ?_
   refine TS.op (oa (.t rfl) (.tail _ (.head _)) ag25 (row_aggF (n := 6) (m := 2) (off := 0) (g := zT) (y := (atT (normS ts) k).coef) (fillT_el (by omega)) rfl rfl)) rfl (ltN rfl) rfl rfl ?_
   refine TS.op (oa (.t rfl) (.head _) ag25 (cTs_ldV (g := zT) (y := (ofI g)) rfl rfl)) rfl (ltN rfl) rfl rfl ?_
   refine TS.op (ot_eqt (T' := tTup [tV encI (ofI (zval (atT (normS ts) k).coef / g)), tIs (.int .i64 0)]) (oc fn101 (dexactG_c ((atT (normS ts) k).coef) (ofI g) (Nat.le_trans (hz2 _ (atT_mem (by omega))) (by omega)) (signO_lenB hgc hcB) (signO_valB hgc hc)) (.cons (.t rfl) (.cons (.t rfl) .nil))) (by rw [zval_ofI, if_pos (hgc ▸ hdv _ (atT_mem (by omega))), if_pos (hgc ▸ hdv _ (atT_mem (by omega)))])) rfl (ltN rfl) rfl rfl ?_
   refine TS.op (ot_move (.t rfl)) rfl (ltN rfl) rfl rfl ?_
   refine TS.op (ot_extract (.t rfl) rfl) rfl (ltN rfl) rfl rfl ?_
   refine TS.opf (fun _ => ot_extract (.t rfl) rfl) rfl (ltN rfl) rfl ?_
   refine TS.op (ot_eqt (T' := pOwn b7 (0 + k * 6)) (oix (.t rfl) (.t rfl) sl54 (by omega) (by omega)) (own_off2 (by omega))) rfl (ltN rfl) rfl rfl ?_
   refine TS.op (ofa (.t rfl) fd97_0) rfl (ltN rfl) rfl rfl ?_
   exact TS.nil
  case st1 =>
   intro Γx hx
   refine ⟨rfl, J.done fun Q hq => ?_⟩
   refine J.store (.move hx (.t rfl) (by kernel_rfl)) (.move hx (.t rfl) (by kernel_rfl)) (.there .here) sz25 (row_setF (n := 6) (m := 2) (off := 0) (i := k) (x := atT (normS ts) k) (x' := Tm.mk (ofI (zval (atT (normS ts) k).coef / g)) ((atT (normS ts) k).exp)) (y := ofI (zval (atT (normS ts) k).coef / g)) (fillT_el (by omega)) rfl rfl) ?_
   exact J.nil hq
  refine JQ.block_normal (JQ.then_normal (JC.region ?_))
  refine J.o (ot_add (.t rfl) .is (w64 (by omega) (by omega))) rfl (J.M rfl rfl (J.nil ?_))
  exact JQ.round (k + 1) (by omega) (by omega) (sub_trans (sub_heap (.k (.keep (cRow_eq (fillT_set (by omega))) .nil))) (sub_l ⟨.t rfl, .t rfl, .t rfl, .t rfl, .eq (.t rfl) (by first | rfl | (congr 3; omega) | (congr 2; omega)), trivial⟩))
 ·try simp only [bsx] at hc2
  have hs24 := hc2
  refine JC.exit (JQ.then_exit (JQ.then_exit (JQ.block_exit (JQ.then_normal (JC.seq ?_)))))
  refine JC.weak (sub_freeze0 (E := encTm) (xs := (fillT (divT g) (normS ts) k)) (n := (normS ts).length) (c := (normS ts).length) [3] ⟨rfl, trivial⟩ (.there .here) (by rw [fillT_len]) (by omega)) (JC.region (J.M rfl rfl (J.A rfl rfl (J.e (JC.ret ?_)))))
  exact JQ.ret1 rfl (.tmp (.eq (.t rfl) (by rw [fillT_full (by omega), hgc, signO_lc]; rfl)))

theorem sptermsG_c {B : Nat} (ts : List Tm) (hl : ts.length ≤ 4294967295) (hd : ∀ t ∈ ts, Digs t.coef.abs) (hz : ∀ t ∈ ts, t.coef.abs.length ≤ B) (hb : B ≤ 1000000000000) : Ctr Try.prog 71 [tSl encTm ts] (tClo 102 [tPtr (cTs [tSl encTm (normS ts)])]) := by
 refine Ctr.of Try.func71 rfl Try.ntmps71 (Nat.le_of_ble_eq_true rfl) fun w0 M0 => (JC.g ?_)
 refine J.a .is rfl (J.e (JC.g (J.M rfl rfl ?_)))
 refine J.o (oc fn93 (normSG_c ts (by assumption) (by assumption) (by assumption) (by assumption)) (.cons (.t rfl) .nil)) rfl ?_
 refine J.alloc (R := cTs [tSl encTm ([])]) zr54 (fun _ => ⟨slP_nil _ _, rfl, trivial⟩) (ltN rfl) fun b3 => ?_
 refine J.store (.t rfl) (.t rfl) .here sz54 (st_cell (o := 0) one_sl rfl) (J.e (JC.seq ?_))
 refine JC.weak (sub_freezeP (R' := cTs [tSl encTm (normS ts)]) [3] ⟨rfl, trivial⟩ .here (fun _ _ h => h)) (JC.region ?_)
 refine J.o (ot_clo (.cons (.t rfl) .nil)) rfl (J.A rfl rfl (J.e (JC.ret ?_)))
 exact JQ.ret1 rfl (.tmp (.t rfl))

theorem ofG_c {B D : Nat} (ts : List Tm) (hl : ts.length ≤ 4294967295) (hd : ∀ t ∈ ts, Digs t.coef.abs) (hz : ∀ t ∈ ts, t.coef.abs.length ≤ B) (hb : B ≤ 1000000000000) (hm : ∀ t ∈ normS ts, ∀ i, i < 4 → t.exp.at i < 4294967295) (hc : ∀ t ∈ normS ts, t.coef.abs.length ≤ D) (hD : D ≤ 100000000000) : Ctr Try.prog 27 [tSl encTm ts] (tV encP (ofS (normS ts))) := by
 have hnl : (normS ts).length ≤ 4294967295 := Nat.le_trans (normS_len ts) hl
 have hcf : ∀ t ∈ normS ts, (ofI (zval t.coef)).abs.length ≤ D := fun t h => by rw [← normS_ofI h]; exact hc t h
 have hm2 : ∀ t ∈ normS ts, ∀ i, i < 4 → t.exp.at i < 4294967296 := fun t h i hi => by have := hm t h i hi; omega
 refine Ctr.ofM Try.func27 rfl Try.ntmps27 (Nat.le_of_ble_eq_true rfl) fun w0 M0 => (JC.g ?_)
 refine J.alloc (R := cTs zP) zr28 (fun _ => ⟨rfl, rfl, rfl, rfl, slP_nil _ _, rfl, slP_nil _ _, rfl, trivial⟩) (ltN rfl) fun b2 => (J.e (JC.g ?_))
 refine J.o (ot_eqt (T' := tV encP (Pol.mk 0 (Z.mk false ([])) ([]))) (ot_build (Ts := zP) pl28 (fun _ => ⟨rfl, rfl, rfl, rfl, slP_nil _ _, rfl, slP_nil _ _, rfl, trivial⟩) (.nil) rfl) (tV_F' (polT_eq _))) rfl ?_
 refine J.alloc (R := cTs zP) zr28 (fun _ => ⟨rfl, rfl, rfl, rfl, slP_nil _ _, rfl, slP_nil _ _, rfl, trivial⟩) (ltN rfl) fun b3 => ?_
 refine J.store (.t rfl) (.eq (.t rfl) (tV_F (Ts := zP) (polT_eq _))) .here sz28 (st_agg (Ts' := zP) (o := 0) rfl) (J.e (JC.seq (JC.g (J.M rfl rfl ?_))))
 refine J.o (oc fn71 (sptermsG_c ts (by assumption) (by assumption) (by assumption) (by assumption)) (.cons (.t rfl) .nil)) rfl (J.e (JC.block ?_))
 refine JC.rangeFunc (ps := [13, 14]) (f := 102) (Us := [tPtr (cTs [tSl encTm (normS ts)])]) (n := (normS ts).length) (Ts := fun k => [tV encMo ((atT (normS ts) k).exp), tV encI (ofI (zval (atT (normS ts) k).coef))]) (Γ0 := [(2, pOwn b2 0), (3, pOwn b3 0), (12, tClo 102 [tPtr (cTs [tSl encTm (normS ts)])])]) (fun k => [⟨b3, 28, cTs [tIs (.int .i64 ((ofK (normS ts) k).lv)), tIs (.bool (((ofK (normS ts) k).c).neg)), tSl encD (((ofK (normS ts) k).c).abs), tSl encP ((ofK (normS ts) k).cs)]⟩, ⟨b2, 28, cTs zP⟩]) (.t rfl) fn102 (termsY (normS ts) (by omega) (fun t h => Nat.le_trans (hc t h) (by omega))) rfl ?rs0 (fun _ => rfl) rfl (fun _ => rfl) ?rr0 ?rd0
 case rs0 => exact sub_trans (sub_heap (.k (.k .nil))) (sub_l ⟨.t rfl, .t rfl, .t rfl, trivial⟩)
 case rr0 =>
  intro k hk l w0 M0 L Q1 hend1
  have hmk := hm _ (atT_mem hk)
  have hck := hcf _ (atT_mem hk)
  have hft := ofK_fit hm2 hcf k (by omega)
  have htf := termP_fit (hm2 _ (atT_mem hk)) hck
  refine JCR.weak (Γ' := [(14, tV encI (ofI (zval (atT (normS ts) k).coef))), (13, tV encMo ((atT (normS ts) k).exp)), (2, pOwn b2 0), (3, pOwn b3 0), (12, tClo 102 [tPtr (cTs [tSl encTm (normS ts)])])]) (H' := [⟨b3, 28, cTs [tIs (.int .i64 ((ofK (normS ts) k).lv)), tIs (.bool (((ofK (normS ts) k).c).neg)), tSl encD (((ofK (normS ts) k).c).abs), tSl encP ((ofK (normS ts) k).cs)]⟩, ⟨b2, 28, cTs zP⟩]) (fun _ _ h => h) ?_
  refine JCR.seq (JCR.region ?_)
  refine J.alloc (R := cTs [tIs (.int .i64 0), tIs (.int .i64 0), tIs (.int .i64 0), tIs (.int .i64 0)]) zr95 (fun _ => ⟨rfl, rfl, rfl, rfl, rfl, rfl, rfl, rfl, trivial⟩) (ltN rfl) fun b4 => ?_
  refine J.store (.t rfl) (.eq (.t rfl) (tV_F (Ts := [tIs (.int .i64 (((atT (normS ts) k).exp).a)), tIs (.int .i64 (((atT (normS ts) k).exp).b)), tIs (.int .i64 (((atT (normS ts) k).exp).c)), tIs (.int .i64 (((atT (normS ts) k).exp).d))]) rfl)) .here sz95 (st_agg (Ts' := [tIs (.int .i64 (((atT (normS ts) k).exp).a)), tIs (.int .i64 (((atT (normS ts) k).exp).b)), tIs (.int .i64 (((atT (normS ts) k).exp).c)), tIs (.int .i64 (((atT (normS ts) k).exp).d))]) (o := 0) rfl) (J.nil (JQR.then_normal (JCR.region ?_)))
  refine J.alloc (R := cTs [tIs (.bool false), tSl encD ([])]) zr25 (fun _ => ⟨rfl, rfl, slP_nil _ _, rfl, trivial⟩) (ltN rfl) fun b5 => ?_
  refine J.store (.t rfl) (.eq (.t rfl) (tV_F (Ts := [tIs (.bool ((ofI (zval (atT (normS ts) k).coef)).neg)), tSl encD ((ofI (zval (atT (normS ts) k).coef)).abs)]) rfl)) .here sz25 (st_agg (Ts' := [tIs (.bool ((ofI (zval (atT (normS ts) k).coef)).neg)), tSl encD ((ofI (zval (atT (normS ts) k).coef)).abs)]) (o := 0) rfl) (J.nil ?_)
  refine hend1 _ _ fun w1 M1 L1 Q2 hend2 => ?_
  refine JCR.block (JCR.seq (JCR.region ?_))
  refine J.o (oa (.t rfl) (.head _) ag25 (cTs_ldV (g := zT) (y := (ofI (zval (atT (normS ts) k).coef))) rfl rfl)) rfl ?_
  refine J.o (ot_eqt (T' := tV encP (Pol.mk 0 (ofI (zval (atT (normS ts) k).coef)) ([]))) (ot_build (Ts := zP) pl28 (fun _ => ⟨rfl, rfl, rfl, rfl, slP_nil _ _, rfl, slP_nil _ _, rfl, trivial⟩) ((.agg (off := 1) rfl (.eq (.t rfl) (tV_F (Ts := [tIs (.bool ((ofI (zval (atT (normS ts) k).coef)).neg)), tSl encD ((ofI (zval (atT (normS ts) k).coef)).abs)]) rfl)) (Ts' := [tIs (.int .i64 0), tIs (.bool ((ofI (zval (atT (normS ts) k).coef)).neg)), tSl encD ((ofI (zval (atT (normS ts) k).coef)).abs), tSl encP ([])]) rfl rfl .nil)) rfl) (tV_F' (polT_eq _))) rfl ?_
  refine J.alloc (R := cTs zP) zr28 (fun _ => ⟨rfl, rfl, rfl, rfl, slP_nil _ _, rfl, slP_nil _ _, rfl, trivial⟩) (ltN rfl) fun b6 => ?_
  refine J.store (.t rfl) (.eq (.t rfl) (tV_F (Ts := [tIs (.int .i64 0), tIs (.bool ((ofI (zval (atT (normS ts) k).coef)).neg)), tSl encD ((ofI (zval (atT (normS ts) k).coef)).abs), tSl encP ([])]) (polT_eq _))) .here sz28 (st_agg (Ts' := [tIs (.int .i64 0), tIs (.bool ((ofI (zval (atT (normS ts) k).coef)).neg)), tSl encD ((ofI (zval (atT (normS ts) k).coef)).abs), tSl encP ([])]) (o := 0) rfl) (J.nil (JQR.then_normal (JCR.seq (JCR.seq (JCR.region ?_)))))
  refine J.o (oa (.t rfl) (.tail _ (.tail _ (.head _))) ag95 (cTs_ldV (g := moT) (y := ((atT (normS ts) k).exp)) rfl rfl)) rfl ?_
  refine J.m .is rfl (J.nil (JQR.then_normal (JCR.block ?_)))
  refine JCR.loop (ι := Nat) (fun i => [(2, pOwn b2 0), (3, pOwn b3 0), (6, pOwn b6 0), (17, tV encMo ((atT (normS ts) k).exp)), (18, tIs (.int .i64 (i : Int)))]) (fun i => [⟨b6, 28, cTs [tIs (.int .i64 ((monoP (atT (normS ts) k).exp (Pol.mk 0 (ofI (zval (atT (normS ts) k).coef)) []) i).lv)), tIs (.bool (((monoP (atT (normS ts) k).exp (Pol.mk 0 (ofI (zval (atT (normS ts) k).coef)) []) i).c).neg)), tSl encD (((monoP (atT (normS ts) k).exp (Pol.mk 0 (ofI (zval (atT (normS ts) k).coef)) []) i).c).abs), tSl encP ((monoP (atT (normS ts) k).exp (Pol.mk 0 (ofI (zval (atT (normS ts) k).coef)) []) i).cs)]⟩, ⟨b5, 25, cTs [tIs (.bool ((ofI (zval (atT (normS ts) k).coef)).neg)), tSl encD ((ofI (zval (atT (normS ts) k).coef)).abs)]⟩, ⟨b4, 95, cTs [tIs (.int .i64 (((atT (normS ts) k).exp).a)), tIs (.int .i64 (((atT (normS ts) k).exp).b)), tIs (.int .i64 (((atT (normS ts) k).exp).c)), tIs (.int .i64 (((atT (normS ts) k).exp).d))]⟩, ⟨b3, 28, cTs [tIs (.int .i64 ((ofK (normS ts) k).lv)), tIs (.bool (((ofK (normS ts) k).c).neg)), tSl encD (((ofK (normS ts) k).c).abs), tSl encP ((ofK (normS ts) k).cs)]⟩, ⟨b2, 28, cTs zP⟩]) (fun i => i ≤ 4) (fun i => 4 - i) 0 (by omega) ?lsub0 ?round0
  case lsub0 => exact sub_trans (sub_heap (.k (.k (.k (.k (.k .nil)))))) (sub_l ⟨.t rfl, .t rfl, .t rfl, .t rfl, .eq (.t rfl) (by first | rfl | (congr 3; omega) | (congr 2; omega)), trivial⟩)
  intro i hinv
  refine JCR.seq (JCR.region ?_)
  refine J.o (ot_lss (.t rfl) .is) rfl (J.nil (JQR.then_normal (JCR.seq ?_)))
  refine JCR.cond (.t rfl) (fun hc0 => ?_) (fun hc0 => ?_)
  ·try simp only [bsx] at hc0
   have hs19 := hc0
   refine JCR.skip (JQR.then_normal (JCR.seq (JCR.block (JCR.seq (JCR.region (J.M rfl rfl ?_))))))
   refine J.o (ot_eqt (T' := tIs (.int .i64 (((atT (normS ts) k).exp).at i))) (ot_indexA (.t rfl) (.t rfl) ar4_95 (by omega) (by omega)) (by congr 3 <;> omega)) rfl (J.A rfl rfl (J.A rfl rfl (J.nil (JQR.then_normal (JCR.seq (JCR.region (J.M rfl rfl ?_)))))))
   refine J.o (ot_gtr (.t rfl) .is) rfl (J.nil (JQR.then_normal ?_))
   refine JCR.cond (.t rfl) (fun hc1 => ?_) (fun hc1 => ?_)
   ·try simp only [bsx] at hc1
    have hs23 := hc1
    have hmi := hmk i (by omega)
    refine JCR.seq (JCR.region (J.M rfl rfl ?_))
    refine J.o (ot_add (.t rfl) .is (w64 (by omega) (by omega))) rfl ?_
    refine J.make (E := encP) (z := p0) (n := ((atT (normS ts) k).exp.at i).toNat + 1) sl26 (.eq (.t rfl) (by congr 2; omega)) (.eq (.t rfl) (by congr 2; omega)) zr28 (fun _ => encP_zero) (by decide) (by omega) (by omega) (ltN rfl) fun b26 => (J.A rfl rfl (J.nil (JQR.then_normal (JCR.seq (JCR.region (J.M rfl rfl (J.M rfl rfl ?_)))))))
    refine J.o (oa (.t rfl) (.tail _ (.head _)) ag28 (cTs_ldV (g := polT) (y := (monoP (atT (normS ts) k).exp (Pol.mk 0 (ofI (zval (atT (normS ts) k).coef)) []) i)) (polT_eq (monoP (atT (normS ts) k).exp (Pol.mk 0 (ofI (zval (atT (normS ts) k).coef)) []) i)).symm rfl)) rfl ?_
    refine J.o (ot_eqt (T' := pOwn b26 (0 + (((atT (normS ts) k).exp.at i).toNat) * 4)) (oix (.t rfl) (.t rfl) sl26 (by omega) (by omega)) (own_off2 (by omega))) rfl ?_
    refine J.store (.t rfl) (.t rfl) .here sz28 (row_set (by simp)) (J.nil (JQR.then_normal ?_))
    refine JCR.weak (sub_freeze0 (E := encP) (xs := (List.replicate (((atT (normS ts) k).exp.at i).toNat + 1) p0).set (((atT (normS ts) k).exp.at i).toNat) (monoP (atT (normS ts) k).exp (Pol.mk 0 (ofI (zval (atT (normS ts) k).coef)) []) i)) (n := ((atT (normS ts) k).exp.at i).toNat + 1) (c := ((atT (normS ts) k).exp.at i).toNat + 1) [27, 9, 26] ⟨rfl, rfl, rfl, trivial⟩ .here (by simp) (by omega)) ?_
    refine JCR.region (J.M rfl rfl ?_)
    refine J.o (ot_add (.t rfl) .is (w64 (by omega) (by omega))) rfl (J.M rfl rfl ?_)
    refine J.o (ot_eqt (T' := tV encP (Pol.mk ((i : Int) + 1) (Z.mk false ([])) ((List.replicate (((atT (normS ts) k).exp.at i).toNat + 1) p0).set (((atT (normS ts) k).exp.at i).toNat) (monoP (atT (normS ts) k).exp (Pol.mk 0 (ofI (zval (atT (normS ts) k).coef)) []) i)))) (ot_build (Ts := zP) pl28 (fun _ => ⟨rfl, rfl, rfl, rfl, slP_nil _ _, rfl, slP_nil _ _, rfl, trivial⟩) ((.one (off := 0) rfl (.t rfl) (one_is rfl rfl) (Ts' := [tIs (.int .i64 ((i : Int) + 1)), tIs (.bool false), tSl encD ([]), tSl encP ([])]) rfl rfl (.one (off := 3) rfl (.t rfl) one_sl (Ts' := [tIs (.int .i64 ((i : Int) + 1)), tIs (.bool false), tSl encD ([]), tSl encP ((List.replicate (((atT (normS ts) k).exp.at i).toNat + 1) p0).set (((atT (normS ts) k).exp.at i).toNat) (monoP (atT (normS ts) k).exp (Pol.mk 0 (ofI (zval (atT (normS ts) k).coef)) []) i))]) rfl rfl .nil))) rfl) (tV_F' (polT_eq _))) rfl ?_
    refine J.store (.t rfl) (.eq (.t rfl) (tV_F (Ts := [tIs (.int .i64 ((i : Int) + 1)), tIs (.bool false), tSl encD ([]), tSl encP ((List.replicate (((atT (normS ts) k).exp.at i).toNat + 1) p0).set (((atT (normS ts) k).exp.at i).toNat) (monoP (atT (normS ts) k).exp (Pol.mk 0 (ofI (zval (atT (normS ts) k).coef)) []) i))]) (polT_eq _))) .here sz28 (st_agg (Ts' := [tIs (.int .i64 ((i : Int) + 1)), tIs (.bool false), tSl encD ([]), tSl encP ((List.replicate (((atT (normS ts) k).exp.at i).toNat + 1) p0).set (((atT (normS ts) k).exp.at i).toNat) (monoP (atT (normS ts) k).exp (Pol.mk 0 (ofI (zval (atT (normS ts) k).coef)) []) i))]) (o := 0) rfl) (J.nil (JQ.block_normal (JQR.then_normal (JCR.region ?_))))
    refine J.o (ot_add (.t rfl) .is (w64 (by omega) (by omega))) rfl (J.M rfl rfl (J.nil ?_))
    exact JQ.round (i + 1) (by omega) (by omega) (sub_trans (sub_heap (.keep (fun _ _ h => by rw [← monoP_yes (by omega)]; exact h) (.k (.k (.k (.k .nil)))))) (sub_l ⟨.t rfl, .t rfl, .t rfl, .t rfl, .eq (.t rfl) (by first | rfl | (congr 3; omega) | (congr 2; omega)), trivial⟩))
   ·try simp only [bsx] at hc1
    have hs23 := hc1
    have hno := monoP_no (m := (atT (normS ts) k).exp) (t := Pol.mk 0 (ofI (zval (atT (normS ts) k).coef)) []) (i := i) (by omega)
    refine JCR.skip (JQ.block_normal (JQR.then_normal (JCR.region ?_)))
    refine J.o (ot_add (.t rfl) .is (w64 (by omega) (by omega))) rfl (J.M rfl rfl (J.nil ?_))
    exact JQ.round (i + 1) (by omega) (by omega) (sub_trans (sub_heap (.keep (fun _ _ h => hno ▸ h) (.k (.k (.k (.k .nil)))))) (sub_l ⟨.t rfl, .t rfl, .t rfl, .t rfl, .eq (.t rfl) (by first | rfl | (congr 3; omega) | (congr 2; omega)), trivial⟩))
  ·try simp only [bsx] at hc0
   have hs19 := hc0
   refine JCR.exit (JQ.then_exit (JQ.then_exit (JQ.block_exit (JQR.then_normal (JCR.region ?_)))))
   refine J.o (oa (.t rfl) (.tail _ (.tail _ (.tail _ (.head _)))) ag28 (cTs_ldV (g := polT) (y := (ofK (normS ts) k)) (polT_eq (ofK (normS ts) k)).symm rfl)) rfl ?_
   refine J.o (oa (.t rfl) (.head _) ag28 (cTs_ldV (g := polT) (y := (monoP (atT (normS ts) k).exp (Pol.mk 0 (ofI (zval (atT (normS ts) k).coef)) []) i)) (polT_eq (monoP (atT (normS ts) k).exp (Pol.mk 0 (ofI (zval (atT (normS ts) k).coef)) []) i)).symm rfl)) rfl ?_
   refine J.o (oc fn72 (add_c 4 (ofK (normS ts) k) (monoP (atT (normS ts) k).exp (Pol.mk 0 (ofI (zval (atT (normS ts) k).coef)) []) i) (ofK_lev _ _) ((monoP_lev i).mono (by omega)) hft ((monoP_fit (hm2 _ (atT_mem hk)) (.mk (digs_dig _) hck (Nat.zero_le _) (fun q h => by cases h)) i (by omega)).mono (Nat.le_add_right D k)) (by omega)) (.cons (.t rfl) (.cons (.t rfl) .nil))) rfl ?_
   refine J.store (.t rfl) (.eq (.t rfl) (tV_F (Ts := [tIs (.int .i64 ((addF 4 (ofK (normS ts) k) (monoP (atT (normS ts) k).exp (Pol.mk 0 (ofI (zval (atT (normS ts) k).coef)) []) i)).lv)), tIs (.bool (((addF 4 (ofK (normS ts) k) (monoP (atT (normS ts) k).exp (Pol.mk 0 (ofI (zval (atT (normS ts) k).coef)) []) i)).c).neg)), tSl encD (((addF 4 (ofK (normS ts) k) (monoP (atT (normS ts) k).exp (Pol.mk 0 (ofI (zval (atT (normS ts) k).coef)) []) i)).c).abs), tSl encP ((addF 4 (ofK (normS ts) k) (monoP (atT (normS ts) k).exp (Pol.mk 0 (ofI (zval (atT (normS ts) k).coef)) []) i)).cs)]) (polT_eq _))) (.there (.there (.there .here))) sz28 (st_agg (Ts' := [tIs (.int .i64 ((addF 4 (ofK (normS ts) k) (monoP (atT (normS ts) k).exp (Pol.mk 0 (ofI (zval (atT (normS ts) k).coef)) []) i)).lv)), tIs (.bool (((addF 4 (ofK (normS ts) k) (monoP (atT (normS ts) k).exp (Pol.mk 0 (ofI (zval (atT (normS ts) k).coef)) []) i)).c).neg)), tSl encD (((addF 4 (ofK (normS ts) k) (monoP (atT (normS ts) k).exp (Pol.mk 0 (ofI (zval (atT (normS ts) k).coef)) []) i)).c).abs), tSl encP ((addF 4 (ofK (normS ts) k) (monoP (atT (normS ts) k).exp (Pol.mk 0 (ofI (zval (atT (normS ts) k).coef)) []) i)).cs)]) (o := 0) rfl) (J.nil (JQ.block_normal ?_))
   exact JQ.weak (sub_trans (sub_heap (.drop (.drop (.drop (.keep (fun _ _ h => by have hi4 : i = 4 := (by omega); subst hi4; exact h) (.k .nil)))))) sub_nil) hend2
 case rd0 =>
  intro D w1 M1 L1 hrb
  refine JQ.block_normal (JQ.then_normal (JC.g ?_))
  refine J.o (oa (.t rfl) (.head _) ag28 (cTs_ldV (g := polT) (y := (ofK (normS ts) ((normS ts).length))) (polT_eq (ofK (normS ts) ((normS ts).length))).symm rfl)) rfl ?_
  refine J.store (.t rfl) (.eq (.t rfl) (tV_F (Ts := [tIs (.int .i64 ((ofK (normS ts) ((normS ts).length)).lv)), tIs (.bool (((ofK (normS ts) ((normS ts).length)).c).neg)), tSl encD (((ofK (normS ts) ((normS ts).length)).c).abs), tSl encP ((ofK (normS ts) ((normS ts).length)).cs)]) (polT_eq _))) (.there .here) sz28 (st_agg (Ts' := [tIs (.int .i64 ((ofK (normS ts) ((normS ts).length)).lv)), tIs (.bool (((ofK (normS ts) ((normS ts).length)).c).neg)), tSl encD (((ofK (normS ts) ((normS ts).length)).c).abs), tSl encP ((ofK (normS ts) ((normS ts).length)).cs)]) (o := 0) rfl) (J.e (JC.ret ?_))
  exact JQ.retM1_ret hrb rfl (.agg (.t rfl) (.tail _ (.head _)) ag28 (agg_eq (T := tV encP (ofK (normS ts) ((normS ts).length))) (T' := tV encP (ofS (normS ts))) (by rfl) (cTs_ldV (g := polT) (y := (ofK (normS ts) ((normS ts).length))) (polT_eq (ofK (normS ts) ((normS ts).length))).symm rfl)))

theorem toG_c {B : Nat} (p : Pol) (hf : Fit B p) (np : nrm p < B32 ^ B) (hcn : cnt p ≤ 1000000000) (hb : B ≤ 1000000000) (hlen : (termsP (normN p) mo0).length ≤ 4294967295) : Ctr Try.prog 61 [tV encP p] (tSl encTm (toS (normN p))) := by
 have hnn : nrm (normN p) < B32 ^ B := Nat.lt_of_le_of_lt (nrm_norm p) np
 have hfn := (sz_norm p).fit (by omega) hnn
 have hlv := lev_norm p
 refine Ctr.of Try.func61 rfl Try.ntmps61 (Nat.le_of_ble_eq_true rfl) fun w0 M0 => (JC.g ?_)
 refine J.boxF (Ts := [tIs (.int .i64 (p.lv)), tIs (.bool (p.c.neg)), tSl encD (p.c.abs), tSl encP (p.cs)]) (.t rfl) (polT_eq _) (ltN rfl) fun b1 => ?_
 refine J.o (ot_assign (.nil (E := encTm))) rfl (J.e (JC.g ?_))
 refine J.o (oa (.t rfl) (.head _) ag28 (cTs_ldV (g := polT) (y := p) (polT_eq p).symm rfl)) rfl ?_
 refine J.o (oc fn45 (rnormalG_c p hf np hcn hb) (.cons (.t rfl) .nil)) rfl ?_
 refine J.o (ot_eqt (T' := tV encMo mo0) (ot_buildA0 ar4_95 zr95) rfl) rfl ?_
 refine J.o (oc fn95 (terms_c (normN p) mo0 hlv (by show (termsP (normN p) mo0).length ≤ _; omega) hfn) (.cons (.t rfl) (.cons (.t rfl) .nil))) rfl ?_
 refine J.o (oc fn93 (normSG_c (termsP (normN p) mo0) hlen (fun t ht => (termsP_fit hfn t ht).1) (fun t ht => (termsP_fit hfn t ht).2) (by omega)) (.cons (.t rfl) .nil)) rfl (J.A rfl rfl (J.e (JC.ret ?_)))
 exact JQ.ret1 rfl (.tmp (.eq (.t rfl) (by first | rfl | (congr 3; omega) | (congr 2; omega) | simp [*])))

theorem msign_c {B : Nat} (p : Pol) (hf : Fit B p) (np : nrm p < B32 ^ B) (hcn : cnt p ≤ 1000000000) (hb : B ≤ 1000000000) (hlen : (termsP (normN p) mo0).length ≤ 4294967295) (hne : normN p ≠ p0) : Ctr Try.prog 21 [tV encP p] (tV encP (msign p)) := by
 have hM := msF np hcn hlen hne
 refine Ctr.of Try.func21 rfl Try.ntmps21 (Nat.le_of_ble_eq_true rfl) fun w0 M0 => (JC.g ?_)
 refine J.boxF (Ts := [tIs (.int .i64 (p.lv)), tIs (.bool (p.c.neg)), tSl encD (p.c.abs), tSl encP (p.cs)]) (.t rfl) (polT_eq _) (ltN rfl) fun b1 => ?_
 refine J.alloc (R := cTs zP) zr28 (fun _ => ⟨rfl, rfl, rfl, rfl, slP_nil _ _, rfl, slP_nil _ _, rfl, trivial⟩) (ltN rfl) fun b2 => (J.e (JC.g ?_))
 refine J.o (oa (.t rfl) (.tail _ (.head _)) ag28 (cTs_ldV (g := polT) (y := p) (polT_eq p).symm rfl)) rfl ?_
 refine J.o (oc fn61 (toG_c p hf np hcn hb hlen) (.cons (.t rfl) .nil)) rfl ?_
 refine J.o (ot_eqt (T' := tSl encTm (sgnT (toS (normN p)))) (oc fn66 (signN_c (toS (normN p)) hM.tl hM.td hM.tz (by omega) (by rw [hM.n1]; exact hM.tn)) (.cons (.t rfl) .nil)) (by rw [hM.n1])) rfl ?_
 refine J.o (ot_eqt (T' := tV encP (msign p)) (oc fn27 (ofG_c (sgnT (toS (normN p))) hM.sl hM.sd hM.sz (by omega) (by rw [hM.n2]; exact hM.se) (by rw [hM.n2]; exact hM.sz) (by omega)) (.cons (.t rfl) .nil)) (by rw [hM.n2]; rfl)) rfl ?_
 refine J.store (.t rfl) (.eq (.t rfl) (tV_F (Ts := [tIs (.int .i64 ((msign p).lv)), tIs (.bool (((msign p).c).neg)), tSl encD (((msign p).c).abs), tSl encP ((msign p).cs)]) (polT_eq _))) .here sz28 (st_agg (Ts' := [tIs (.int .i64 ((msign p).lv)), tIs (.bool (((msign p).c).neg)), tSl encD (((msign p).c).abs), tSl encP ((msign p).cs)]) (o := 0) rfl) (J.e (JC.ret ?_))
 exact JQ.ret1 rfl (.agg (.t rfl) (.head _) ag28 (cTs_ldV (g := polT) (y := (msign p)) (polT_eq (msign p)).symm rfl))

theorem joinL_c (b n : Nat) (l : Int) (cs : List Pol) (hn : cs.length = n) (h2 : 2 ≤ n) (hl : n ≤ 4294967296) (hz : (atP cs (n - 1)).c.abs.length ≤ 1099511627776) (hlast : zeroP (atP cs (n - 1)) = false) : CtrL Try.prog 103 [tIs (.int .i64 l), sIs b 0 n n] b 28 (cRow encP cs n) (cRow encP cs n) (tV (encL 4) [tIs (.int .i64 l), tIs (.bool false), tSl encD ([]), sIs b 0 n n]) := by
 refine CtrL.of Try.func103 rfl Try.ntmps103 (Nat.le_of_ble_eq_true rfl) fun w0 M0 => (JC.g ?_)
 refine J.alloc (R := cTs zP) zr28 (fun _ => ⟨rfl, rfl, rfl, rfl, slP_nil _ _, rfl, slP_nil _ _, rfl, trivial⟩) (ltN rfl) fun b4 => (J.e (JC.g (J.M rfl rfl ?_)))
 refine J.o (ot_len_own (.t rfl) sl26 rfl) rfl (J.A rfl rfl (J.e (JC.seq (JC.block ?_))))
 refine JC.loop (ι := Nat) (fun i => [(0, tIs (.int .i64 l)), (1, sIs b 0 n n), (4, pOwn b4 0), (5, tIs (.int .i64 (i : Int)))]) (fun i => [⟨b4, 28, cTs zP⟩, ⟨b, 28, cRow encP cs n⟩]) (fun i => i = n) (fun i => i) n rfl ?lsub0 ?round0
 case lsub0 => exact sub_trans (sub_heap (.k (.k .nil))) (sub_l ⟨.t rfl, .t rfl, .t rfl, .t rfl, trivial⟩)
 intro i hinv
 refine JC.seq (JC.g (J.M rfl rfl ?_))
 refine J.o (ot_gtr (.t rfl) .is) rfl (J.M rfl rfl ?_)
 refine J.opg rfl rfl rfl (ltN rfl) (fun hg => ot_move (.t rfl)) rfl (ltN rfl) ?_
 refine J.opg rfl rfl rfl (ltN rfl) (fun hg => ot_move (.t rfl)) rfl (ltN rfl) ?_
 refine J.opg rfl rfl rfl (ltN rfl) (fun hg => (by have hg' := hg; (try simp only [bsx] at hg'); exact ot_sub (.iff hg (.t rfl)) .is (w64 (by omega) (by omega)))) rfl (ltN rfl) ?_
 refine J.opg rfl rfl rfl (ltN rfl) (fun hg => (by have hg' := hg; (try simp only [bsx] at hg'); exact ot_eqt (T' := pOwn b (0 + (i - 1) * 4)) (oix (.iff hg (.t rfl)) (.iff hg (.t rfl)) sl26 (by omega) (by omega)) (own_off2 (by omega)))) rfl (ltN rfl) ?_
 refine J.opg rfl rfl rfl (ltN rfl) (fun hg => (by have hg' := hg; (try simp only [bsx] at hg'); exact oa (.iff hg (.t rfl)) (.tail _ (.head _)) ag28 (row_agg rfl (atP_some (by omega))))) rfl (ltN rfl) ?_
 refine J.opg rfl rfl rfl (ltN rfl) (fun hg => oc fn76 (pzero_c (atP cs (i - 1)) (by rw [hinv]; exact hz)) (.cons (.iff hg (.t rfl)) .nil)) rfl (ltN rfl) ?_
 refine J.o (ot_and2 (.t rfl) (.t rfl) .is) rfl (J.e ?_)
 refine JC.cond_false (.eq (.t rfl) (by rw [hinv, hlast]; simp)) ?_
 refine JC.exit (JQ.then_exit (JQ.then_exit (JQ.block_exit (JQ.then_normal (JC.seq (JC.g (J.M rfl rfl ?_)))))))
 refine J.o (ot_eql (.t rfl) .is) rfl (J.e ?_)
 refine JC.cond_false (.eq (.t rfl) (by rw [decide_eq_false (by omega)])) (JC.skip (JQ.then_normal (JC.seq (JC.g (J.M rfl rfl ?_)))))
 refine J.o (ot_eql (.t rfl) .is) rfl (J.e ?_)
 refine JC.cond_false (.eq (.t rfl) (by rw [decide_eq_false (by omega)])) (JC.skip (JQ.then_normal (JC.g (J.M rfl rfl (J.M rfl rfl (J.M rfl rfl (J.M rfl rfl ?_)))))))
 refine J.o (ot_slice3_own (h := n) (m := n) (kh := .i64) (km := .i64) (.t rfl) sl26 (.eq (.t rfl) (by rw [hinv])) (.eq (.t rfl) (by rw [hinv])) (Nat.le_refl _) (Nat.le_refl _)) rfl ?_
 refine J.o (ot_build (Ts := zP) pl28 (fun _ => ⟨rfl, rfl, rfl, rfl, slP_nil _ _, rfl, slP_nil _ _, rfl, trivial⟩) ((.one (off := 0) rfl (.t rfl) (one_is rfl rfl) (Ts' := [tIs (.int .i64 l), tIs (.bool false), tSl encD ([]), tSl encP ([])]) rfl rfl (.one (off := 3) rfl (.t rfl) (one_is rfl rfl) (Ts' := [tIs (.int .i64 l), tIs (.bool false), tSl encD ([]), sIs b 0 n n]) rfl rfl .nil))) rfl) rfl ?_
 refine J.store (.t rfl) (.t rfl) .here sz28 (st_agg (Ts' := [tIs (.int .i64 l), tIs (.bool false), tSl encD ([]), sIs b 0 n n]) (o := 0) rfl) (J.e (JC.ret ?_))
 exact JQ.retLr rfl (.tail _ (.head _)) (fun _ _ h => h) (.agg (.t rfl) (.head _) ag28 (cTs_ldV (g := fun Ts => Ts) (y := [tIs (.int .i64 l), tIs (.bool false), tSl encD ([]), sIs b 0 n n]) rfl rfl))

theorem scaleV_c {B : Nat} (p : Pol) (z : Z) (hf : Fit B p) (hz : Digs z.abs) (hb : B + z.abs.length ≤ 1099511627776) (hl : ¬ p.lv = 0) (h2 : 2 ≤ p.cs.length) (hzl : (atP (p.cs.map (scaleP · (zval z))) (p.cs.length - 1)).c.abs.length ≤ 1099511627776) (hlast : zeroP (atP (p.cs.map (scaleP · (zval z))) (p.cs.length - 1)) = false) : CtrV Try.prog 79 [tV encP p, tV encI z] 28 (fun b cap => tV (encL 4) [tIs (.int .i64 (p.lv)), tIs (.bool false), tSl encD ([]), sIs b 0 (p.cs.length) (p.cs.length)]) (fun cap => cRow encP (p.cs.map (scaleP · (zval z))) (p.cs.length)) := by
 have hc := hf.c
 have hcs := hf.cs
 refine CtrV.of Try.func79 rfl Try.ntmps79 (Nat.le_of_ble_eq_true rfl) fun w0 M0 => (JC.g ?_)
 refine J.boxF (Ts := [tIs (.int .i64 (p.lv)), tIs (.bool (p.c.neg)), tSl encD (p.c.abs), tSl encP (p.cs)]) (.t rfl) (polT_eq _) (ltN rfl) fun b2 => ?_
 refine J.boxF (Ts := [tIs (.bool (z.neg)), tSl encD (z.abs)]) (.t rfl) rfl (ltN rfl) fun b3 => ?_
 refine J.alloc (R := cTs zP) zr28 (fun _ => ⟨rfl, rfl, rfl, rfl, slP_nil _ _, rfl, slP_nil _ _, rfl, trivial⟩) (ltN rfl) fun b4 => (J.e (JC.seq (JC.g ?_)))
 refine J.o (ofa (.t rfl) fd28_0) rfl ?_
 refine J.o (ol (.t rfl) (.tail _ (.tail _ (.head _))) sc3 (cTs_ld rfl)) rfl ?_
 refine J.o (ot_eql (.t rfl) .is) rfl (J.e ?_)
 refine JC.cond_false (.eq (.t rfl) (by rw [decide_eq_false hl])) (JC.skip (JQ.then_normal (JC.g ?_)))
 refine J.o (ofa (.t rfl) fd28_2) rfl ?_
 refine J.o (ol (.t rfl) (.tail _ (.tail _ (.head _))) sc26 (cTs_ld rfl)) rfl ?_
 refine J.o (ot_len (.t rfl) sl26 rfl) rfl ?_
 refine J.make (E := encP) (z := p0) (n := p.cs.length) sl26 (.eq (.t rfl) rfl) (.eq (.t rfl) rfl) zr28 (fun _ => encP_zero) (by decide) (by omega) (by omega) (ltN rfl) fun b19 => (J.A rfl rfl (J.e (JC.seq (JC.g ?_))))
 refine J.o (ofa (.t rfl) fd28_2) rfl ?_
 refine J.o (ol (.t rfl) (.tail _ (.tail _ (.tail _ (.head _)))) sc26 (cTs_ld rfl)) rfl ?_
 refine J.o (ot_len (.t rfl) sl26 rfl) rfl ?_
 refine J.m .is rfl (J.e (JC.block ?_))
 refine JC.loop (ι := Nat) (fun k => [(2, pOwn b2 0), (3, pOwn b3 0), (4, pOwn b4 0), (5, sIs b19 0 (p.cs.length) (p.cs.length)), (21, tSl encP (p.cs)), (22, tIs (.int .i64 (((p.cs).length : Int)))), (23, tIs (.int .i64 (k : Int)))]) (fun k => [⟨b19, 28, cRow encP (fillP (scaleP · (zval z)) p.cs k) (p.cs.length)⟩, ⟨b4, 28, cTs zP⟩, ⟨b3, 25, cTs [tIs (.bool (z.neg)), tSl encD (z.abs)]⟩, ⟨b2, 28, cTs [tIs (.int .i64 (p.lv)), tIs (.bool (p.c.neg)), tSl encD (p.c.abs), tSl encP (p.cs)]⟩]) (fun k => k ≤ p.cs.length) (fun k => p.cs.length - k) 0 (by omega) ?lsub0 ?round0
 case lsub0 => exact sub_trans (sub_heap (.keep (cRow_eq fillP_zero) (.k (.k (.k .nil))))) (sub_l ⟨.t rfl, .t rfl, .t rfl, .t rfl, .t rfl, .t rfl, .eq (.t rfl) (by first | rfl | (congr 3; omega) | (congr 2; omega)), trivial⟩)
 intro k hinv
 have hfl := fillP_len (f := (scaleP · (zval z))) hinv
 refine (JC.g ?_)
 refine J.o (ot_lss (.t rfl) (.t rfl)) rfl (J.e (JC.seq ?_))
 refine JC.cond (.t rfl) (fun hc1 => ?_) (fun hc1 => ?_)
 ·try simp only [bsx] at hc1
  have hs24 := hc1
  refine JC.skip (JQ.then_normal (JC.seq (JC.block (JC.g (J.M rfl rfl ?_)))))
  refine J.o (ixo (z := atP p.cs k) (.t rfl) (.t rfl) sl26 (by omega) (atP_at (by omega) (by omega))) rfl ?_
  refine J.o (lda (.t rfl) ag28 ldp_whole) rfl ?_
  refine J.alloc (R := cTs zP) zr28 (fun _ => ⟨rfl, rfl, rfl, rfl, slP_nil _ _, rfl, slP_nil _ _, rfl, trivial⟩) (ltN rfl) fun b7 => (J.A rfl rfl ?_)
  refine J.store (.t rfl) (.eq (.t rfl) (tV_F (Ts := [tIs (.int .i64 ((atP p.cs k).lv)), tIs (.bool (((atP p.cs k).c).neg)), tSl encD (((atP p.cs k).c).abs), tSl encP ((atP p.cs k).cs)]) (polT_eq _))) .here sz28 (st_agg (Ts' := [tIs (.int .i64 ((atP p.cs k).lv)), tIs (.bool (((atP p.cs k).c).neg)), tSl encD (((atP p.cs k).c).abs), tSl encP ((atP p.cs k).cs)]) (o := 0) rfl) (J.e (JC.region (J.M rfl rfl (J.M rfl rfl ?_))))
  refine J.o (oa (.t rfl) (.head _) ag28 (cTs_ldV (g := polT) (y := (atP p.cs k)) (polT_eq (atP p.cs k)).symm rfl)) rfl ?_
  refine J.o (oa (.t rfl) (.tail _ (.tail _ (.tail _ (.head _)))) ag25 (cTs_ldV (g := zT) (y := z) rfl rfl)) rfl ?_
  refine J.o (oc fn79 (scale_c (atP p.cs k) z (hf.at (by omega)) hz hb) (.cons (.t rfl) (.cons (.t rfl) .nil))) rfl ?_
  refine J.o (ot_eqt (T' := pOwn b19 (0 + k * 4)) (oix (.t rfl) (.t rfl) sl26 (by omega) (by omega)) (own_off2 (by omega))) rfl ?_
  refine J.store (.t rfl) (.t rfl) (.there .here) sz28 (row_set (by omega)) (J.nil (JQ.block_normal (JQ.then_normal (JC.region ?_))))
  refine J.o (ot_add (.t rfl) .is (w64 (by omega) (by omega))) rfl (J.M rfl rfl (J.nil ?_))
  exact JQ.round (k + 1) (by omega) (by omega) (sub_trans (sub_heap (.drop (.keep (cRow_eq (fillP_set (by omega))) (.k (.k (.k .nil)))))) (sub_l ⟨.t rfl, .t rfl, .t rfl, .t rfl, .t rfl, .t rfl, .eq (.t rfl) (by first | rfl | (congr 3; omega) | (congr 2; omega)), trivial⟩))
 ·try simp only [bsx] at hc1
  have hs24 := hc1
  have hk : k = p.cs.length := by omega
  have hfe := fillP_full (f := (scaleP · (zval z))) (cs := p.cs) (k := k) (by omega)
  refine JC.exit (JQ.then_exit (JQ.then_exit (JQ.block_exit (JQ.then_normal (JC.g ?_)))))
  refine J.o (ofa (.t rfl) fd28_0) rfl ?_
  refine J.o (ol (.t rfl) (.tail _ (.tail _ (.tail _ (.head _)))) sc3 (cTs_ld rfl)) rfl (J.M rfl rfl ?_)
  refine J.callL (R' := cRow encP (fillP (scaleP · (zval z)) p.cs k) (p.cs.length)) (Us := []) (cap := []) fn103 (.func (fun _ => rfl)) (joinL_c b19 p.cs.length p.lv (fillP (scaleP · (zval z)) p.cs k) (by omega) h2 (by omega) (by rw [hfe]; exact hzl) (by rw [hfe]; exact hlast)) (.cons (.t rfl) (.cons (.t rfl) .nil)) (fun _ => trivial) .here (ltN rfl) ?_
  refine J.store (.t rfl) (.t rfl) (.there .here) sz28 (st_agg (Ts' := [tIs (.int .i64 (p.lv)), tIs (.bool false), tSl encD ([]), sIs b19 0 (p.cs.length) (p.cs.length)]) (o := 0) rfl) (J.e (JC.ret ?_))
  exact JQ.retV (b := b19) (cap := p.cs.length) (T := fun b cap => tV (encL 4) [tIs (.int .i64 (p.lv)), tIs (.bool false), tSl encD ([]), sIs b 0 (p.cs.length) (p.cs.length)]) (R := fun cap => cRow encP (p.cs.map (scaleP · (zval z))) (p.cs.length)) rfl (hfe ▸ .head _) (.agg (.t rfl) (.tail _ (.head _)) ag28 (cTs_ldV (g := fun Ts => Ts) (y := [tIs (.int .i64 (p.lv)), tIs (.bool false), tSl encD ([]), sIs b19 0 (p.cs.length) (p.cs.length)]) rfl rfl))

theorem copiedV_c {D B : Nat} (p : Pol) (hp : Pg D B p) (hb : D ≤ 4294967296 ∧ B ≤ 90000000000) (hl : ¬ p.lv = 0) : CtrV Try.prog 89 [tV encP p] 28 (fun b cap => tV (encL 4) [tIs (.int .i64 (p.lv)), tIs (.bool false), tSl encD ([]), sIs b 0 (p.cs.length) (p.cs.length)]) (fun cap => cRow encP (p.cs) (p.cs.length)) := by
 have hf := hp.fit hb.1
 have hc := hf.c
 have hcs := hf.cs
 obtain ⟨e2, e3, e4, e5⟩ := hp.can.ends hl
 have hmap := map_one hp.can
 have hV := scaleV_c p (ofI 1) hf (digs_dig _) (by rw [ofI1_len]; omega) hl e2 (by rw [hmap]; exact Nat.le_trans (hf.at (by omega)).c (by omega)) (by rw [hmap]; exact e3)
 rw [hmap] at hV
 refine CtrV.of Try.func89 rfl Try.ntmps89 (Nat.le_of_ble_eq_true rfl) fun w0 M0 => (JC.g ?_)
 refine J.boxF (Ts := [tIs (.int .i64 (p.lv)), tIs (.bool (p.c.neg)), tSl encD (p.c.abs), tSl encP (p.cs)]) (.t rfl) (polT_eq _) (ltN rfl) fun b1 => ?_
 refine J.alloc (R := cTs zP) zr28 (fun _ => ⟨rfl, rfl, rfl, rfl, slP_nil _ _, rfl, slP_nil _ _, rfl, trivial⟩) (ltN rfl) fun b2 => (J.e (JC.seq ?_))
 refine JC.drawAt (Γ' := ?g1) 2 mo (by kernel_rfl) ?tw1 ?k1
 case tw1 =>
  refine TW.o (oa (.t rfl) (.tail _ (.head _)) ag28 (cTs_ldV (g := polT) (y := p) (polT_eq p).symm rfl)) rfl ?_
  refine TW.o (oc fn37 (intOf_c 1 (by omega)) (.cons .is .nil)) rfl ?_
  exact TW.nil
 refine J.callV (T := fun b cap => tV (encL 4) [tIs (.int .i64 (p.lv)), tIs (.bool false), tSl encD ([]), sIs b 0 (p.cs.length) (p.cs.length)]) (R := fun cap => cRow encP (p.cs) (p.cs.length)) fn79 (hV ) (.cons (.t rfl) (.cons (.t rfl) .nil)) (ltN rfl) fun b5 cap5 => ?_
 refine J.store (.t rfl) (.t rfl) (.there .here) sz28 (st_agg (Ts' := [tIs (.int .i64 (p.lv)), tIs (.bool false), tSl encD ([]), sIs b5 0 (p.cs.length) (p.cs.length)]) (o := 0) rfl) (J.e (JC.ret ?_))
 exact JQ.retV (b := b5) (cap := p.cs.length) (T := fun b cap => tV (encL 4) [tIs (.int .i64 (p.lv)), tIs (.bool false), tSl encD ([]), sIs b 0 (p.cs.length) (p.cs.length)]) (R := fun cap => cRow encP (p.cs) (p.cs.length)) rfl (.head _) (.agg (.t rfl) (.tail _ (.head _)) ag28 (cTs_ldV (g := fun Ts => Ts) (y := [tIs (.int .i64 (p.lv)), tIs (.bool false), tSl encD ([]), sIs b5 0 (p.cs.length) (p.cs.length)]) rfl rfl))

theorem normalV_c {D B : Nat} (p : Pol) (hp : Pg D B p) (hb : D ≤ 4294967296 ∧ B ≤ 90000000000) (hl : ¬ p.lv = 0) : CtrV Try.prog 45 [tV encP p] 28 (fun b cap => tV (encL 4) [tIs (.int .i64 (p.lv)), tIs (.bool false), tSl encD ([]), sIs b 0 (p.cs.length) (p.cs.length)]) (fun cap => cRow encP (p.cs) (p.cs.length)) := by
 have hf := hp.fit hb.1
 have hc := hf.c
 have hcs := hf.cs
 obtain ⟨e2, e3, e4, e5⟩ := hp.can.ends hl
 refine CtrV.of Try.func45 rfl Try.ntmps45 (Nat.le_of_ble_eq_true rfl) fun w0 M0 => (JC.g ?_)
 refine J.boxF (Ts := [tIs (.int .i64 (p.lv)), tIs (.bool (p.c.neg)), tSl encD (p.c.abs), tSl encP (p.cs)]) (.t rfl) (polT_eq _) (ltN rfl) fun b1 => ?_
 refine J.alloc (R := cTs zP) zr28 (fun _ => ⟨rfl, rfl, rfl, rfl, slP_nil _ _, rfl, slP_nil _ _, rfl, trivial⟩) (ltN rfl) fun b2 => (J.e (JC.seq (JC.g ?_)))
 refine J.o (ofa (.t rfl) fd28_0) rfl ?_
 refine J.o (ol (.t rfl) (.tail _ (.head _)) sc3 (cTs_ld rfl)) rfl ?_
 refine J.o (ot_leq (.t rfl) .is) rfl (J.e ?_)
 refine JC.cond_false (.eq (.t rfl) (by rw [decide_eq_false (by omega)])) (JC.skip (JQ.then_normal (JC.seq (JC.g ?_))))
 refine J.o (ofa (.t rfl) fd28_0) rfl ?_
 refine J.o (ol (.t rfl) (.tail _ (.head _)) sc3 (cTs_ld rfl)) rfl ?_
 refine J.o (ot_gtr (.t rfl) .is) rfl (J.e ?_)
 refine JC.cond_false (.eq (.t rfl) (by rw [decide_eq_false (by omega)])) (JC.skip (JQ.then_normal (JC.seq (JC.g ?_))))
 refine J.o (oa (.t rfl) (.tail _ (.head _)) ag28 (cTs_ldV (g := polT) (y := p) (polT_eq p).symm rfl)) rfl ?_
 refine J.o (oc fn88 (canonical_c p 5 hf (by omega)) (.cons (.t rfl) (.cons .is .nil))) rfl (J.e ?_)
 refine JC.cond_true (.eq (.t rfl) (by rw [hp.canon])) (JC.g ?_)
 refine J.o (oa (.t rfl) (.tail _ (.head _)) ag28 (cTs_ldV (g := polT) (y := p) (polT_eq p).symm rfl)) rfl ?_
 refine J.callV (T := fun b cap => tV (encL 4) [tIs (.int .i64 (p.lv)), tIs (.bool false), tSl encD ([]), sIs b 0 (p.cs.length) (p.cs.length)]) (R := fun cap => cRow encP (p.cs) (p.cs.length)) fn89 (copiedV_c p hp hb hl) (.cons (.t rfl) .nil) (ltN rfl) fun b20 cap20 => ?_
 refine J.store (.t rfl) (.t rfl) (.there .here) sz28 (st_agg (Ts' := [tIs (.int .i64 (p.lv)), tIs (.bool false), tSl encD ([]), sIs b20 0 (p.cs.length) (p.cs.length)]) (o := 0) rfl) (J.e (JC.ret (JQ.then_ret ?_)))
 exact JQ.retV (b := b20) (cap := p.cs.length) (T := fun b cap => tV (encL 4) [tIs (.int .i64 (p.lv)), tIs (.bool false), tSl encD ([]), sIs b 0 (p.cs.length) (p.cs.length)]) (R := fun cap => cRow encP (p.cs) (p.cs.length)) rfl (.head _) (.agg (.t rfl) (.tail _ (.head _)) ag28 (cTs_ldV (g := fun Ts => Ts) (y := [tIs (.int .i64 (p.lv)), tIs (.bool false), tSl encD ([]), sIs b20 0 (p.cs.length) (p.cs.length)]) rfl rfl))

theorem normK_c {D B : Nat} (p : Pol) (hp : Pg D B p) (hb : D ≤ 4294967296 ∧ B ≤ 90000000000) : Ctr Try.prog 45 [tV encP p] (tV encP p) := by
 have h := rnormal_c p (hp.fit hb.1) (by omega) (.inr (.inr hp.canon))
 rw [normC_can hp.can] at h
 exact h

theorem isZeroK_c {D B : Nat} (p : Pol) (hp : Pg D B p) (hb : D ≤ 4294967296 ∧ B ≤ 90000000000) : Ctr Try.prog 30 [tV encP p] (tIs (.bool (zeroP p))) := by
 have hc := hp.c_len hb.1
 refine Ctr.of Try.func30 rfl Try.ntmps30 (Nat.le_of_ble_eq_true rfl) fun w0 M0 => (JC.g ?_)
 refine J.boxF (Ts := [tIs (.int .i64 (p.lv)), tIs (.bool (p.c.neg)), tSl encD (p.c.abs), tSl encP (p.cs)]) (.t rfl) (polT_eq _) (ltN rfl) fun b1 => ?_
 refine J.a .is rfl (J.e (JC.g ?_))
 refine J.o (oa (.t rfl) (.head _) ag28 (cTs_ldV (g := polT) (y := p) (polT_eq p).symm rfl)) rfl ?_
 refine J.o (oc fn45 (normK_c p (by assumption) (by omega)) (.cons (.t rfl) .nil)) rfl ?_
 refine J.o (oc fn76 (pzero_c p (by omega)) (.cons (.t rfl) .nil)) rfl (J.A rfl rfl (J.e (JC.ret ?_)))
 exact JQ.ret1 rfl (.tmp (.t rfl))

theorem valid_c (l : Int) : Ctr Try.prog 84 [tIs (.int .i64 l)] (tIs (.bool (decide (1 ≤ l) && decide (l ≤ 4)))) := by
 refine Ctr.of Try.func84 rfl Try.ntmps84 (Nat.le_of_ble_eq_true rfl) fun w0 M0 => (JC.g ?_)
 refine J.a .is rfl (J.e (JC.g (J.M rfl rfl ?_)))
 refine J.o (ot_geq (.t rfl) .is) rfl (J.M rfl rfl ?_)
 refine J.opg rfl rfl rfl (ltN rfl) (fun hg => ot_move (.t rfl)) rfl (ltN rfl) ?_
 refine J.opg rfl rfl rfl (ltN rfl) (fun hg => ot_leq (.iff hg (.t rfl)) .is) rfl (ltN rfl) ?_
 refine J.o (ot_and2 (.t rfl) (.t rfl) .is) rfl (J.A rfl rfl (J.e (JC.ret ?_)))
 exact JQ.ret1 rfl (.tmp (.eq (.t rfl) (by first | rfl | (congr 3; omega) | (congr 2; omega) | simp [*])))

theorem coefsO_c {D B : Nat} (p : Pol) (hp : Pg D B p) (hb : D ≤ 4294967296 ∧ B ≤ 90000000000) (l : Int) (hlv : p.lv = l) (hl : ¬ p.lv = 0) : CtrO Try.prog 90 [tV encP p, tIs (.int .i64 l)] 28 (p.cs.length) (p.cs.length) (fun cap => cRow encP (p.cs) (p.cs.length)) := by
 have hf := hp.fit hb.1
 have hc := hf.c
 have hcs := hf.cs
 obtain ⟨e2, e3, e4, e5⟩ := hp.can.ends hl
 refine CtrO.of Try.func90 rfl Try.ntmps90 (Nat.le_of_ble_eq_true rfl) fun w0 M0 => (JC.g ?_)
 refine J.boxF (Ts := [tIs (.int .i64 (p.lv)), tIs (.bool (p.c.neg)), tSl encD (p.c.abs), tSl encP (p.cs)]) (.t rfl) (polT_eq _) (ltN rfl) fun b2 => ?_
 refine J.boxS (.t rfl) (one_is rfl rfl) (ltN rfl) fun b3 => ?_
 refine J.a .is rfl (J.e (JC.g ?_))
 refine J.o (oa (.t rfl) (.tail _ (.head _)) ag28 (cTs_ldV (g := polT) (y := p) (polT_eq p).symm rfl)) rfl ?_
 refine J.callV (T := fun b cap => tV (encL 4) [tIs (.int .i64 (p.lv)), tIs (.bool false), tSl encD ([]), sIs b 0 (p.cs.length) (p.cs.length)]) (R := fun cap => cRow encP (p.cs) (p.cs.length)) fn45 (normalV_c p hp hb hl) (.cons (.t rfl) .nil) (ltN rfl) fun b14 cap14 => ?_
 refine J.alloc (R := cTs zP) zr28 (fun _ => ⟨rfl, rfl, rfl, rfl, slP_nil _ _, rfl, slP_nil _ _, rfl, trivial⟩) (ltN rfl) fun b5 => ?_
 refine J.store (.t rfl) (.t rfl) .here sz28 (st_agg (Ts' := [tIs (.int .i64 (p.lv)), tIs (.bool false), tSl encD ([]), sIs b14 0 (p.cs.length) (p.cs.length)]) (o := 0) rfl) (J.e (JC.seq (JC.g ?_)))
 refine J.o (oa (.t rfl) (.head _) ag28 (cTs_ldV (g := fun Ts => Ts) (y := [tIs (.int .i64 (p.lv)), tIs (.bool false), tSl encD ([]), sIs b14 0 (p.cs.length) (p.cs.length)]) rfl rfl)) rfl ?_
 refine J.callB fn30 (isZeroK_c p hp hb) (sub_freezeV (E := encP) (xs := p.cs) (A := [tIs (.int .i64 (p.lv)), tIs (.bool false), tSl encD ([])]) (t := 15) rfl (.there .here) rfl (by omega)) (.cons (.eq (.t rfl) (tV_F' (polT_node hp.can hl))) .nil) (ltN rfl) (J.e ?_)
 refine JC.cond_false (.eq (.t rfl) (by unfold zeroP; rw [decide_eq_false hl]; rfl)) (JC.skip (JQ.then_normal (JC.seq (JC.g ?_))))
 refine J.o (ol (.t rfl) (.tail _ (.tail _ (.head _))) sc3 (cTs_ld rfl)) rfl ?_
 refine J.o (oc fn84 (valid_c l ) (.cons (.t rfl) .nil)) rfl ?_
 refine J.o (ot_not (.t rfl)) rfl (J.M rfl rfl ?_)
 refine J.opg rfl rfl rfl (ltN rfl) (fun hg => ofa (.t rfl) fd28_0) rfl (ltN rfl) ?_
 refine J.opg rfl rfl rfl (ltN rfl) (fun hg => ol (.iff hg (.t rfl)) (.head _) sc3 (cTs_ld rfl)) rfl (ltN rfl) ?_
 refine J.opg rfl rfl rfl (ltN rfl) (fun hg => ol (.t rfl) (.tail _ (.tail _ (.head _))) sc3 (cTs_ld rfl)) rfl (ltN rfl) ?_
 refine J.opg rfl rfl rfl (ltN rfl) (fun hg => ot_lss (.iff hg (.t rfl)) (.iff hg (.t rfl))) rfl (ltN rfl) ?_
 refine J.o (ot_or2 (.t rfl) .is (.t rfl)) rfl (J.e ?_)
 refine JC.cond_false (.eq (.t rfl) (by rw [decide_eq_true (show 1 ≤ l by omega), decide_eq_true (show l ≤ 4 by omega), decide_eq_false (show ¬ p.lv < l by omega)]; rfl)) (JC.skip (JQ.then_normal (JC.seq (JC.g ?_))))
 refine J.o (ofa (.t rfl) fd28_0) rfl ?_
 refine J.o (ol (.t rfl) (.head _) sc3 (cTs_ld rfl)) rfl ?_
 refine J.o (ol (.t rfl) (.tail _ (.tail _ (.head _))) sc3 (cTs_ld rfl)) rfl ?_
 refine J.o (ot_eql (.t rfl) (.t rfl)) rfl (J.e ?_)
 refine JC.cond_true (.eq (.t rfl) (by rw [decide_eq_true hlv])) (JC.g ?_)
 refine J.o (ofa (.t rfl) fd28_2) rfl ?_
 refine J.o (ol (.t rfl) (.head _) sc26 (cTs_ld rfl)) rfl (J.A rfl rfl (J.e (JC.ret (JQ.then_ret ?_))))
 exact JQ.retO (b := b14) (cap := p.cs.length) (n := p.cs.length) (cp := p.cs.length) (R := fun cap => cRow encP (p.cs) (p.cs.length)) rfl (.tail _ (.head _)) (.eq (.t rfl) rfl)

theorem rsame_c {B : Nat} (p : Pol) (hf : Fit B p) (hb : B ≤ 1000000000000) : Ctr Try.prog 77 [tV encP p, tV encP p] (tIs (.bool true)) := by
 induction p using Pol.ind
 rename_i p ih
 have hc := hf.c
 have hcs := hf.cs
 refine Ctr.of Try.func77 rfl Try.ntmps77 (Nat.le_of_ble_eq_true rfl) fun w0 M0 => (JC.g ?_)
 refine J.boxF (Ts := [tIs (.int .i64 (p.lv)), tIs (.bool (p.c.neg)), tSl encD (p.c.abs), tSl encP (p.cs)]) (.t rfl) (polT_eq _) (ltN rfl) fun b2 => ?_
 refine J.boxF (Ts := [tIs (.int .i64 (p.lv)), tIs (.bool (p.c.neg)), tSl encD (p.c.abs), tSl encP (p.cs)]) (.t rfl) (polT_eq _) (ltN rfl) fun b3 => ?_
 refine J.a .is rfl (J.e (JC.seq (JC.g ?_)))
 refine J.o (ofa (.t rfl) fd28_0) rfl ?_
 refine J.o (ol (.t rfl) (.tail _ (.head _)) sc3 (cTs_ld rfl)) rfl ?_
 refine J.o (ofa (.t rfl) fd28_0) rfl ?_
 refine J.o (ol (.t rfl) (.head _) sc3 (cTs_ld rfl)) rfl ?_
 refine J.o (ot_neq (.t rfl) (.t rfl)) rfl (J.M rfl rfl ?_)
 refine J.opg rfl rfl rfl (ltN rfl) (fun hg => ofa (.t rfl) fd28_2) rfl (ltN rfl) ?_
 refine J.opg rfl rfl rfl (ltN rfl) (fun hg => ol (.iff hg (.t rfl)) (.tail _ (.head _)) sc26 (cTs_ld rfl)) rfl (ltN rfl) ?_
 refine J.opg rfl rfl rfl (ltN rfl) (fun hg => ot_len (.iff hg (.t rfl)) sl26 rfl) rfl (ltN rfl) ?_
 refine J.opg rfl rfl rfl (ltN rfl) (fun hg => ofa (.t rfl) fd28_2) rfl (ltN rfl) ?_
 refine J.opg rfl rfl rfl (ltN rfl) (fun hg => ol (.iff hg (.t rfl)) (.head _) sc26 (cTs_ld rfl)) rfl (ltN rfl) ?_
 refine J.opg rfl rfl rfl (ltN rfl) (fun hg => ot_len (.iff hg (.t rfl)) sl26 rfl) rfl (ltN rfl) ?_
 refine J.opg rfl rfl rfl (ltN rfl) (fun hg => ot_neq (.iff hg (.t rfl)) (.iff hg (.t rfl))) rfl (ltN rfl) ?_
 refine J.o (ot_or2 (.t rfl) .is (.t rfl)) rfl (J.M rfl rfl ?_)
 refine J.opg rfl rfl rfl (ltN rfl) (fun hg => ofa (.t rfl) fd28_1) rfl (ltN rfl) ?_
 refine J.opg rfl rfl rfl (ltN rfl) (fun hg => oa (.iff hg (.t rfl)) (.tail _ (.head _)) ag25 (cTs_ldV (g := zT) (y := p.c) rfl rfl)) rfl (ltN rfl) ?_
 refine J.opg rfl rfl rfl (ltN rfl) (fun hg => ofa (.t rfl) fd28_1) rfl (ltN rfl) ?_
 refine J.opg rfl rfl rfl (ltN rfl) (fun hg => oa (.iff hg (.t rfl)) (.head _) ag25 (cTs_ldV (g := zT) (y := p.c) rfl rfl)) rfl (ltN rfl) ?_
 refine J.opg rfl rfl rfl (ltN rfl) (fun hg => (by have hg' := hg; (try simp only [bsx] at hg'); exact oc fn92 (intSame_c p.c p.c (by omega) (by omega)) (.cons (.iff hg (.t rfl)) (.cons (.iff hg (.t rfl)) .nil)))) rfl (ltN rfl) ?_
 refine J.opg rfl rfl rfl (ltN rfl) (fun hg => ot_not (.iff hg (.t rfl))) rfl (ltN rfl) ?_
 refine J.o (ot_or2 (.t rfl) .is (.t rfl)) rfl (J.e ?_)
 refine JC.cond_false (.eq (.t rfl) (by simp)) (JC.skip (JQ.then_normal (JC.seq (JC.g ?_))))
 refine J.o (ofa (.t rfl) fd28_2) rfl ?_
 refine J.o (ol (.t rfl) (.tail _ (.head _)) sc26 (cTs_ld rfl)) rfl ?_
 refine J.o (ot_len (.t rfl) sl26 rfl) rfl ?_
 refine J.m .is rfl (J.e (JC.block ?_))
 refine JC.loop (ι := Nat) (fun k => [(3, pOwn b3 0), (30, tSl encP (p.cs)), (31, tIs (.int .i64 (((p.cs).length : Int)))), (32, tIs (.int .i64 (k : Int)))]) (fun k => [⟨b3, 28, cTs [tIs (.int .i64 (p.lv)), tIs (.bool (p.c.neg)), tSl encD (p.c.abs), tSl encP (p.cs)]⟩, ⟨b2, 28, cTs [tIs (.int .i64 (p.lv)), tIs (.bool (p.c.neg)), tSl encD (p.c.abs), tSl encP (p.cs)]⟩]) (fun k => k ≤ p.cs.length) (fun k => p.cs.length - k) 0 (by omega) ?lsub0 ?round0
 case lsub0 => exact sub_trans (sub_heap (.k (.k .nil))) (sub_l ⟨.t rfl, .t rfl, .t rfl, .eq (.t rfl) (by first | rfl | (congr 3; omega) | (congr 2; omega)), trivial⟩)
 intro k hinv
 refine (JC.g ?_)
 refine J.o (ot_lss (.t rfl) (.t rfl)) rfl (J.e (JC.seq ?_))
 refine JC.cond (.t rfl) (fun hc1 => ?_) (fun hc1 => ?_)
 ·try simp only [bsx] at hc1
  have hs33 := hc1
  refine JC.skip (JQ.then_normal (JC.seq (JC.block (JC.g (J.M rfl rfl ?_)))))
  refine J.o (ixo (z := atP p.cs k) (.t rfl) (.t rfl) sl26 (by omega) (atP_at (by omega) (by omega))) rfl ?_
  refine J.o (lda (.t rfl) ag28 ldp_whole) rfl ?_
  refine J.alloc (R := cTs zP) zr28 (fun _ => ⟨rfl, rfl, rfl, rfl, slP_nil _ _, rfl, slP_nil _ _, rfl, trivial⟩) (ltN rfl) fun b6 => (J.A rfl rfl ?_)
  refine J.store (.t rfl) (.eq (.t rfl) (tV_F (Ts := [tIs (.int .i64 ((atP p.cs k).lv)), tIs (.bool (((atP p.cs k).c).neg)), tSl encD (((atP p.cs k).c).abs), tSl encP ((atP p.cs k).cs)]) (polT_eq _))) .here sz28 (st_agg (Ts' := [tIs (.int .i64 ((atP p.cs k).lv)), tIs (.bool (((atP p.cs k).c).neg)), tSl encD (((atP p.cs k).c).abs), tSl encP ((atP p.cs k).cs)]) (o := 0) rfl) (J.e (JC.seq ?_))
  refine JC.draw (Γ' := ?g1) mo (by kernel_rfl) ?tw1 ?k1
  case tw1 =>
   refine TW.o (oa (.t rfl) (.head _) ag28 (cTs_ldV (g := polT) (y := (atP p.cs k)) (polT_eq (atP p.cs k)).symm rfl)) rfl ?_
   refine TW.o (ofa (.t rfl) fd28_2) rfl ?_
   refine TW.o (ol (.t rfl) (.tail _ (.head _)) sc26 (cTs_ld rfl)) rfl (TW.M rfl rfl ?_)
   refine TW.o (ixo (z := atP p.cs k) (.t rfl) (.t rfl) sl26 (by omega) (atP_at (by omega) (by omega))) rfl ?_
   refine TW.o (lda (.t rfl) ag28 ldp_whole) rfl ?_
   refine TW.o (oc fn77 (ih (atP p.cs k) (atP_mem (by omega)) (hf.at (by omega))) (.cons (.t rfl) (.cons (.t rfl) .nil))) rfl ?_
   refine TW.o (ot_not (.t rfl)) rfl ?_
   exact TW.nil
  refine JQ.then_normal ?_
  refine JC.cond_false (.eq (.t rfl) (by rfl)) (JC.skip (JQ.block_normal (JQ.then_normal (JC.region ?_))))
  refine J.o (ot_add (.t rfl) .is (w64 (by omega) (by omega))) rfl (J.M rfl rfl (J.nil ?_))
  exact JQ.round (k + 1) (by omega) (by omega) (sub_trans (sub_heap (.drop (.k (.k .nil)))) (sub_l ⟨.t rfl, .t rfl, .t rfl, .eq (.t rfl) (by first | rfl | (congr 3; omega) | (congr 2; omega)), trivial⟩))
 ·try simp only [bsx] at hc1
  have hs33 := hc1
  refine JC.exit (JQ.then_exit (JQ.then_exit (JQ.block_exit (JQ.then_normal (JC.g ?_)))))
  refine J.a .is rfl (J.e (JC.ret ?_))
  exact JQ.ret1 rfl (.tmp (.t rfl))

theorem sameK_c {D B : Nat} (p q : Pol) (hp : Pg D B p) (hb : D ≤ 4294967296 ∧ B ≤ 90000000000) (h : p = q) : Ctr Try.prog 31 [tV encP p, tV encP q] (tIs (.bool true)) := by
 refine Ctr.of Try.func31 rfl Try.ntmps31 (Nat.le_of_ble_eq_true rfl) fun w0 M0 => (JC.g ?_)
 refine J.boxF (Ts := [tIs (.int .i64 (p.lv)), tIs (.bool (p.c.neg)), tSl encD (p.c.abs), tSl encP (p.cs)]) (.t rfl) (polT_eq _) (ltN rfl) fun b2 => ?_
 refine J.boxF (Ts := [tIs (.int .i64 (q.lv)), tIs (.bool (q.c.neg)), tSl encD (q.c.abs), tSl encP (q.cs)]) (.t rfl) (polT_eq _) (ltN rfl) fun b3 => ?_
 refine J.a .is rfl (J.e (JC.seq ?_))
 refine JC.draw (Γ' := ?g1) mo (by kernel_rfl) ?tw1 ?k1
 case tw1 =>
  refine TW.o (oa (.t rfl) (.tail _ (.head _)) ag28 (cTs_ldV (g := polT) (y := p) (polT_eq p).symm rfl)) rfl ?_
  refine TW.o (oc fn45 (normK_c p (by assumption) (by omega)) (.cons (.t rfl) .nil)) rfl ?_
  refine TW.o (oa (.t rfl) (.head _) ag28 (cTs_ldV (g := polT) (y := q) (polT_eq q).symm rfl)) rfl ?_
  refine TW.o (oc fn45 (normK_c q (h ▸ hp) hb) (.cons (.t rfl) .nil)) rfl ?_
  refine TW.o (oc fn77 (rsame_c p (hp.fit hb.1) (by omega)) (.cons (.t rfl) (.cons (.eq (.t rfl) (by rw [h])) .nil))) rfl ?_
  refine TW.o (ot_assign (.t rfl)) rfl ?_
  exact TW.nil
 refine JQ.then_normal (JC.ret ?_)
 exact JQ.ret1 rfl (.tmp (.t rfl))

theorem mulK_c {D E B C : Nat} (p q : Pol) (hp : Pg D B p) (hq : Pg E C q) (hb : (1 ≤ D ∧ 1 ≤ E ∧ D + E ≤ 4294967296) ∧ B + C ≤ 80000000000) : Ctr Try.prog 29 [tV encP p, tV encP q] (tV encP (mulF 4 p q)) := by
 refine Ctr.of Try.func29 rfl Try.ntmps29 (Nat.le_of_ble_eq_true rfl) fun w0 M0 => (JC.g ?_)
 refine J.boxF (Ts := [tIs (.int .i64 (p.lv)), tIs (.bool (p.c.neg)), tSl encD (p.c.abs), tSl encP (p.cs)]) (.t rfl) (polT_eq _) (ltN rfl) fun b2 => ?_
 refine J.boxF (Ts := [tIs (.int .i64 (q.lv)), tIs (.bool (q.c.neg)), tSl encD (q.c.abs), tSl encP (q.cs)]) (.t rfl) (polT_eq _) (ltN rfl) fun b3 => ?_
 refine J.alloc (R := cTs zP) zr28 (fun _ => ⟨rfl, rfl, rfl, rfl, slP_nil _ _, rfl, slP_nil _ _, rfl, trivial⟩) (ltN rfl) fun b4 => (J.e (JC.seq ?_))
 refine JC.drawAt (Γ' := ?g1) 5 mo (by kernel_rfl) ?tw1 ?k1
 case tw1 =>
  refine TW.o (oa (.t rfl) (.tail _ (.tail _ (.head _))) ag28 (cTs_ldV (g := polT) (y := p) (polT_eq p).symm rfl)) rfl ?_
  refine TW.o (oc fn45 (normK_c p (by assumption) (by omega)) (.cons (.t rfl) .nil)) rfl ?_
  refine TW.o (oa (.t rfl) (.tail _ (.head _)) ag28 (cTs_ldV (g := polT) (y := q) (polT_eq q).symm rfl)) rfl ?_
  refine TW.o (oc fn45 (normK_c q (by assumption) (by omega)) (.cons (.t rfl) .nil)) rfl ?_
  refine TW.o (oc fn75 (rmul_c 4 p q hp.can.lev hq.can.lev hp.sz hq.sz (Nat.le_refl _) ⟨by omega, by omega, by omega⟩ hp.nr hq.nr (by omega)) (.cons (.t rfl) (.cons (.t rfl) .nil))) rfl ?_
  exact TW.nil
 refine J.store (.t rfl) (.eq (.t rfl) (tV_F (Ts := [tIs (.int .i64 ((mulF 4 p q).lv)), tIs (.bool (((mulF 4 p q).c).neg)), tSl encD (((mulF 4 p q).c).abs), tSl encP ((mulF 4 p q).cs)]) (polT_eq _))) .here sz28 (st_agg (Ts' := [tIs (.int .i64 ((mulF 4 p q).lv)), tIs (.bool (((mulF 4 p q).c).neg)), tSl encD (((mulF 4 p q).c).abs), tSl encP ((mulF 4 p q).cs)]) (o := 0) rfl) (J.e (JC.ret ?_))
 exact JQ.ret1 rfl (.agg (.t rfl) (.head _) ag28 (cTs_ldV (g := polT) (y := (mulF 4 p q)) (polT_eq (mulF 4 p q)).symm rfl))

theorem negK_c {D B : Nat} (p : Pol) (hp : Pg D B p) (hb : D ≤ 4294967296 ∧ B ≤ 90000000000) : Ctr Try.prog 54 [tV encP p] (tV encP (scaleP p (-1))) := by
 have hf := hp.fit hb.1
 refine Ctr.of Try.func54 rfl Try.ntmps54 (Nat.le_of_ble_eq_true rfl) fun w0 M0 => (JC.g ?_)
 refine J.boxF (Ts := [tIs (.int .i64 (p.lv)), tIs (.bool (p.c.neg)), tSl encD (p.c.abs), tSl encP (p.cs)]) (.t rfl) (polT_eq _) (ltN rfl) fun b1 => ?_
 refine J.alloc (R := cTs zP) zr28 (fun _ => ⟨rfl, rfl, rfl, rfl, slP_nil _ _, rfl, slP_nil _ _, rfl, trivial⟩) (ltN rfl) fun b2 => (J.e (JC.g ?_))
 refine J.o (oa (.t rfl) (.tail _ (.head _)) ag28 (cTs_ldV (g := polT) (y := p) (polT_eq p).symm rfl)) rfl ?_
 refine J.o (oc fn45 (normK_c p (by assumption) (by omega)) (.cons (.t rfl) .nil)) rfl ?_
 refine J.o (oc fn37 (intOf_c (-1) (by omega)) (.cons .is .nil)) rfl ?_
 refine J.o (ot_eqt (T' := tV encP (scaleP p (-1))) (oc fn79 (scale_c p (ofI (-1)) hf (digs_dig _) (by rw [ofIm1_len]; omega)) (.cons (.t rfl) (.cons (.t rfl) .nil))) (by rw [zval_ofI])) rfl ?_
 refine J.store (.t rfl) (.eq (.t rfl) (tV_F (Ts := [tIs (.int .i64 ((scaleP p (-1)).lv)), tIs (.bool (((scaleP p (-1)).c).neg)), tSl encD (((scaleP p (-1)).c).abs), tSl encP ((scaleP p (-1)).cs)]) (polT_eq _))) .here sz28 (st_agg (Ts' := [tIs (.int .i64 ((scaleP p (-1)).lv)), tIs (.bool (((scaleP p (-1)).c).neg)), tSl encD (((scaleP p (-1)).c).abs), tSl encP ((scaleP p (-1)).cs)]) (o := 0) rfl) (J.e (JC.ret ?_))
 exact JQ.ret1 rfl (.agg (.t rfl) (.head _) ag28 (cTs_ldV (g := polT) (y := (scaleP p (-1))) (polT_eq (scaleP p (-1))).symm rfl))

theorem addK_c {D B : Nat} (p q : Pol) (hp : Pg D B p) (hq : Pg D B q) (hb : D ≤ 4294967296 ∧ B ≤ 90000000000) : Ctr Try.prog 40 [tV encP p, tV encP q] (tV encP (addF 4 p q)) := by
 refine Ctr.of Try.func40 rfl Try.ntmps40 (Nat.le_of_ble_eq_true rfl) fun w0 M0 => (JC.g ?_)
 refine J.boxF (Ts := [tIs (.int .i64 (p.lv)), tIs (.bool (p.c.neg)), tSl encD (p.c.abs), tSl encP (p.cs)]) (.t rfl) (polT_eq _) (ltN rfl) fun b2 => ?_
 refine J.boxF (Ts := [tIs (.int .i64 (q.lv)), tIs (.bool (q.c.neg)), tSl encD (q.c.abs), tSl encP (q.cs)]) (.t rfl) (polT_eq _) (ltN rfl) fun b3 => ?_
 refine J.alloc (R := cTs zP) zr28 (fun _ => ⟨rfl, rfl, rfl, rfl, slP_nil _ _, rfl, slP_nil _ _, rfl, trivial⟩) (ltN rfl) fun b4 => (J.e (JC.seq ?_))
 refine JC.drawAt (Γ' := ?g1) 5 mo (by kernel_rfl) ?tw1 ?k1
 case tw1 =>
  refine TW.o (oa (.t rfl) (.tail _ (.tail _ (.head _))) ag28 (cTs_ldV (g := polT) (y := p) (polT_eq p).symm rfl)) rfl ?_
  refine TW.o (oc fn45 (normK_c p (by assumption) (by omega)) (.cons (.t rfl) .nil)) rfl ?_
  refine TW.o (oa (.t rfl) (.tail _ (.head _)) ag28 (cTs_ldV (g := polT) (y := q) (polT_eq q).symm rfl)) rfl ?_
  refine TW.o (oc fn45 (normK_c q (by assumption) (by omega)) (.cons (.t rfl) .nil)) rfl ?_
  refine TW.o (oc fn72 (add_c 4 p q hp.can.lev hq.can.lev (hp.fit hb.1) (hq.fit hb.1) (by omega)) (.cons (.t rfl) (.cons (.t rfl) .nil))) rfl ?_
  exact TW.nil
 refine J.store (.t rfl) (.eq (.t rfl) (tV_F (Ts := [tIs (.int .i64 ((addF 4 p q).lv)), tIs (.bool (((addF 4 p q).c).neg)), tSl encD (((addF 4 p q).c).abs), tSl encP ((addF 4 p q).cs)]) (polT_eq _))) .here sz28 (st_agg (Ts' := [tIs (.int .i64 ((addF 4 p q).lv)), tIs (.bool (((addF 4 p q).c).neg)), tSl encD (((addF 4 p q).c).abs), tSl encP ((addF 4 p q).cs)]) (o := 0) rfl) (J.e (JC.ret ?_))
 exact JQ.ret1 rfl (.agg (.t rfl) (.head _) ag28 (cTs_ldV (g := polT) (y := (addF 4 p q)) (polT_eq (addF 4 p q)).symm rfl))

theorem subK_c {D B : Nat} (p q : Pol) (hp : Pg D B p) (hq : Pg D B q) (hb : D ≤ 4294967296 ∧ B ≤ 90000000000) : Ctr Try.prog 68 [tV encP p, tV encP q] (tV encP (addF 4 p (scaleP q (-1)))) := by
 refine Ctr.of Try.func68 rfl Try.ntmps68 (Nat.le_of_ble_eq_true rfl) fun w0 M0 => (JC.g ?_)
 refine J.boxF (Ts := [tIs (.int .i64 (p.lv)), tIs (.bool (p.c.neg)), tSl encD (p.c.abs), tSl encP (p.cs)]) (.t rfl) (polT_eq _) (ltN rfl) fun b2 => ?_
 refine J.boxF (Ts := [tIs (.int .i64 (q.lv)), tIs (.bool (q.c.neg)), tSl encD (q.c.abs), tSl encP (q.cs)]) (.t rfl) (polT_eq _) (ltN rfl) fun b3 => ?_
 refine J.alloc (R := cTs zP) zr28 (fun _ => ⟨rfl, rfl, rfl, rfl, slP_nil _ _, rfl, slP_nil _ _, rfl, trivial⟩) (ltN rfl) fun b4 => (J.e (JC.seq ?_))
 refine JC.drawAt (Γ' := ?g1) 5 mo (by kernel_rfl) ?tw1 ?k1
 case tw1 =>
  refine TW.o (oa (.t rfl) (.tail _ (.tail _ (.head _))) ag28 (cTs_ldV (g := polT) (y := p) (polT_eq p).symm rfl)) rfl ?_
  refine TW.o (oc fn45 (normK_c p (by assumption) (by omega)) (.cons (.t rfl) .nil)) rfl ?_
  refine TW.o (oa (.t rfl) (.tail _ (.head _)) ag28 (cTs_ldV (g := polT) (y := q) (polT_eq q).symm rfl)) rfl ?_
  refine TW.o (oc fn54 (negK_c q (by assumption) (by omega)) (.cons (.t rfl) .nil)) rfl ?_
  refine TW.o (oc fn72 (add_c 4 p (scaleP q (-1)) hp.can.lev hq.neg.can.lev (hp.fit hb.1) (hq.neg.fit hb.1) (by omega)) (.cons (.t rfl) (.cons (.t rfl) .nil))) rfl ?_
  exact TW.nil
 refine J.store (.t rfl) (.eq (.t rfl) (tV_F (Ts := [tIs (.int .i64 ((addF 4 p (scaleP q (-1))).lv)), tIs (.bool (((addF 4 p (scaleP q (-1))).c).neg)), tSl encD (((addF 4 p (scaleP q (-1))).c).abs), tSl encP ((addF 4 p (scaleP q (-1))).cs)]) (polT_eq _))) .here sz28 (st_agg (Ts' := [tIs (.int .i64 ((addF 4 p (scaleP q (-1))).lv)), tIs (.bool (((addF 4 p (scaleP q (-1))).c).neg)), tSl encD (((addF 4 p (scaleP q (-1))).c).abs), tSl encP ((addF 4 p (scaleP q (-1))).cs)]) (o := 0) rfl) (J.e (JC.ret ?_))
 exact JQ.ret1 rfl (.agg (.t rfl) (.head _) ag28 (cTs_ldV (g := polT) (y := (addF 4 p (scaleP q (-1)))) (polT_eq (addF 4 p (scaleP q (-1)))).symm rfl))

theorem constK_c (z : Z) (hzl : z.abs.length ≤ 1000000000) : Ctr Try.prog 36 [tV encI z] (tV encP (constP (zval z))) := by
 refine Ctr.of Try.func36 rfl Try.ntmps36 (Nat.le_of_ble_eq_true rfl) fun w0 M0 => (JC.g ?_)
 refine J.boxF (Ts := [tIs (.bool (z.neg)), tSl encD (z.abs)]) (.t rfl) rfl (ltN rfl) fun b1 => ?_
 refine J.alloc (R := cTs zP) zr28 (fun _ => ⟨rfl, rfl, rfl, rfl, slP_nil _ _, rfl, slP_nil _ _, rfl, trivial⟩) (ltN rfl) fun b2 => (J.e (JC.g ?_))
 refine J.o (oa (.t rfl) (.tail _ (.head _)) ag25 (cTs_ldV (g := zT) (y := z) rfl rfl)) rfl ?_
 refine J.o (oc fn81 (intNormal_c z (by omega)) (.cons (.t rfl) .nil)) rfl ?_
 refine J.o (ot_eqt (T' := tV encP (Pol.mk 0 (ofI (zval z)) ([]))) (ot_build (Ts := zP) pl28 (fun _ => ⟨rfl, rfl, rfl, rfl, slP_nil _ _, rfl, slP_nil _ _, rfl, trivial⟩) ((.agg (off := 1) rfl (.eq (.t rfl) (tV_F (Ts := [tIs (.bool ((ofI (zval z)).neg)), tSl encD ((ofI (zval z)).abs)]) rfl)) (Ts' := [tIs (.int .i64 0), tIs (.bool ((ofI (zval z)).neg)), tSl encD ((ofI (zval z)).abs), tSl encP ([])]) rfl rfl .nil)) rfl) (tV_F' (polT_eq _))) rfl ?_
 refine J.store (.t rfl) (.eq (.t rfl) (tV_F (Ts := [tIs (.int .i64 0), tIs (.bool ((ofI (zval z)).neg)), tSl encD ((ofI (zval z)).abs), tSl encP ([])]) (polT_eq _))) .here sz28 (st_agg (Ts' := [tIs (.int .i64 0), tIs (.bool ((ofI (zval z)).neg)), tSl encD ((ofI (zval z)).abs), tSl encP ([])]) (o := 0) rfl) (J.e (JC.ret ?_))
 exact JQ.ret1 rfl (.agg (.t rfl) (.head _) ag28 (agg_eq (T := tV encP (Pol.mk 0 (ofI (zval z)) ([]))) (T' := tV encP (constP (zval z))) (by rfl) (cTs_ldV (g := polT) (y := (Pol.mk 0 (ofI (zval z)) ([]))) (polT_eq (Pol.mk 0 (ofI (zval z)) ([]))).symm rfl)))

theorem joinK_c {D B n : Nat} (cs : List Pol) (l : Nat) (lv : Int) (hlv : lv = ((l + 1 : Nat) : Int)) (hl : l < 4) (hc : ∀ z ∈ cs, CanP l z) (hs : ∀ z ∈ cs, Sz D z) (hn : cs.length ≤ n) (hN : nrmL cs < B32 ^ B) (hb : D ≤ 1000000000 ∧ B ≤ 1000000000 ∧ n ≤ 4294967296) (hcnt : 1 + n * ((D + 1) ^ l + 1) ≤ 1000000000) : Ctr Try.prog 91 [tSl encP cs, tIs (.int .i64 lv)] (tV encP (joinP lv cs)) := by
 refine Ctr.of Try.func91 rfl Try.ntmps91 (Nat.le_of_ble_eq_true rfl) fun w0 M0 => (JC.g ?_)
 refine J.alloc (R := cTs zP) zr28 (fun _ => ⟨rfl, rfl, rfl, rfl, slP_nil _ _, rfl, slP_nil _ _, rfl, trivial⟩) (ltN rfl) fun b4 => (J.e (JC.seq (JC.g (J.M rfl rfl ?_))))
 refine J.o (oc fn84 (valid_c lv ) (.cons (.t rfl) .nil)) rfl ?_
 refine J.o (ot_not (.t rfl)) rfl (J.e ?_)
 refine JC.cond_false (.eq (.t rfl) (by rw [decide_eq_true (show 1 ≤ lv by omega), decide_eq_true (show lv ≤ 4 by omega)]; rfl)) (JC.skip (JQ.then_normal (JC.g (J.M rfl rfl (J.M rfl rfl ?_)))))
 refine J.o (ot_eqt (T' := tV encP (Pol.mk lv (Z.mk false ([])) cs)) (ot_build (Ts := zP) pl28 (fun _ => ⟨rfl, rfl, rfl, rfl, slP_nil _ _, rfl, slP_nil _ _, rfl, trivial⟩) ((.one (off := 0) rfl (.t rfl) (one_is rfl rfl) (Ts' := [tIs (.int .i64 lv), tIs (.bool false), tSl encD ([]), tSl encP ([])]) rfl rfl (.one (off := 3) rfl (.t rfl) one_sl (Ts' := [tIs (.int .i64 lv), tIs (.bool false), tSl encD ([]), tSl encP cs]) rfl rfl .nil))) rfl) (tV_F' (polT_eq _))) rfl ?_
 refine J.o (ot_eqt (T' := tV encP (joinP lv cs)) (oc fn45 (rnormalG_c (Pol.mk lv (Z.mk false ([])) cs) (fit_node hs (by omega) (by omega) hN) (by rw [show Z.mk false [] = z0 from rfl, nrm_node]; exact hN) (by rw [hlv]; exact Nat.le_trans (cnt_node hc hs hn) hcnt) (by omega)) (.cons (.t rfl) .nil)) (by rw [hlv]; exact congrArg _ (norm_join hl hc))) rfl ?_
 refine J.store (.t rfl) (.eq (.t rfl) (tV_F (Ts := [tIs (.int .i64 ((joinP lv cs).lv)), tIs (.bool (((joinP lv cs).c).neg)), tSl encD (((joinP lv cs).c).abs), tSl encP ((joinP lv cs).cs)]) (polT_eq _))) .here sz28 (st_agg (Ts' := [tIs (.int .i64 ((joinP lv cs).lv)), tIs (.bool (((joinP lv cs).c).neg)), tSl encD (((joinP lv cs).c).abs), tSl encP ((joinP lv cs).cs)]) (o := 0) rfl) (J.e (JC.ret ?_))
 exact JQ.ret1 rfl (.agg (.t rfl) (.head _) ag28 (cTs_ldV (g := polT) (y := (joinP lv cs)) (polT_eq (joinP lv cs)).symm rfl))

end Go.Proofs.Ytcbnpddeiaccbaa
