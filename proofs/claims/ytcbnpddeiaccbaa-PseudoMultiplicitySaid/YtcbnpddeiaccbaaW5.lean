/- Walks through the program: each function called at values of the kinds that its contract names returns what the contract says. Conditions: those in the contracts. Written by the program wip/gen. -/
import Derived.Test.YtcbnpddeiaccbaaW4
set_option linter.unusedVariables false
set_option linter.unusedSimpArgs false
set_option maxRecDepth 100000
set_option maxHeartbeats 4000000
namespace Go.Proofs.Ytcbnpddeiaccbaa
open Go Go.RowKit Go.Rt
theorem few20_c (ts : List Tm) (n d m : Int) (hn : n ≤ 1000000) : Ctr Try.prog 70 [tSl X5 ts, tIs (.int .i64 n), tIs (.int .i64 d), tIs (.int .i64 m)] (tIs (.bool (fewS ts n d m))) := by
 refine Ctr.of Try.func70 rfl Try.ntmps70 (Nat.le_of_ble_eq_true rfl) fun w0 M0 => (JC.g ?_)
 refine J.a .is rfl (J.e (JC.seq (JC.g (J.M rfl rfl (J.o (Y8 (.t rfl) R3 rfl) rfl (J.M rfl rfl (J.o (ot_gtr (.t rfl) (.t rfl)) rfl (J.e ?_))))))))
 refine JC.cond (.t rfl) (fun hc0 => ?_) (fun hc0 => ?_)
 ·try simp only [bsx] at hc0
  have hs14 := hc0
  refine (JC.g ?_)
  refine J.a .is rfl (J.e (JC.ret (JQ.then_ret ?_)))
  exact JQ.ret1 rfl (.tmp (.eq (.t rfl) (by rw [fewS_long (by omega)])))
 ·try simp only [bsx] at hc0
  have hs14 := hc0
  refine JC.skip (JQ.then_normal (JC.seq (JC.g ?_)))
  refine J.a .is rfl (J.e (JC.block ?_))
  refine JC.loop (ι := Nat) (fun i => [(0, tSl X5 ts), (2, tIs (.int .i64 d)), (3, tIs (.int .i64 m)), (9, tIs (.int .i64 (i : Int)))]) (fun i => []) (fun i => i ≤ ts.length ∧ (ts.take i).all (fewT d m) = true) (fun i => ts.length - i) 0 ⟨by omega, by simp⟩ ?lsub0 ?round0
  case lsub0 => exact Q8 (X3 .nil) (Z3 ⟨.t rfl, .t rfl, .t rfl, .eq (.t rfl) (by first | rfl | (congr 3; omega) | (congr 2; omega)), trivial⟩)
  intro i hinv
  obtain ⟨hi, hall⟩ := hinv
  refine JC.seq (JC.g (J.M rfl rfl (J.M rfl rfl (J.o (Y8 (.t rfl) R3 rfl) rfl (J.o (Y6 (.t rfl) (.t rfl)) rfl (J.e ?_))))))
  refine JC.cond (.t rfl) (fun hc1 => ?_) (fun hc1 => ?_)
  ·try simp only [bsx] at hc1
   have hs18 := hc1
   refine JC.skip (JQ.then_normal (JC.seq (JC.block (JC.seq (JC.g (J.M rfl rfl (J.M rfl rfl ?_)))))))
   refine J.o (ixo (z := atT ts i) (.t rfl) (.t rfl) R3 (by omega) (atT_at rfl (by omega))) rfl (J.o (ofp (.t rfl) fd97_0 (fun _ _ h => h)) rfl (J.o (ofp (R' := cDrop (cEnc X5 (atT ts i)) 1) (.t rfl) fd25_1 (fun _ _ h => cDrop_mk h)) rfl (J.o (ld (.t rfl) sc23 (ldF rfl)) rfl (J.o (Y8 (.t rfl) V9 rfl) rfl (J.M rfl rfl (J.o (ot_gtr (.t rfl) (.t rfl)) rfl (J.e ?_)))))))
   refine JC.cond (.t rfl) (fun hc2 => ?_) (fun hc2 => ?_)
   ·try simp only [bsx] at hc2
    have hs29 := hc2
    refine (JC.g ?_)
    refine J.a .is rfl (J.e (JC.ret (JQ.then_ret (JQ.block_ret (JQ.then_ret (JQ.then_ret (JQ.block_ret (JQ.then_ret ?_))))))))
    exact JQ.ret1 rfl (.tmp (.eq (.t rfl) (by rw [fewS_no (atT_mem (i := i) (by omega)) (fewT_len (by omega))])))
   ·try simp only [bsx] at hc2
    have hs29 := hc2
    refine JC.skip (JQ.then_normal (JC.g ?_))
    refine J.a .is rfl (J.e (JC.block ?_))
    refine JC.loop (ι := Nat) (fun k => [(0, tSl X5 ts), (2, tIs (.int .i64 d)), (3, tIs (.int .i64 m)), (9, tIs (.int .i64 (i : Int))), (10, tIs (.int .i64 (k : Int))), (15, tIs (.int .i64 (i : Int))), (16, tSl X5 ts), (17, tIs (.int .i64 (((ts).length : Int)))), (18, tIs (.bool (decide ((i : Int) < ((ts).length : Int))))), (21, tSl X5 ts), (22, tIs (.int .i64 (i : Int))), (23, tPtr (cEnc X5 (atT ts i))), (24, tPtr (cEnc X5 (atT ts i))), (25, tPtr (cDrop (cEnc X5 (atT ts i)) 1)), (26, tSl X8 ((atT ts i).coef.abs)), (27, tIs (.int .i64 ((((atT ts i).coef.abs).length : Int)))), (28, tIs (.int .i64 d)), (29, tIs (.bool (decide (d < (((atT ts i).coef.abs).length : Int)))))]) (fun k => []) (fun k => k ≤ 4 ∧ ∀ q, q < k → (atT ts i).exp.at q ≤ m ∧ -1000 ≤ (atT ts i).exp.at q) (fun k => 4 - k) 0 ⟨by omega, fun q hq => by omega⟩ ?lsub1 ?round1
    case lsub1 => exact Q8 (X3 .nil) (Z3 ⟨.t rfl, .t rfl, .t rfl, .t rfl, .eq (.t rfl) (by first | rfl | (congr 3; omega) | (congr 2; omega)), .t rfl, .t rfl, .t rfl, .t rfl, .t rfl, .t rfl, .t rfl, .t rfl, .t rfl, .t rfl, .t rfl, .t rfl, .t rfl, trivial⟩)
    intro k hinv
    obtain ⟨hk, hks⟩ := hinv
    refine JC.seq (JC.g (J.M rfl rfl (J.o (Y6 (.t rfl) .is) rfl (J.e ?_))))
    refine JC.cond (.t rfl) (fun hc3 => ?_) (fun hc3 => ?_)
    ·try simp only [bsx] at hc3
     have hs31 := hc3
     refine JC.skip (JQ.then_normal (JC.seq (JC.block (JC.g (J.M rfl rfl (J.M rfl rfl (J.M rfl rfl ?_)))))))
     refine J.o (ixo (z := atT ts i) (.t rfl) (.t rfl) R3 (by omega) (atT_at rfl (by omega))) rfl (J.o (ofp (R' := cDrop (cEnc X5 (atT ts i)) 2) (.t rfl) fd97_1 (fun _ _ h => cDrop_mk h)) rfl ?_)
     refine J.o (ot_indexAddrP (T := tIs (.int .i64 ((atT ts i).exp.at k))) (.t rfl) (.t rfl) ar4_95 (by omega) (by omega) (tm_at (i := k) (by omega) (by omega))) rfl (J.o (ld (.t rfl) sc3 cOne_ld) rfl (J.M rfl rfl (J.o (ot_gtr (.t rfl) (.t rfl)) rfl (J.M rfl rfl ?_))))
     refine J.opg rfl rfl rfl (ltN rfl) (fun hg => Y0 (.t rfl)) rfl (ltN rfl) ?_
     refine J.opg rfl rfl rfl (ltN rfl) (fun hg => Y0 (.t rfl)) rfl (ltN rfl) ?_
     refine J.opg rfl rfl rfl (ltN rfl) (fun hg => Y0 (.t rfl)) rfl (ltN rfl) ?_
     refine J.opg rfl rfl rfl (ltN rfl) (fun hg => (by have hg' := hg; (try simp only [bsx] at hg'); exact ixo (z := atT ts i) (.iff hg (.t rfl)) (.iff hg (.t rfl)) R3 (by omega) (atT_at rfl (by omega)))) rfl (ltN rfl) ?_
     refine J.opg rfl rfl rfl (ltN rfl) (fun hg => ofp (R' := cDrop (cEnc X5 (atT ts i)) 2) (.iff hg (.t rfl)) fd97_1 (fun _ _ h => cDrop_mk h)) rfl (ltN rfl) ?_
     refine J.opg rfl rfl rfl (ltN rfl) (fun hg => (by have hg' := hg; (try simp only [bsx] at hg'); exact ot_indexAddrP (T := tIs (.int .i64 ((atT ts i).exp.at k))) (.iff hg (.t rfl)) (.iff hg (.t rfl)) ar4_95 (by omega) (by omega) (tm_at (i := k) (by omega) (by omega)))) rfl (ltN rfl) ?_
     refine J.opg rfl rfl rfl (ltN rfl) (fun hg => ld (.iff hg (.t rfl)) sc3 cOne_ld) rfl (ltN rfl) ?_
     refine J.opg rfl rfl rfl (ltN rfl) (fun hg => Y6 (.iff hg (.t rfl)) .is) rfl (ltN rfl) ?_
     refine J.o (ot_or2 (.t rfl) .is (.t rfl)) rfl (J.e ?_)
     refine JC.cond (.t rfl) (fun hc4 => ?_) (fun hc4 => ?_)
     ·try simp only [bsx] at hc4
      have hs52 := hc4
      refine (JC.g ?_)
      refine J.a .is rfl (J.e (JC.ret (JQ.block_ret (JQ.then_ret (JQ.then_ret (JQ.block_ret (JQ.block_ret (JQ.then_ret (JQ.then_ret (JQ.block_ret (JQ.then_ret ?_)))))))))))
      exact JQ.ret1 rfl (.tmp (.eq (.t rfl) (by rw [fewS_no (atT_mem (i := i) (by omega)) (fewT_exp (k := k) (by omega) (by omega))])))
     ·try simp only [bsx] at hc4
      have hs52 := hc4
      refine JC.skip (JQ.block_normal (JQ.then_normal (JC.region (J.M rfl rfl ?_))))
      refine J.o (Z6 (.t rfl) .is (w64 (by omega) (by omega))) rfl (J.A rfl rfl (J.nil ?_))
      exact JQ.round (k + 1) ⟨by omega, fun q hq => by rcases Nat.lt_or_ge q k with h | h; exact hks q h; rw [show q = k by omega]; omega⟩ (by omega) (Q8 (X3 .nil) (Z3 ⟨.t rfl, .t rfl, .t rfl, .t rfl, .eq (.t rfl) (by first | rfl | (congr 3; omega) | (congr 2; omega)), .t rfl, .t rfl, .t rfl, .t rfl, .t rfl, .t rfl, .t rfl, .t rfl, .t rfl, .t rfl, .t rfl, .t rfl, .t rfl, trivial⟩))
    ·try simp only [bsx] at hc3
     have hs31 := hc3
     refine JC.exit (JQ.then_exit (JQ.then_exit (JQ.block_exit (JQ.block_normal (JQ.then_normal (JC.region (J.M rfl rfl ?_)))))))
     refine J.o (Z6 (.t rfl) .is (w64 (by omega) (by omega))) rfl (J.A rfl rfl (J.nil ?_))
     exact JQ.round (i + 1) ⟨by omega, allT_take (by omega) hall (fewT_yes (by omega) (fun q hq => hks q (by omega)))⟩ (by omega) (Q8 (X3 .nil) (Z3 ⟨.t rfl, .t rfl, .t rfl, .eq (.t rfl) (by first | rfl | (congr 3; omega) | (congr 2; omega)), trivial⟩))
  ·try simp only [bsx] at hc1
   have hs18 := hc1
   refine JC.exit (JQ.then_exit (JQ.then_exit (JQ.block_exit (JQ.then_normal (JC.g ?_)))))
   refine J.a .is rfl (J.e (JC.ret ?_))
   exact JQ.ret1 rfl (.tmp (.eq (.t rfl) (by unfold fewS; rw [decide_eq_true (by omega)]; rw [show i = ts.length by omega, List.take_length] at hall; rw [hall]; rfl)))

theorem few24_c (ts : List Tm) (n m : Int) (hn : n ≤ 1000000) : Ctr Try.prog 26 [tSl X5 ts, tIs (.int .i64 n), tIs (.int .i64 m)] (tIs (.bool (fewS ts n 4 m))) := by
 refine Ctr.of Try.func26 rfl Try.ntmps26 (Nat.le_of_ble_eq_true rfl) fun w0 M0 => (JC.g ?_)
 refine J.a .is rfl (J.e (JC.g (J.M rfl rfl (J.M rfl rfl (J.M rfl rfl ?_)))))
 refine J.o (oc fn70 (few20_c ts n 4 m (by omega)) (.cons (.t rfl) (.cons (.t rfl) (.cons .is (.cons (.t rfl) .nil))))) rfl (J.A rfl rfl (J.e (JC.ret ?_)))
 exact JQ.ret1 rfl (.tmp (.t rfl))

theorem refCan_c {k B : Nat} (p : Pol) (b : Int) (cp : CanP k p) (hb : (k : Int) < b) (hf : Fit B p) (hB : B ≤ 1000000000000) : Ctr Try.prog 78 [tV Q5 p, tIs (.int .i64 b)] (tIs (.bool true)) := by
 induction p using Pol.ind generalizing b k
 rename_i p ih
 have hc := hf.c
 have hcs := hf.cs
 have hlv := cp.lev.lv
 obtain ⟨c1, c2⟩ := canC cp
 refine Ctr.of Try.func78 rfl Try.ntmps78 (Nat.le_of_ble_eq_true rfl) fun w0 M0 => (JC.g ?_)
 refine J.boxF (Ts := (pT p)) (.t rfl) (Q0 _) (ltN rfl) fun b2 => ?_
 refine J.a .is rfl (J.e (JC.g (J.o (ofa (.t rfl) fd28_1) rfl (J.o (ofa (.t rfl) fd25_1) rfl (J.o (ol (.t rfl) (.head _) sc23 (Z8 rfl)) rfl (J.o (Y8 (.t rfl) V9 rfl) rfl (J.A rfl rfl (J.e (JC.seq (JC.g (J.M rfl rfl (J.o (ot_gtr (.t rfl) .is) rfl (J.M rfl rfl ?_)))))))))))))
 refine J.opg rfl rfl rfl (ltN rfl) (fun hg => ofa (.t rfl) fd28_1) rfl (ltN rfl) ?_
 refine J.opg rfl rfl rfl (ltN rfl) (fun hg => ofa (.iff hg (.t rfl)) fd25_1) rfl (ltN rfl) ?_
 refine J.opg rfl rfl rfl (ltN rfl) (fun hg => ol (.iff hg (.t rfl)) (.head _) sc23 (Z8 rfl)) rfl (ltN rfl) ?_
 refine J.opg rfl rfl rfl (ltN rfl) (fun hg => Y0 (.t rfl)) rfl (ltN rfl) ?_
 refine J.opg rfl rfl rfl (ltN rfl) (fun hg => (by have hg' := hg; (try simp only [bsx] at hg'); exact K4 (.iff hg (.t rfl)) .is (w64 (by omega) (by omega)))) rfl (ltN rfl) ?_
 refine J.opg rfl rfl rfl (ltN rfl) (fun hg => (by have hg' := hg; (try simp only [bsx] at hg'); exact ixo (z := p.c.abs.getD (p.c.abs.length - 1) 0) (.iff hg (.t rfl)) (.iff hg (.t rfl)) V9 (by omega) (digAt (by omega) (by omega)))) rfl (ltN rfl) ?_
 refine J.opg rfl rfl rfl (ltN rfl) (fun hg => ld (.iff hg (.t rfl)) sc128 encD_ld) rfl (ltN rfl) ?_
 refine J.opg rfl rfl rfl (ltN rfl) (fun hg => U5 (.iff hg (.t rfl)) .is) rfl (ltN rfl) ?_
 refine J.o (R4 (.t rfl) (.t rfl) .is) rfl (J.M rfl rfl ?_)
 refine J.opg rfl rfl rfl (ltN rfl) (fun hg => Y0 (.t rfl)) rfl (ltN rfl) ?_
 refine J.opg rfl rfl rfl (ltN rfl) (fun hg => U5 (.iff hg (.t rfl)) .is) rfl (ltN rfl) ?_
 refine J.opg rfl rfl rfl (ltN rfl) (fun hg => Y0 (.iff hg (.t rfl))) rfl (ltN rfl) ?_
 refine J.opgg rfl rfl rfl (ltN rfl) (fun hg => ofa (.t rfl) fd28_1) rfl (ltN rfl) ?_
 refine J.opgg rfl rfl rfl (ltN rfl) (fun hg => ofa (.iff hg (.t rfl)) fd25_0) rfl (ltN rfl) ?_
 refine J.opgg rfl rfl rfl (ltN rfl) (fun hg => ol (.iff hg (.t rfl)) (.head _) sc4 (Z8 rfl)) rfl (ltN rfl) ?_
 refine J.opg rfl rfl rfl (ltN rfl) (fun hg => R4 (.iff hg (.t rfl)) (.iffr hg (.t rfl)) .is) rfl (ltN rfl) ?_
 refine J.o (ot_or2 (.t rfl) .is (.t rfl)) rfl (J.e ?_)
 refine JC.cond_false (.eq (.t rfl) (by by_cases q : 0 < p.c.abs.length; (rw [decide_eq_true (show (0 : Int) < (p.c.abs.length : Int) by omega), decide_eq_false (show ¬ ((p.c.abs.getD (p.c.abs.length - 1) 0 : Nat) : Int) = 0 by have := c1 q; omega), decide_eq_false (show ¬ (p.c.abs.length : Int) = 0 by omega)]; rfl); (rw [c2 (by omega), decide_eq_false (show ¬ (0 : Int) < (p.c.abs.length : Int) by omega)]; simp))) (JC.skip (JQ.then_normal (JC.seq (JC.g (J.o (ofa (.t rfl) T1) rfl (J.o (ol (.t rfl) (.head _) sc3 (Z8 rfl)) rfl (J.o (U5 (.t rfl) .is) rfl (J.e ?_))))))))
 refine JC.cond (.t rfl) (fun hc1 => ?_) (fun hc1 => ?_)
 ·try simp only [bsx] at hc1
  have hs35 := hc1
  refine (JC.g (J.o (ofa (.t rfl) fd28_2) rfl (J.o (ol (.t rfl) (.head _) sc26 (Z8 rfl)) rfl (J.o (Y8 (.t rfl) W5 rfl) rfl (J.o (U5 (.t rfl) .is) rfl (J.A rfl rfl (J.e (JC.ret (JQ.then_ret ?_)))))))))
  exact JQ.ret1 rfl (.tmp (.eq (.t rfl) (by rw [canC_cs cp hs35]; rfl)))
 ·try simp only [bsx] at hc1
  have hs35 := hc1
  obtain ⟨l, hl⟩ : ∃ l : Nat, p.lv = ((l + 1 : Nat) : Int) := ⟨p.lv.toNat - 1, by omega⟩
  have hk := cp.sub_can hl
  obtain ⟨e2, e3, _, _⟩ := cp.ends hs35
  have hc0 := canC_node cp hs35
  refine JC.skip (JQ.then_normal (JC.seq (JC.g (J.o (ofa (.t rfl) T1) rfl (J.o (ol (.t rfl) (.head _) sc3 (Z8 rfl)) rfl (J.o (Y6 (.t rfl) .is) rfl (J.M rfl rfl ?_)))))))
  refine J.opg rfl rfl rfl (ltN rfl) (fun hg => ofa (.t rfl) T1) rfl (ltN rfl) ?_
  refine J.opg rfl rfl rfl (ltN rfl) (fun hg => ol (.iff hg (.t rfl)) (.head _) sc3 (Z8 rfl)) rfl (ltN rfl) ?_
  refine J.opg rfl rfl rfl (ltN rfl) (fun hg => Y0 (.t rfl)) rfl (ltN rfl) ?_
  refine J.opg rfl rfl rfl (ltN rfl) (fun hg => ot_geq (.iff hg (.t rfl)) (.iff hg (.t rfl))) rfl (ltN rfl) ?_
  refine J.o (ot_or2 (.t rfl) .is (.t rfl)) rfl (J.M rfl rfl ?_)
  refine J.opg rfl rfl rfl (ltN rfl) (fun hg => Y0 (.t rfl)) rfl (ltN rfl) ?_
  refine J.opg rfl rfl rfl (ltN rfl) (fun hg => ot_gtr (.iff hg (.t rfl)) .is) rfl (ltN rfl) ?_
  refine J.o (ot_or2 (.t rfl) .is (.t rfl)) rfl (J.M rfl rfl ?_)
  refine J.opg rfl rfl rfl (ltN rfl) (fun hg => ofa (.t rfl) fd28_2) rfl (ltN rfl) ?_
  refine J.opg rfl rfl rfl (ltN rfl) (fun hg => ol (.iff hg (.t rfl)) (.head _) sc26 (Z8 rfl)) rfl (ltN rfl) ?_
  refine J.opg rfl rfl rfl (ltN rfl) (fun hg => Y8 (.iff hg (.t rfl)) W5 rfl) rfl (ltN rfl) ?_
  refine J.opg rfl rfl rfl (ltN rfl) (fun hg => Y6 (.iff hg (.t rfl)) .is) rfl (ltN rfl) ?_
  refine J.o (ot_or2 (.t rfl) .is (.t rfl)) rfl (J.e ?_)
  refine JC.cond_false (.eq (.t rfl) (by rw [hc0, decide_eq_false (show ¬ p.lv < 0 by omega), decide_eq_false (show ¬ b ≤ p.lv by omega), decide_eq_false (show ¬ (p.cs.length : Int) < 2 by omega)]; rfl)) (JC.skip (JQ.then_normal (JC.seq (JC.g ?_))))
  refine J.a .is rfl (J.e (JC.block ?_))
  refine JC.loop (ι := Nat) (fun i => [(2, X7 b2 0), (6, tIs (.int .i64 (i : Int)))]) (fun i => [⟨b2, 28, cTs (pT p)⟩]) (fun i => i ≤ p.cs.length) (fun i => p.cs.length - i) 0 (by omega) ?lsub0 ?round0
  case lsub0 => exact Q8 (X3 (.k .nil)) (Z3 ⟨.t rfl, .eq (.t rfl) (by first | rfl | (congr 3; omega) | (congr 2; omega)), trivial⟩)
  intro i hinv
  refine JC.seq (JC.g (J.M rfl rfl (J.o (ofa (.t rfl) fd28_2) rfl (J.o (ol (.t rfl) (.head _) sc26 (Z8 rfl)) rfl (J.o (Y8 (.t rfl) W5 rfl) rfl (J.o (Y6 (.t rfl) (.t rfl)) rfl (J.e ?_)))))))
  refine JC.cond (.t rfl) (fun hc3 => ?_) (fun hc3 => ?_)
  ·try simp only [bsx] at hc3
   have hs63 := hc3
   refine JC.skip (JQ.then_normal (JC.seq (JC.block (JC.seq ?_))))
   refine JC.draw (Γ' := ?g1) mo (by kernel_rfl) ?tw1 ?k1
   case tw1 =>
    refine TW.o (ofa (.t rfl) fd28_2) rfl (TW.o (ol (.t rfl) (.head _) sc26 (Z8 rfl)) rfl (TW.M rfl rfl ?_))
    refine TW.o (ixo (z := atP p.cs i) (.t rfl) (.t rfl) W5 (by omega) (atP_at (by omega) (by omega))) rfl (TW.o (lda (.t rfl) Z9 V0) rfl (TW.o (ofa (.t rfl) T1) rfl (TW.o (ol (.t rfl) (.head _) sc3 (Z8 rfl)) rfl ?_)))
    refine TW.o (oc fn78 (ih (atP p.cs i) (Y3 (by omega)) p.lv (hk _ (Y3 (by omega))) (by omega) (hf.at (by omega))) (.cons (.t rfl) (.cons (.t rfl) .nil))) rfl (TW.o (ot_not (.t rfl)) rfl ?_)
    exact TW.nil
   refine JQ.then_normal ?_
   refine JC.cond_false (.eq (.t rfl) (by rfl)) (JC.skip (JQ.block_normal (JQ.then_normal (JC.region (J.M rfl rfl ?_)))))
   refine J.o (Z6 (.t rfl) .is (w64 (by omega) (by omega))) rfl (J.A rfl rfl (J.nil ?_))
   exact JQ.round (i + 1) (by omega) (by omega) (Q8 (X3 (.k .nil)) (Z3 ⟨.t rfl, .eq (.t rfl) (by first | rfl | (congr 3; omega) | (congr 2; omega)), trivial⟩))
  ·try simp only [bsx] at hc3
   have hs63 := hc3
   refine JC.exit (JQ.then_exit (JQ.then_exit (JQ.block_exit (JQ.then_normal (JC.g (J.o (ofa (.t rfl) fd28_2) rfl (J.o (ol (.t rfl) (.head _) sc26 (Z8 rfl)) rfl (J.o (ofa (.t rfl) fd28_2) rfl (J.o (ol (.t rfl) (.head _) sc26 (Z8 rfl)) rfl (J.o (Y8 (.t rfl) W5 rfl) rfl ?_))))))))))
   refine J.o (K4 (.t rfl) .is (w64 (by omega) (by omega))) rfl ?_
   refine J.o (ixo (z := atP p.cs (p.cs.length - 1)) (.t rfl) (.t rfl) W5 (by omega) (atP_at (by omega) (by omega))) rfl (J.o (lda (.t rfl) Z9 V0) rfl ?_)
   refine J.alloc (R := cTs zP) W9 (fun _ => ⟨rfl, rfl, rfl, rfl, Q9 _ _, rfl, Q9 _ _, rfl, trivial⟩) (ltN rfl) fun b7 => ?_
   refine J.store (.t rfl) (.eq (.t rfl) (K2 (Ts := (pT (atP p.cs (p.cs.length - 1)))) (Q0 _))) .here U4 (Z4 (Ts' := (pT (atP p.cs (p.cs.length - 1)))) (o := 0) rfl) (J.e (JC.g (J.o (ofa (.t rfl) T1) rfl (J.o (ol (.t rfl) (.head _) sc3 (Z8 rfl)) rfl (J.o (ot_gtr (.t rfl) .is) rfl (J.M rfl rfl ?_))))))
   refine J.opg rfl rfl rfl (ltN rfl) (fun hg => ofa (.t rfl) fd28_1) rfl (ltN rfl) ?_
   refine J.opg rfl rfl rfl (ltN rfl) (fun hg => ofa (.iff hg (.t rfl)) fd25_1) rfl (ltN rfl) ?_
   refine J.opg rfl rfl rfl (ltN rfl) (fun hg => ol (.iff hg (.t rfl)) (.head _) sc23 (Z8 rfl)) rfl (ltN rfl) ?_
   refine J.opg rfl rfl rfl (ltN rfl) (fun hg => Y8 (.iff hg (.t rfl)) V9 rfl) rfl (ltN rfl) ?_
   refine J.opg rfl rfl rfl (ltN rfl) (fun hg => ot_gtr (.iff hg (.t rfl)) .is) rfl (ltN rfl) ?_
   refine J.o (ot_or2 (.t rfl) .is (.t rfl)) rfl (J.A rfl rfl (J.e (JC.ret ?_)))
   exact JQ.ret1 rfl (.tmp (.eq (.t rfl) (by rcases canC_last (hk _ (Y3 (by omega))) e3 with h | h; (rw [decide_eq_true h]; rfl); (rw [show decide ((0 : Int) < ((atP p.cs (p.cs.length - 1)).c.abs.length : Int)) = true from decide_eq_true (by omega)]; simp))))

theorem canon24_c {D B : Nat} (p : Pol) (hp : Pg D B p) (hb : D ≤ 4294967296 ∧ B ≤ 90000000000) : Ctr Try.prog 32 [tV Q5 p] (tIs (.bool true)) := by
 refine Ctr.of Try.func32 rfl Try.ntmps32 (Nat.le_of_ble_eq_true rfl) fun w0 M0 => (JC.g ?_)
 refine J.boxF (Ts := (pT p)) (.t rfl) (Q0 _) (ltN rfl) fun b1 => ?_
 refine J.a .is rfl (J.e (JC.g (J.o (oa (.t rfl) (.head _) Z9 (Q6 (g := Y4) (y := p) (Q0 p).symm rfl)) rfl ?_)))
 refine J.o (oc fn78 (refCan_c p 5 hp.can (by decide) (hp.fit hb.1) (by omega)) (.cons (.t rfl) (.cons .is .nil))) rfl (J.A rfl rfl (J.e (JC.ret ?_)))
 exact JQ.ret1 rfl (.tmp (.t rfl))

theorem pow_c {D B : Nat} (p : Pol) (n : Int) (N : Nat) (hp : Pg D B p) (hn : n = (N : Int)) (hN : N < 64) (hD : 1 ≤ D) (hb : 2 + 2 * (D * N) ≤ 4294967296 ∧ 2 + 2 * (B * N) ≤ 40000000000 ∧ D ≤ 4294967296 ∧ B ≤ 40000000000) : Ctr Try.prog 69 [tV Q5 p, tIs (.int .i64 n)] (tV Q5 (K1 p N)) := by
 have hpw := fun a (h : a ≤ N) => powP_pg hp hD a
 have hsz := fun a (h : a ≤ N) => (show D * a ≤ D * N ∧ B * a ≤ B * N from ⟨Nat.mul_le_mul_left _ h, Nat.mul_le_mul_left _ h⟩)
 refine Ctr.of Try.func69 rfl Try.ntmps69 (Nat.le_of_ble_eq_true rfl) fun w0 M0 => (JC.g ?_)
 refine J.boxF (Ts := (pT p)) (.t rfl) (Q0 _) (ltN rfl) fun b2 => ?_
 refine J.alloc (R := cTs zP) W9 (fun _ => ⟨rfl, rfl, rfl, rfl, Q9 _ _, rfl, Q9 _ _, rfl, trivial⟩) (ltN rfl) fun b4 => (J.e (JC.g ?_))
 refine J.o (oc fn37 (intOf_c 1 (by omega)) (.cons .is .nil)) rfl ?_
 refine J.o (X9 (T' := tV Q5 (K1 p 0)) (oc fn36 (constK_c (ofI 1) (by rw [ofI1_len]; omega)) (.cons (.t rfl) .nil)) (by rw [Y9]; rfl)) rfl ?_
 refine J.alloc (R := cTs zP) W9 (fun _ => ⟨rfl, rfl, rfl, rfl, Q9 _ _, rfl, Q9 _ _, rfl, trivial⟩) (ltN rfl) fun b5 => ?_
 refine J.store (.t rfl) (.eq (.t rfl) (K2 (Ts := (pT (K1 p 0))) (Q0 _))) .here U4 (Z4 (Ts' := (pT (K1 p 0))) (o := 0) rfl) (J.e (JC.seq (JC.g (J.o (oa (.t rfl) (.tail _ (.tail _ (.head _))) Z9 (Q6 (g := Y4) (y := p) (Q0 p).symm rfl)) rfl ?_))))
 refine J.o (oc fn45 (normK_c p hp ⟨by omega, by omega⟩) (.cons (.t rfl) .nil)) rfl ?_
 refine J.alloc (R := cTs zP) W9 (fun _ => ⟨rfl, rfl, rfl, rfl, Q9 _ _, rfl, Q9 _ _, rfl, trivial⟩) (ltN rfl) fun b6 => ?_
 refine J.store (.t rfl) (.eq (.t rfl) (K2 (Ts := (pT p)) (Q0 _))) .here U4 (Z4 (Ts' := (pT p)) (o := 0) rfl) (J.e (JC.block ?_))
 refine JC.loop4 (α := Nat) (β := Nat) (γ := Nat) (δ := Nat) (fun a b m c => [(1, tIs (.int .i64 (m : Int))), (4, X7 b4 0), (5, X7 b5 0), (6, X7 c 0)]) (fun a b m c => [⟨c, 28, cTs (pT (K1 p b))⟩, ⟨b5, 28, cTs (pT (K1 p a))⟩, ⟨b4, 28, cTs zP⟩, ⟨b2, 28, cTs (pT p)⟩]) (fun a b m c => a + b * m = N ∧ 1 ≤ b) (fun a b m c => m) 0 1 N b6 ⟨by omega, by omega⟩ ?lsub0 ?round0
 case lsub0 => exact Q8 (X3 (.keep (by rw [powP_one hp.can]; exact fun _ _ h => h) (.k (.k (.k .nil))))) (Z3 ⟨.eq (.t rfl) (by rw [hn]), .t rfl, .t rfl, .t rfl, trivial⟩)
 intro a b m c hinv
 obtain ⟨hab, hb1⟩ := hinv
 refine JC.seq (JC.g (J.M rfl rfl (J.o (ot_gtr (.t rfl) .is) rfl (J.e ?_))))
 refine JC.cond (.t rfl) (fun hc0 => ?_) (fun hc0 => ?_)
 ·try simp only [bsx] at hc0
  have hs12 := hc0
  have hm1 : 1 ≤ m := by omega
  have hbm : b * 1 ≤ b * m := Nat.mul_le_mul_left _ hm1
  have hmb : 1 * m ≤ b * m := Nat.mul_le_mul_right _ hb1
  have hpa := hpw a (by omega)
  have hpb := hpw b (by omega)
  have hsa := hsz a (by omega)
  have hsb := hsz b (by omega)
  have hand := and1 m (by omega)
  have hshr := shr1 m (by omega)
  refine JC.skip (JQ.then_normal (JC.seq (JC.block (JC.seq (JC.g (J.M rfl rfl ?_))))))
  refine J.o (ot_and (.t rfl) .is hand) rfl (J.o (U5 (.t rfl) .is) rfl (J.e ?_))
  refine JC.cond (.t rfl) (fun hc1 => ?_) (fun hc1 => ?_)
  ·try simp only [bsx] at hc1
   have hs17 := hc1
   refine JC.region (J.o (oa (.t rfl) (.tail _ (.head _)) Z9 (Q6 (g := Y4) (y := (K1 p a)) (Q0 (K1 p a)).symm rfl)) rfl (J.o (oa (.t rfl) (.head _) Z9 (Q6 (g := Y4) (y := (K1 p b)) (Q0 (K1 p b)).symm rfl)) rfl ?_))
   refine J.o (oc fn75 (rmul_c 4 (K1 p a) (K1 p b) hpa.can.lev hpb.can.lev hpa.sz hpb.sz (Nat.le_refl _) ⟨by omega, by omega, by omega⟩ hpa.nr hpb.nr (by omega)) (.cons (.t rfl) (.cons (.t rfl) .nil))) rfl ?_
   refine J.store (.t rfl) (.eq (.t rfl) (K2 (Ts := (pT (K3 4 (K1 p a) (K1 p b)))) (Q0 _))) (.there .here) U4 (Z4 (Ts' := (pT (K3 4 (K1 p a) (K1 p b)))) (o := 0) rfl) (J.e (JC.g (J.M rfl rfl (J.o (ot_gtr (.t rfl) .is) rfl (J.e ?_)))))
   refine JC.cond (.t rfl) (fun hc2 => ?_) (fun hc2 => ?_)
   ·try simp only [bsx] at hc2
    have hs22 := hc2
    refine JC.region (J.o (oa (.t rfl) (.head _) Z9 (Q6 (g := Y4) (y := (K1 p b)) (Q0 (K1 p b)).symm rfl)) rfl (J.o (oa (.t rfl) (.head _) Z9 (Q6 (g := Y4) (y := (K1 p b)) (Q0 (K1 p b)).symm rfl)) rfl ?_))
    refine J.o (oc fn75 (rmul_c 4 (K1 p b) (K1 p b) hpb.can.lev hpb.can.lev hpb.sz hpb.sz (Nat.le_refl _) ⟨by omega, by omega, by omega⟩ hpb.nr hpb.nr (by omega)) (.cons (.t rfl) (.cons (.t rfl) .nil))) rfl ?_
    refine J.store (.t rfl) (.eq (.t rfl) (K2 (Ts := (pT (K3 4 (K1 p b) (K1 p b)))) (Q0 _))) .here U4 (Z4 (Ts' := (pT (K3 4 (K1 p b) (K1 p b)))) (o := 0) rfl) (J.nil (JQ.block_normal (JQ.then_normal (JC.seq (JC.g (J.o (oa (.t rfl) (.head _) Z9 (Q6 (g := Y4) (y := (K3 4 (K1 p b) (K1 p b))) (Q0 (K3 4 (K1 p b) (K1 p b))).symm rfl)) rfl (J.e (JC.region ?_))))))))
    refine J.alloc (R := cTs zP) W9 (fun _ => ⟨rfl, rfl, rfl, rfl, Q9 _ _, rfl, Q9 _ _, rfl, trivial⟩) (ltN rfl) fun b6 => ?_
    refine J.store (.t rfl) (.eq (.t rfl) (K2 (Ts := (pT (K3 4 (K1 p b) (K1 p b)))) (Q0 _))) .here U4 (Z4 (Ts' := (pT (K3 4 (K1 p b) (K1 p b)))) (o := 0) rfl) (J.e (JC.region (J.M rfl rfl ?_)))
    refine J.o (ot_shr (.t rfl) .is (by omega) hshr) rfl (J.A rfl rfl (J.nil ?_))
    exact JQ.round4 (i := a) (i2 := b) (i3 := m) (i4 := c) (a + b) (b + b) (m / 2) b6 ⟨pow_odd hab (by omega), by omega⟩ (by omega) (Q8 (X3 (.keep (by rw [← powP_add hp.can]; exact fun _ _ h => h) (.drop (.keep (by rw [← powP_add hp.can]; exact fun _ _ h => h) (.k (.k .nil)))))) (Z3 ⟨.eq (.t rfl) (by first | rfl | (congr 3; omega) | (congr 2; omega)), .t rfl, .t rfl, .t rfl, trivial⟩))
   ·try simp only [bsx] at hc2
    have hs22 := hc2
    refine JC.skip (JQ.block_normal (JQ.then_normal (JC.seq (JC.g (J.o (oa (.t rfl) (.head _) Z9 (Q6 (g := Y4) (y := (K1 p b)) (Q0 (K1 p b)).symm rfl)) rfl (J.e (JC.region ?_)))))))
    refine J.alloc (R := cTs zP) W9 (fun _ => ⟨rfl, rfl, rfl, rfl, Q9 _ _, rfl, Q9 _ _, rfl, trivial⟩) (ltN rfl) fun b6 => ?_
    refine J.store (.t rfl) (.eq (.t rfl) (K2 (Ts := (pT (K1 p b))) (Q0 _))) .here U4 (Z4 (Ts' := (pT (K1 p b))) (o := 0) rfl) (J.e (JC.region (J.M rfl rfl ?_)))
    refine J.o (ot_shr (.t rfl) .is (by omega) hshr) rfl (J.A rfl rfl (J.nil ?_))
    exact JQ.round4 (i := a) (i2 := b) (i3 := m) (i4 := c) (a + b) b (m / 2) b6 ⟨pow_last hab (by omega), by omega⟩ (by omega) (Q8 (X3 (.k (.drop (.keep (by rw [← powP_add hp.can]; exact fun _ _ h => h) (.k (.k .nil)))))) (Z3 ⟨.eq (.t rfl) (by first | rfl | (congr 3; omega) | (congr 2; omega)), .t rfl, .t rfl, .t rfl, trivial⟩))
  ·try simp only [bsx] at hc1
   have hs17 := hc1
   refine JC.skip (JQ.then_normal (JC.g (J.M rfl rfl (J.o (ot_gtr (.t rfl) .is) rfl (J.e ?_)))))
   refine JC.cond (.t rfl) (fun hc3 => ?_) (fun hc3 => ?_)
   ·try simp only [bsx] at hc3
    have hs22 := hc3
    refine JC.region (J.o (oa (.t rfl) (.head _) Z9 (Q6 (g := Y4) (y := (K1 p b)) (Q0 (K1 p b)).symm rfl)) rfl (J.o (oa (.t rfl) (.head _) Z9 (Q6 (g := Y4) (y := (K1 p b)) (Q0 (K1 p b)).symm rfl)) rfl ?_))
    refine J.o (oc fn75 (rmul_c 4 (K1 p b) (K1 p b) hpb.can.lev hpb.can.lev hpb.sz hpb.sz (Nat.le_refl _) ⟨by omega, by omega, by omega⟩ hpb.nr hpb.nr (by omega)) (.cons (.t rfl) (.cons (.t rfl) .nil))) rfl ?_
    refine J.store (.t rfl) (.eq (.t rfl) (K2 (Ts := (pT (K3 4 (K1 p b) (K1 p b)))) (Q0 _))) .here U4 (Z4 (Ts' := (pT (K3 4 (K1 p b) (K1 p b)))) (o := 0) rfl) (J.nil (JQ.block_normal (JQ.then_normal (JC.seq (JC.g (J.o (oa (.t rfl) (.head _) Z9 (Q6 (g := Y4) (y := (K3 4 (K1 p b) (K1 p b))) (Q0 (K3 4 (K1 p b) (K1 p b))).symm rfl)) rfl (J.e (JC.region ?_))))))))
    refine J.alloc (R := cTs zP) W9 (fun _ => ⟨rfl, rfl, rfl, rfl, Q9 _ _, rfl, Q9 _ _, rfl, trivial⟩) (ltN rfl) fun b6 => ?_
    refine J.store (.t rfl) (.eq (.t rfl) (K2 (Ts := (pT (K3 4 (K1 p b) (K1 p b)))) (Q0 _))) .here U4 (Z4 (Ts' := (pT (K3 4 (K1 p b) (K1 p b)))) (o := 0) rfl) (J.e (JC.region (J.M rfl rfl ?_)))
    refine J.o (ot_shr (.t rfl) .is (by omega) hshr) rfl (J.A rfl rfl (J.nil ?_))
    exact JQ.round4 (i := a) (i2 := b) (i3 := m) (i4 := c) a (b + b) (m / 2) b6 ⟨pow_even hab (by omega), by omega⟩ (by omega) (Q8 (X3 (.keep (by rw [← powP_add hp.can]; exact fun _ _ h => h) (.drop (.k (.k (.k .nil)))))) (Z3 ⟨.eq (.t rfl) (by first | rfl | (congr 3; omega) | (congr 2; omega)), .t rfl, .t rfl, .t rfl, trivial⟩))
   ·try simp only [bsx] at hc3
    have hs22 := hc3
    refine JC.skip (JQ.block_normal (JQ.then_normal (JC.seq (JC.g (J.o (oa (.t rfl) (.head _) Z9 (Q6 (g := Y4) (y := (K1 p b)) (Q0 (K1 p b)).symm rfl)) rfl (J.e (JC.region ?_)))))))
    refine J.alloc (R := cTs zP) W9 (fun _ => ⟨rfl, rfl, rfl, rfl, Q9 _ _, rfl, Q9 _ _, rfl, trivial⟩) (ltN rfl) fun b6 => ?_
    refine J.store (.t rfl) (.eq (.t rfl) (K2 (Ts := (pT (K1 p b))) (Q0 _))) .here U4 (Z4 (Ts' := (pT (K1 p b))) (o := 0) rfl) (J.e (JC.region (J.M rfl rfl ?_)))
    refine J.o (ot_shr (.t rfl) .is (by omega) hshr) rfl (J.A rfl rfl (J.nil ?_))
    exact JQ.round4 (i := a) (i2 := b) (i3 := m) (i4 := c) a b (m / 2) b6 ⟨by omega, by omega⟩ (by omega) (Q8 (X3 (.k (.drop (.k (.k (.k .nil)))))) (Z3 ⟨.eq (.t rfl) (by first | rfl | (congr 3; omega) | (congr 2; omega)), .t rfl, .t rfl, .t rfl, trivial⟩))
 ·try simp only [bsx] at hc0
  have hs12 := hc0
  have ha : a = N := by rw [show m = 0 by omega] at hab; omega
  refine JC.exit (JQ.then_exit (JQ.then_exit (JQ.block_exit (JQ.then_normal (JC.g (J.o (oa (.t rfl) (.tail _ (.head _)) Z9 (Q6 (g := Y4) (y := (K1 p a)) (Q0 (K1 p a)).symm rfl)) rfl ?_))))))
  refine J.store (.t rfl) (.eq (.t rfl) (K2 (Ts := (pT (K1 p a))) (Q0 _))) (.there (.there .here)) U4 (Z4 (Ts' := (pT (K1 p a))) (o := 0) rfl) (J.e (JC.ret ?_))
  exact JQ.ret1 rfl (.agg (.t rfl) (.tail _ (.tail _ (.head _))) Z9 (U3 (T := tV Q5 (K1 p a)) (T' := tV Q5 (K1 p N)) (by rw [ha]) (Q6 (g := Y4) (y := (K1 p a)) (Q0 (K1 p a)).symm rfl)))

theorem fit24_c  : Ctr Try.prog 25 [] (tIs (.bool true)) := by
 refine Ctr.of Try.func25 rfl Try.ntmps25 (Nat.le_of_ble_eq_true rfl) fun w0 M0 => (JC.g ?_)
 refine J.a .is rfl (J.e (JC.g ?_))
 refine J.o (X9 (T' := tV Q5 vX) (oc fn55 (var_c 1 ) (.cons .is .nil)) (by rfl)) rfl ?_
 refine J.o (X9 (T' := tV Q5 vY) (oc fn55 (var_c 2 ) (.cons .is .nil)) (by rfl)) rfl ?_
 refine J.alloc (R := cTs zP) W9 (fun _ => ⟨rfl, rfl, rfl, rfl, Q9 _ _, rfl, Q9 _ _, rfl, trivial⟩) (ltN rfl) fun b1 => ?_
 refine J.alloc (R := cTs zP) W9 (fun _ => ⟨rfl, rfl, rfl, rfl, Q9 _ _, rfl, Q9 _ _, rfl, trivial⟩) (ltN rfl) fun b2 => ?_
 refine J.store (.t rfl) (.eq (.t rfl) (K2 (Ts := (pT vX)) (Q0 _))) (.there .here) U4 (Z4 (Ts' := (pT vX)) (o := 0) rfl) ?_
 refine J.store (.t rfl) (.eq (.t rfl) (K2 (Ts := (pT vY)) (Q0 _))) .here U4 (Z4 (Ts' := (pT vY)) (o := 0) rfl) (J.e (JC.seq ?_))
 refine JC.weak (Γ' := [(2, X7 b2 0), (1, X7 b1 0), (0, tIs (.bool false))]) (H' := [⟨b2, 28, cTs (pT vY)⟩, ⟨b1, 28, cTs (pT vX)⟩]) (Q8 (X3 (.k (.k .nil))) (Z3 ⟨.t rfl, .t rfl, .t rfl, trivial⟩)) ?_
 refine JC.drawP (Ts := [tV Q5 vX, tV Q5 (K1 vX 2), tV Q5 vY, tV Q5 (K1 vY 2), tV Q5 (K0 4 (K1 vX 2) (Z2 (K1 vY 2) (-1))), tV Q5 vX, tV Q5 vY, tV Q5 (K0 4 vX vY), V5 [tV Q5 (K0 4 vX (Z2 vY (-1))), tIs (.int .i64 0)], V5 [tV Q5 (K0 4 vX (Z2 vY (-1))), tIs (.int .i64 0)], tV Q5 (K0 4 vX (Z2 vY (-1))), tIs (.int .i64 0), K5, K5, K5]) (un := (fun i => [12, 13].contains i)) mo (by kernel_rfl) ?_
 refine RP.step (al := (fun i => [0, 1, 2, 3, 4, 5, 6, 7, 8, 9, 10, 11].contains i)) (Γn := [(18, tIs (.int .i64 0)), (17, tV Q5 (K0 4 vX (Z2 vY (-1)))), (7, V5 [tV Q5 (K0 4 vX (Z2 vY (-1))), tIs (.int .i64 0)]), (16, V5 [tV Q5 (K0 4 vX (Z2 vY (-1))), tIs (.int .i64 0)]), (15, tV Q5 (K0 4 vX vY)), (14, tV Q5 vY), (13, tV Q5 vX), (12, tV Q5 (K0 4 (K1 vX 2) (Z2 (K1 vY 2) (-1)))), (11, tV Q5 (K1 vY 2)), (10, tV Q5 vY), (9, tV Q5 (K1 vX 2)), (8, tV Q5 vX), (2, X7 b2 0), (1, X7 b1 0), (0, tIs (.bool false))]) (Γ' := ?pg1) 12 (by kernel_rfl) (by kernel_rfl) ?tp1 ?nx1
 case tp1 =>
  refine TP.op (oa (.t rfl) (.tail _ (.head _)) Z9 (Q6 (g := Y4) (y := vX) (Q0 vX).symm rfl)) rfl (ltN rfl) rfl rfl ?_
  refine TP.op (oc fn69 (pow_c vX 2 2 (N1 : Pg 2 1 vX) rfl (by decide) (by decide) ⟨by decide, by decide, by decide, by decide⟩) (.cons (.t rfl) (.cons .is .nil))) rfl (ltN rfl) rfl rfl ?_
  refine TP.op (oa (.t rfl) (.head _) Z9 (Q6 (g := Y4) (y := vY) (Q0 vY).symm rfl)) rfl (ltN rfl) rfl rfl ?_
  refine TP.op (oc fn69 (pow_c vY 2 2 (N1 : Pg 2 1 vY) rfl (by decide) (by decide) ⟨by decide, by decide, by decide, by decide⟩) (.cons (.t rfl) (.cons .is .nil))) rfl (ltN rfl) rfl rfl ?_
  refine TP.op (oc fn68 (subK_c (K1 vX 2) (K1 vY 2) (powP_pg (N1 : Pg 2 1 vX) (by decide) 2) (powP_pg (N1 : Pg 2 1 vY) (by decide) 2) ⟨by decide, by decide⟩) (.cons (.t rfl) (.cons (.t rfl) .nil))) rfl (ltN rfl) rfl rfl ?_
  refine TP.op (oa (.t rfl) (.tail _ (.head _)) Z9 (Q6 (g := Y4) (y := vX) (Q0 vX).symm rfl)) rfl (ltN rfl) rfl rfl ?_
  refine TP.op (oa (.t rfl) (.head _) Z9 (Q6 (g := Y4) (y := vY) (Q0 vY).symm rfl)) rfl (ltN rfl) rfl rfl ?_
  refine TP.op (oc fn40 (addK_c vX vY (N1 : Pg 2 1 vX) (N1 : Pg 2 1 vY) ⟨by decide, by decide⟩) (.cons (.t rfl) (.cons (.t rfl) .nil))) rfl (ltN rfl) rfl rfl ?_
  refine TP.op (X9 (T' := V5 [tV Q5 (K0 4 vX (Z2 vY (-1))), tIs (.int .i64 0)]) (oc fn28 (pExact_c (K0 4 (K1 vX 2) (Z2 (K1 vY 2) (-1))) (K0 4 vX vY) (((powP_pg (N1 : Pg 2 1 vX) (by decide) 2).add (powP_pg (N1 : Pg 2 1 vY) (by decide) 2).neg (by decide) : Pg 5 4 _).mono (by decide) (by decide)) (((N1 : Pg 2 1 vX).add (N1 : Pg 2 1 vY) (by decide) : Pg 2 2 (K0 4 vX vY)).mono (by decide) (by decide)) (pg_small2 ((N1 : Pg 2 1 vX).add (N1 : Pg 2 1 vY) (by decide) : Pg 2 2 (K0 4 vX vY))) rm_small) (.cons (.t rfl) (.cons (.t rfl) .nil))) (by rw [fit_r.1, fit_r.2])) rfl (ltN rfl) rfl rfl ?_
  refine TP.op (Y0 (.t rfl)) rfl (ltN rfl) rfl rfl ?_
  refine TP.op (Z1 (.t rfl) rfl) rfl (ltN rfl) rfl rfl ?_
  refine TP.op (Z1 (.t rfl) rfl) rfl (ltN rfl) rfl rfl ?_
  refine TP.at rfl rfl ?_
  refine TP.skip0 rfl rfl rfl ?_
  refine TP.skip rfl rfl rfl ?_
  exact TP.nil
 case nx1 =>
 refine OneStep.mk (ι := Nat) (Hb := fun κ => [⟨κ, 28, cTs zP⟩, ⟨b2, 28, cTs (pT vY)⟩, ⟨b1, 28, cTs (pT vX)⟩]) (Tb := fun κ => [tV Q5 vX, tV Q5 (K1 vX 2), tV Q5 vY, tV Q5 (K1 vY 2), tV Q5 (K0 4 (K1 vX 2) (Z2 (K1 vY 2) (-1))), tV Q5 vX, tV Q5 vY, tV Q5 (K0 4 vX vY), V5 [tV Q5 (K0 4 vX (Z2 vY (-1))), tIs (.int .i64 0)], V5 [tV Q5 (K0 4 vX (Z2 vY (-1))), tIs (.int .i64 0)], tV Q5 (K0 4 vX (Z2 vY (-1))), tIs (.int .i64 0), X7 κ 0, K5, K5]) (fun i => [12].contains i) (fun i => [13].contains i) rfl rfl (fun _ => ⟨.inr rfl, ⟨.inr rfl, ⟨.inr rfl, ⟨.inr rfl, ⟨.inr rfl, ⟨.inr rfl, ⟨.inr rfl, ⟨.inr rfl, ⟨.inr rfl, ⟨.inr rfl, ⟨.inr rfl, ⟨.inr rfl, ⟨.inl rfl, ⟨.inl rfl, ⟨.inl rfl, trivial⟩⟩⟩⟩⟩⟩⟩⟩⟩⟩⟩⟩⟩⟩⟩) (by kernel_rfl) ?op1_12 ?mx1_12
 case op1_12 =>
  intro Γx hx
  refine J.alloc (R := cTs zP) W9 (fun _ => ⟨rfl, rfl, rfl, rfl, Q9 _ _, rfl, Q9 _ _, rfl, trivial⟩) (ltN rfl) fun b3 => ?_
  exact J.midP (Hb := fun κ => [⟨κ, 28, cTs zP⟩, ⟨b2, 28, cTs (pT vY)⟩, ⟨b1, 28, cTs (pT vX)⟩]) (Tb := fun κ => [tV Q5 vX, tV Q5 (K1 vX 2), tV Q5 vY, tV Q5 (K1 vY 2), tV Q5 (K0 4 (K1 vX 2) (Z2 (K1 vY 2) (-1))), tV Q5 vX, tV Q5 vY, tV Q5 (K0 4 vX vY), V5 [tV Q5 (K0 4 vX (Z2 vY (-1))), tIs (.int .i64 0)], V5 [tV Q5 (K0 4 vX (Z2 vY (-1))), tIs (.int .i64 0)], tV Q5 (K0 4 vX (Z2 vY (-1))), tIs (.int .i64 0), X7 κ 0, K5, K5]) (n := 12) b3 rfl
 case mx1_12 =>
  intro b3
  refine RP.step (al := (fun i => [0, 1, 2, 3, 4, 5, 6, 7, 8, 9, 10, 11].contains i)) (Γn := [(3, X7 b3 0), (18, tIs (.int .i64 0)), (17, tV Q5 (K0 4 vX (Z2 vY (-1)))), (7, V5 [tV Q5 (K0 4 vX (Z2 vY (-1))), tIs (.int .i64 0)]), (16, V5 [tV Q5 (K0 4 vX (Z2 vY (-1))), tIs (.int .i64 0)]), (15, tV Q5 (K0 4 vX vY)), (14, tV Q5 vY), (13, tV Q5 vX), (12, tV Q5 (K0 4 (K1 vX 2) (Z2 (K1 vY 2) (-1)))), (11, tV Q5 (K1 vY 2)), (10, tV Q5 vY), (9, tV Q5 (K1 vX 2)), (8, tV Q5 vX), (2, X7 b2 0), (1, X7 b1 0), (0, tIs (.bool false))]) (Γ' := ?pg2) 13 (by kernel_rfl) (by kernel_rfl) ?tp2 ?nx2
  case tp2 =>
   refine TP.op (oa (.t rfl) (.tail _ (.tail _ (.head _))) Z9 (Q6 (g := Y4) (y := vX) (Q0 vX).symm rfl)) rfl (ltN rfl) rfl rfl ?_
   refine TP.op (oc fn69 (pow_c vX 2 2 (N1 : Pg 2 1 vX) rfl (by decide) (by decide) ⟨by decide, by decide, by decide, by decide⟩) (.cons (.t rfl) (.cons .is .nil))) rfl (ltN rfl) rfl rfl ?_
   refine TP.op (oa (.t rfl) (.tail _ (.head _)) Z9 (Q6 (g := Y4) (y := vY) (Q0 vY).symm rfl)) rfl (ltN rfl) rfl rfl ?_
   refine TP.op (oc fn69 (pow_c vY 2 2 (N1 : Pg 2 1 vY) rfl (by decide) (by decide) ⟨by decide, by decide, by decide, by decide⟩) (.cons (.t rfl) (.cons .is .nil))) rfl (ltN rfl) rfl rfl ?_
   refine TP.op (oc fn68 (subK_c (K1 vX 2) (K1 vY 2) (powP_pg (N1 : Pg 2 1 vX) (by decide) 2) (powP_pg (N1 : Pg 2 1 vY) (by decide) 2) ⟨by decide, by decide⟩) (.cons (.t rfl) (.cons (.t rfl) .nil))) rfl (ltN rfl) rfl rfl ?_
   refine TP.op (oa (.t rfl) (.tail _ (.tail _ (.head _))) Z9 (Q6 (g := Y4) (y := vX) (Q0 vX).symm rfl)) rfl (ltN rfl) rfl rfl ?_
   refine TP.op (oa (.t rfl) (.tail _ (.head _)) Z9 (Q6 (g := Y4) (y := vY) (Q0 vY).symm rfl)) rfl (ltN rfl) rfl rfl ?_
   refine TP.op (oc fn40 (addK_c vX vY (N1 : Pg 2 1 vX) (N1 : Pg 2 1 vY) ⟨by decide, by decide⟩) (.cons (.t rfl) (.cons (.t rfl) .nil))) rfl (ltN rfl) rfl rfl ?_
   refine TP.op (X9 (T' := V5 [tV Q5 (K0 4 vX (Z2 vY (-1))), tIs (.int .i64 0)]) (oc fn28 (pExact_c (K0 4 (K1 vX 2) (Z2 (K1 vY 2) (-1))) (K0 4 vX vY) (((powP_pg (N1 : Pg 2 1 vX) (by decide) 2).add (powP_pg (N1 : Pg 2 1 vY) (by decide) 2).neg (by decide) : Pg 5 4 _).mono (by decide) (by decide)) (((N1 : Pg 2 1 vX).add (N1 : Pg 2 1 vY) (by decide) : Pg 2 2 (K0 4 vX vY)).mono (by decide) (by decide)) (pg_small2 ((N1 : Pg 2 1 vX).add (N1 : Pg 2 1 vY) (by decide) : Pg 2 2 (K0 4 vX vY))) rm_small) (.cons (.t rfl) (.cons (.t rfl) .nil))) (by rw [fit_r.1, fit_r.2])) rfl (ltN rfl) rfl rfl ?_
   refine TP.op (Y0 (.t rfl)) rfl (ltN rfl) rfl rfl ?_
   refine TP.op (Z1 (.t rfl) rfl) rfl (ltN rfl) rfl rfl ?_
   refine TP.op (Z1 (.t rfl) rfl) rfl (ltN rfl) rfl rfl ?_
   refine TP.skip rfl rfl rfl ?_
   refine TP.at0 rfl rfl ?_
   refine TP.skip rfl rfl rfl ?_
   exact TP.nil
  case nx2 =>
  refine OneStep.mk (ι := Unit) (Hb := fun κ => [⟨b3, 28, cTs (pT (K0 4 vX (Z2 vY (-1))))⟩, ⟨b2, 28, cTs (pT vY)⟩, ⟨b1, 28, cTs (pT vX)⟩]) (Tb := fun κ => [tV Q5 vX, tV Q5 (K1 vX 2), tV Q5 vY, tV Q5 (K1 vY 2), tV Q5 (K0 4 (K1 vX 2) (Z2 (K1 vY 2) (-1))), tV Q5 vX, tV Q5 vY, tV Q5 (K0 4 vX vY), V5 [tV Q5 (K0 4 vX (Z2 vY (-1))), tIs (.int .i64 0)], V5 [tV Q5 (K0 4 vX (Z2 vY (-1))), tIs (.int .i64 0)], tV Q5 (K0 4 vX (Z2 vY (-1))), tIs (.int .i64 0), X7 b3 0, K5, tIs (.int .i64 0)]) (fun i => [0, 1, 2, 3, 4, 5, 6, 7, 8, 9, 10, 12, 13].contains i) (fun _ => false) rfl rfl (fun _ => ⟨.inr rfl, ⟨.inr rfl, ⟨.inr rfl, ⟨.inr rfl, ⟨.inr rfl, ⟨.inr rfl, ⟨.inr rfl, ⟨.inr rfl, ⟨.inr rfl, ⟨.inr rfl, ⟨.inr rfl, ⟨.inr rfl, ⟨.inr rfl, ⟨.inl rfl, ⟨.inl rfl, trivial⟩⟩⟩⟩⟩⟩⟩⟩⟩⟩⟩⟩⟩⟩⟩) (by kernel_rfl) ?op2_13 ?mx2_13
  case op2_13 =>
   intro Γx hx
   refine J.store (.move hx (.t rfl) (by kernel_rfl)) (.eq (.move hx (.t rfl) (by kernel_rfl)) (K2 (Ts := (pT (K0 4 vX (Z2 vY (-1))))) (Q0 _))) .here U4 (Z4 (Ts' := (pT (K0 4 vX (Z2 vY (-1))))) (o := 0) rfl) ?_
   exact J.midP (Hb := fun κ => [⟨b3, 28, cTs (pT (K0 4 vX (Z2 vY (-1))))⟩, ⟨b2, 28, cTs (pT vY)⟩, ⟨b1, 28, cTs (pT vX)⟩]) (Tb := fun κ => [tV Q5 vX, tV Q5 (K1 vX 2), tV Q5 vY, tV Q5 (K1 vY 2), tV Q5 (K0 4 (K1 vX 2) (Z2 (K1 vY 2) (-1))), tV Q5 vX, tV Q5 vY, tV Q5 (K0 4 vX vY), V5 [tV Q5 (K0 4 vX (Z2 vY (-1))), tIs (.int .i64 0)], V5 [tV Q5 (K0 4 vX (Z2 vY (-1))), tIs (.int .i64 0)], tV Q5 (K0 4 vX (Z2 vY (-1))), tIs (.int .i64 0), X7 b3 0, K5, tIs (.int .i64 0)]) (n := 13) () rfl
  case mx2_13 =>
   intro _
   refine RP.last (al := (fun i => [11, 14].contains i)) (Γn := []) (Γ' := [(4, tIs (.int .i64 0)), (3, X7 b3 0), (18, tIs (.int .i64 0)), (17, tV Q5 (K0 4 vX (Z2 vY (-1)))), (7, V5 [tV Q5 (K0 4 vX (Z2 vY (-1))), tIs (.int .i64 0)]), (16, V5 [tV Q5 (K0 4 vX (Z2 vY (-1))), tIs (.int .i64 0)]), (15, tV Q5 (K0 4 vX vY)), (14, tV Q5 vY), (13, tV Q5 vX), (12, tV Q5 (K0 4 (K1 vX 2) (Z2 (K1 vY 2) (-1)))), (11, tV Q5 (K1 vY 2)), (10, tV Q5 vY), (9, tV Q5 (K1 vX 2)), (8, tV Q5 vX), (2, X7 b2 0), (1, X7 b1 0), (0, tIs (.bool false))]) (by kernel_rfl) (by kernel_rfl) ?tp3 ?_
   case tp3 =>
    refine TP.skip rfl rfl rfl ?_
    refine TP.skip rfl rfl rfl ?_
    refine TP.skip rfl rfl rfl ?_
    refine TP.skip rfl rfl rfl ?_
    refine TP.skip rfl rfl rfl ?_
    refine TP.skip rfl rfl rfl ?_
    refine TP.skip rfl rfl rfl ?_
    refine TP.skip rfl rfl rfl ?_
    refine TP.skip rfl rfl rfl ?_
    refine TP.skip rfl rfl rfl ?_
    refine TP.skip rfl rfl rfl ?_
    refine TP.op (Z1 (.t rfl) rfl) rfl (ltN rfl) rfl rfl ?_
    refine TP.skip rfl rfl rfl ?_
    refine TP.skip0 rfl rfl rfl ?_
    refine TP.op (Y2 (.t rfl)) rfl (ltN rfl) rfl rfl ?_
    exact TP.nil
   refine JQ.then_normal (JC.seq ?_)
   refine JC.draw (Γ' := ?g2) mo (by kernel_rfl) ?tw2 ?k2
   case tw2 =>
    refine TW.M rfl rfl (TW.o (U5 (.t rfl) .is) rfl (TW.M rfl rfl ?_))
    refine TW.opg rfl rfl rfl (ltN rfl) (fun hg => oa (.t rfl) (.head _) Z9 (Q6 (g := Y4) (y := (K0 4 vX (Z2 vY (-1)))) (Q0 (K0 4 vX (Z2 vY (-1)))).symm rfl)) rfl (ltN rfl) ?_
    refine TW.opg rfl rfl rfl (ltN rfl) (fun hg => oa (.t rfl) (.tail _ (.tail _ (.head _))) Z9 (Q6 (g := Y4) (y := vX) (Q0 vX).symm rfl)) rfl (ltN rfl) ?_
    refine TW.opg rfl rfl rfl (ltN rfl) (fun hg => oa (.t rfl) (.tail _ (.head _)) Z9 (Q6 (g := Y4) (y := vY) (Q0 vY).symm rfl)) rfl (ltN rfl) ?_
    refine TW.opg rfl rfl rfl (ltN rfl) (fun hg => oc fn68 (subK_c vX vY (N1 : Pg 2 1 vX) (N1 : Pg 2 1 vY) ⟨by decide, by decide⟩) (.cons (.iff hg (.t rfl)) (.cons (.iff hg (.t rfl)) .nil))) rfl (ltN rfl) ?_
    refine TW.opg rfl rfl rfl (ltN rfl) (fun hg => oc fn31 (sameK_c (K0 4 vX (Z2 vY (-1))) (K0 4 vX (Z2 vY (-1))) ((N1 : Pg 2 1 vX).add (N1 : Pg 2 1 vY).neg (by decide)) ⟨by decide, by decide⟩ rfl) (.cons (.iff hg (.t rfl)) (.cons (.iff hg (.t rfl)) .nil))) rfl (ltN rfl) ?_
    refine TW.o (R4 (.t rfl) (.t rfl) .is) rfl (TW.M rfl rfl ?_)
    refine TW.opg rfl rfl rfl (ltN rfl) (fun hg => oa (.t rfl) (.tail _ (.tail _ (.head _))) Z9 (Q6 (g := Y4) (y := vX) (Q0 vX).symm rfl)) rfl (ltN rfl) ?_
    refine TW.opg rfl rfl rfl (ltN rfl) (fun hg => oa (.t rfl) (.tail _ (.tail _ (.head _))) Z9 (Q6 (g := Y4) (y := vX) (Q0 vX).symm rfl)) rfl (ltN rfl) ?_
    refine TW.opg rfl rfl rfl (ltN rfl) (fun hg => oa (.t rfl) (.tail _ (.head _)) Z9 (Q6 (g := Y4) (y := vY) (Q0 vY).symm rfl)) rfl (ltN rfl) ?_
    refine TW.opg rfl rfl rfl (ltN rfl) (fun hg => oc fn29 (mulK_c vX vY (N1 : Pg 2 1 vX) (N1 : Pg 2 1 vY) ⟨⟨by decide, by decide, by decide⟩, by decide⟩) (.cons (.iff hg (.t rfl)) (.cons (.iff hg (.t rfl)) .nil))) rfl (ltN rfl) ?_
    refine TW.opg rfl rfl rfl (ltN rfl) (fun hg => X9 (T' := tIs (.bool true)) (oc fn33 (divides_c vX (K3 4 vX vY) (((N1 : Pg 2 1 vX).mul (N1 : Pg 2 1 vY) (by decide) (by decide) : Pg 4 2 _).mono (by decide) (by decide)) ((N1 : Pg 2 1 vX).mono (by decide) (by decide)) (pg_small2 ((N1 : Pg 2 1 vX).mono (by decide) (by decide) : Pg 2 2 vX)) rm_small (by decide)) (.cons (.iff hg (.t rfl)) (.cons (.iff hg (.t rfl)) .nil))) (by rw [fit_dv])) rfl (ltN rfl) ?_
    refine TW.o (R4 (.t rfl) (.t rfl) .is) rfl (TW.M rfl rfl ?_)
    refine TW.opg rfl rfl rfl (ltN rfl) (fun hg => oa (.t rfl) (.tail _ (.tail _ (.head _))) Z9 (Q6 (g := Y4) (y := vX) (Q0 vX).symm rfl)) rfl (ltN rfl) ?_
    refine TW.opg rfl rfl rfl (ltN rfl) (fun hg => oa (.t rfl) (.tail _ (.head _)) Z9 (Q6 (g := Y4) (y := vY) (Q0 vY).symm rfl)) rfl (ltN rfl) ?_
    refine TW.opg rfl rfl rfl (ltN rfl) (fun hg => X9 (T' := tIs (.bool false)) (oc fn33 (divides_c vX vY ((N1 : Pg 2 1 vY).mono (by decide) (by decide)) ((N1 : Pg 2 1 vX).mono (by decide) (by decide)) (pg_small2 ((N1 : Pg 2 1 vX).mono (by decide) (by decide) : Pg 2 2 vX)) rm_small (by decide)) (.cons (.iff hg (.t rfl)) (.cons (.iff hg (.t rfl)) .nil))) (by rw [fit_no])) rfl (ltN rfl) ?_
    refine TW.opg rfl rfl rfl (ltN rfl) (fun hg => ot_not (.iff hg (.t rfl))) rfl (ltN rfl) ?_
    refine TW.o (R4 (.t rfl) (.t rfl) .is) rfl ?_
    refine TW.o (Y2 (.t rfl)) rfl ?_
    exact TW.nil
   refine JQ.then_normal (JC.ret ?_)
   exact JQ.ret1 rfl (.tmp (.eq (.t rfl) (by first | rfl | (congr 3; omega) | (congr 2; omega) | simp [*])))

theorem level_c {D B : Nat} (p : Pol) (hp : Pg D B p) (hb : D ≤ 4294967296 ∧ B ≤ 90000000000) : Ctr Try.prog 38 [tV Q5 p] (tIs (.int .i64 (p.lv))) := by
 refine Ctr.of Try.func38 rfl Try.ntmps38 (Nat.le_of_ble_eq_true rfl) fun w0 M0 => (JC.g ?_)
 refine J.boxF (Ts := (pT p)) (.t rfl) (Q0 _) (ltN rfl) fun b1 => ?_
 refine J.a .is rfl (J.e (JC.g (J.o (oa (.t rfl) (.head _) Z9 (Q6 (g := Y4) (y := p) (Q0 p).symm rfl)) rfl ?_)))
 refine J.o (oc fn45 (normK_c p (by assumption) (by omega)) (.cons (.t rfl) .nil)) rfl ?_
 refine J.o (ot_fieldV (.t rfl) T1 sc3 (by rw [Q0]; rfl)) rfl (J.A rfl rfl (J.e (JC.ret ?_)))
 exact JQ.ret1 rfl (.tmp (.t rfl))

theorem strip_c {E u B : Nat} (D : Nat) (g f : Pol) (pf : Pg D B f) (pg : Pg E u g) (ng : nrm g + 2 ≤ B32 ^ u) (rm : Rm 4 D E u (B + D * gM 4 D E u)) (hE : (E + 1) ^ 4 ≤ 1000000000) : Ctr Try.prog 86 [tV Q5 g, tV Q5 f] (V5 [tIs (.int .i64 (((V8 D g f).1 : Int))), tV Q5 ((V8 D g f).2), tIs (.int .i64 (stE g f))]) := by
 have hb := rm.base
 have hgl := pg.can.lev.lv
 refine Ctr.of Try.func86 rfl Try.ntmps86 (Nat.le_of_ble_eq_true rfl) fun w0 M0 => (JC.g ?_)
 refine J.boxF (Ts := (pT g)) (.t rfl) (Q0 _) (ltN rfl) fun b2 => ?_
 refine J.boxF (Ts := (pT f)) (.t rfl) (Q0 _) (ltN rfl) fun b3 => ?_
 refine J.a .is rfl ?_
 refine J.alloc (R := cTs zP) W9 (fun _ => ⟨rfl, rfl, rfl, rfl, Q9 _ _, rfl, Q9 _ _, rfl, trivial⟩) (ltN rfl) fun b5 => ?_
 refine J.a .is rfl (J.e (JC.seq (JC.g (J.o (oa (.t rfl) (.tail _ (.head _)) Z9 (Q6 (g := Y4) (y := f) (Q0 f).symm rfl)) rfl ?_))))
 refine J.o (K6 (E := Q5) (zs := [f]) W5 (.cons (.t rfl) .nil) rfl W9 rfl (by decide) (by decide)) rfl ?_
 refine J.o (oc fn73 (zeros_c f pf ⟨by omega, by omega⟩) (.cons (.t rfl) .nil)) rfl (J.A rfl rfl (J.e (JC.g (J.M rfl rfl (J.o (ot_neq (.t rfl) .is) rfl (J.e ?_))))))
 refine JC.cond (.t rfl) (fun hc0 => ?_) (fun hc0 => ?_)
 ·try simp only [bsx] at hc0
  have hs17 := hc0
  have hz : Z5 f = true := by cases hz : Z5 f with | true => rfl | false => rw [hz] at hs17; simp at hs17
  obtain ⟨s1, s2⟩ := stNR_zero (D := D) (g := g) hz
  refine (JC.g ?_)
  refine J.o (X9 (T' := tV Q5 (Pol.mk 0 (Z.mk false ([])) ([]))) (V7 (Ts := zP) pl28 (fun _ => ⟨rfl, rfl, rfl, rfl, Q9 _ _, rfl, Q9 _ _, rfl, trivial⟩) (.nil) rfl) (tV_F' (Q0 _))) rfl (J.M rfl rfl ?_)
  refine J.a .is rfl ?_
  refine J.store (.t rfl) (.eq (.t rfl) (K2 (Ts := zP) (Q0 _))) .here U4 (Z4 (Ts' := zP) (o := 0) rfl) (J.A rfl rfl (J.e (JC.ret (JQ.then_ret ?_))))
  exact JQ.ret3 rfl (.tmp (.eq (.t rfl) (by rw [s1]; rfl))) (.agg (.t rfl) (.head _) Z9 (U3 (T := tV Q5 (Pol.mk 0 (Z.mk false ([])) ([]))) (T' := tV Q5 ((V8 D g f).2)) (by rw [s1]; rfl) (Q6 (g := Y4) (y := (Pol.mk 0 (Z.mk false ([])) ([]))) (Q0 (Pol.mk 0 (Z.mk false ([])) ([]))).symm rfl))) (.tmp (.eq (.t rfl) (by rw [s2, if_pos hz])))
 ·try simp only [bsx] at hc0
  have hs17 := hc0
  have hz : Z5 f = false := by cases hz : Z5 f with | false => rfl | true => rw [hz] at hs17; simp at hs17
  refine JC.skip (JQ.then_normal (JC.seq (JC.g (J.o (oa (.t rfl) (.tail _ (.tail _ (.head _))) Z9 (Q6 (g := Y4) (y := g) (Q0 g).symm rfl)) rfl ?_))))
  refine J.o (oc fn38 (level_c g pg ⟨by omega, by omega⟩) (.cons (.t rfl) .nil)) rfl (J.o (U5 (.t rfl) .is) rfl (J.e ?_))
  refine JC.cond (.t rfl) (fun hc1 => ?_) (fun hc1 => ?_)
  ·try simp only [bsx] at hc1
   have hs22 := hc1
   obtain ⟨s1, s2⟩ := stNR_const (D := D) hz hs22
   refine (JC.g ?_)
   refine J.o (X9 (T' := tV Q5 (Pol.mk 0 (Z.mk false ([])) ([]))) (V7 (Ts := zP) pl28 (fun _ => ⟨rfl, rfl, rfl, rfl, Q9 _ _, rfl, Q9 _ _, rfl, trivial⟩) (.nil) rfl) (tV_F' (Q0 _))) rfl ?_
   refine J.a .is rfl ?_
   refine J.store (.t rfl) (.eq (.t rfl) (K2 (Ts := zP) (Q0 _))) .here U4 (Z4 (Ts' := zP) (o := 0) rfl) ?_
   refine J.a .is rfl (J.e (JC.ret (JQ.then_ret ?_)))
   exact JQ.ret3 rfl (.tmp (.eq (.t rfl) (by rw [s1]; rfl))) (.agg (.t rfl) (.head _) Z9 (U3 (T := tV Q5 (Pol.mk 0 (Z.mk false ([])) ([]))) (T' := tV Q5 ((V8 D g f).2)) (by rw [s1]; rfl) (Q6 (g := Y4) (y := (Pol.mk 0 (Z.mk false ([])) ([]))) (Q0 (Pol.mk 0 (Z.mk false ([])) ([]))).symm rfl))) (.tmp (.eq (.t rfl) (by rw [s2])))
  ·try simp only [bsx] at hc1
   have hs22 := hc1
   obtain ⟨s1, s2⟩ := stNR_ok (D := D) hz hs22
   obtain ⟨l, hl⟩ : ∃ l : Nat, g.lv = ((l + 1 : Nat) : Int) := ⟨g.lv.toNat - 1, by omega⟩
   have hS := StH.of pg ng hb.2.1 hl
   have hgz := lv_nz hs22
   have ph := pg.msign hb.2.1 hgz
   refine JC.skip (JQ.then_normal (JC.seq ?_))
   refine JC.weak (Γ' := [(6, tIs (.int .i64 0)), (5, X7 b5 0), (4, tIs (.int .i64 0)), (3, X7 b3 0), (2, X7 b2 0)]) (H' := [⟨b5, 28, cTs zP⟩, ⟨b3, 28, cTs (pT f)⟩, ⟨b2, 28, cTs (pT g)⟩]) (Q8 (X3 (.k (.k (.k .nil)))) (Z3 ⟨.t rfl, .t rfl, .t rfl, .t rfl, .t rfl, trivial⟩)) ?_
   refine JC.drawP (Ts := [tV Q5 g, tV Q5 (msign g), tV Q5 f, tV Q5 f, K5, K5, K5, K5]) (un := (fun i => [4, 5, 6, 7].contains i)) mo (by kernel_rfl) ?_
   suffices both : ∀ b8 b9, RP _ _ _ _ [⟨b9, 28, cTs zP⟩, ⟨b8, 28, cTs zP⟩, ⟨b5, 28, cTs zP⟩, ⟨b3, 28, cTs (pT f)⟩, ⟨b2, 28, cTs (pT g)⟩] [tV Q5 g, tV Q5 (msign g), tV Q5 f, tV Q5 f, X7 b8 0, X7 b9 0, K5, K5] (fun i => [4, 5].contains i) (fun i => [6, 7].contains i) by
    refine RP.two (al := (fun i => [0, 1, 2, 3].contains i)) (Γn := [(27, tV Q5 f), (26, tV Q5 f), (25, tV Q5 (msign g)), (24, tV Q5 g), (6, tIs (.int .i64 0)), (5, X7 b5 0), (4, tIs (.int .i64 0)), (3, X7 b3 0), (2, X7 b2 0)]) (Γ' := ?pg1) 4 5 (by kernel_rfl) (by kernel_rfl) ?tp1 ?nx1 ?ny1
    case tp1 =>
     refine TP.op (oa (.t rfl) (.tail _ (.tail _ (.head _))) Z9 (Q6 (g := Y4) (y := g) (Q0 g).symm rfl)) rfl (ltN rfl) rfl rfl ?_
     refine TP.op (oc fn21 (msign_c g (pg.fit (by omega)) pg.nr (pg.cnt_le hE) (by omega) (pg.terms_le hb.2.1 hE) (by rw [norm_can pg.can]; exact R5 hgz)) (.cons (.t rfl) .nil)) rfl (ltN rfl) rfl rfl ?_
     refine TP.op (oa (.t rfl) (.tail _ (.head _)) Z9 (Q6 (g := Y4) (y := f) (Q0 f).symm rfl)) rfl (ltN rfl) rfl rfl ?_
     refine TP.op (oc fn45 (normK_c f pf ⟨by omega, by omega⟩) (.cons (.t rfl) .nil)) rfl (ltN rfl) rfl rfl ?_
     refine TP.at rfl rfl ?_
     refine TP.skip rfl rfl rfl ?_
     refine TP.skip0 rfl rfl rfl ?_
     refine TP.skip0 rfl rfl rfl ?_
     exact TP.nil
    case nx1 =>
     refine OneStep.mk (ι := Nat) (Hb := fun κ => [⟨κ, 28, cTs zP⟩, ⟨b5, 28, cTs zP⟩, ⟨b3, 28, cTs (pT f)⟩, ⟨b2, 28, cTs (pT g)⟩]) (Tb := fun κ => [tV Q5 g, tV Q5 (msign g), tV Q5 f, tV Q5 f, X7 κ 0, K5, K5, K5]) (fun i => [4].contains i) (fun i => [5, 6, 7].contains i) rfl rfl (fun _ => ⟨.inr rfl, ⟨.inr rfl, ⟨.inr rfl, ⟨.inr rfl, ⟨.inl rfl, ⟨.inl rfl, ⟨.inl rfl, ⟨.inl rfl, trivial⟩⟩⟩⟩⟩⟩⟩⟩) (by kernel_rfl) ?op1_4 ?mx1_4
     case op1_4 =>
      intro Γx hx
      refine J.alloc (R := cTs zP) W9 (fun _ => ⟨rfl, rfl, rfl, rfl, Q9 _ _, rfl, Q9 _ _, rfl, trivial⟩) (ltN rfl) fun b8 => ?_
      exact J.midP (Hb := fun κ => [⟨κ, 28, cTs zP⟩, ⟨b5, 28, cTs zP⟩, ⟨b3, 28, cTs (pT f)⟩, ⟨b2, 28, cTs (pT g)⟩]) (Tb := fun κ => [tV Q5 g, tV Q5 (msign g), tV Q5 f, tV Q5 f, X7 κ 0, K5, K5, K5]) (n := 4) b8 rfl
     case mx1_4 =>
      intro b8
      refine RP.step (al := (fun i => [0, 1, 2, 3].contains i)) (Γn := [(8, X7 b8 0), (27, tV Q5 f), (26, tV Q5 f), (25, tV Q5 (msign g)), (24, tV Q5 g), (6, tIs (.int .i64 0)), (5, X7 b5 0), (4, tIs (.int .i64 0)), (3, X7 b3 0), (2, X7 b2 0)]) (Γ' := ?pg2) 5 (by kernel_rfl) (by kernel_rfl) ?tp2 ?nx2
      case tp2 =>
       refine TP.op (oa (.t rfl) (.tail _ (.tail _ (.tail _ (.head _)))) Z9 (Q6 (g := Y4) (y := g) (Q0 g).symm rfl)) rfl (ltN rfl) rfl rfl ?_
       refine TP.op (oc fn21 (msign_c g (pg.fit (by omega)) pg.nr (pg.cnt_le hE) (by omega) (pg.terms_le hb.2.1 hE) (by rw [norm_can pg.can]; exact R5 hgz)) (.cons (.t rfl) .nil)) rfl (ltN rfl) rfl rfl ?_
       refine TP.op (oa (.t rfl) (.tail _ (.tail _ (.head _))) Z9 (Q6 (g := Y4) (y := f) (Q0 f).symm rfl)) rfl (ltN rfl) rfl rfl ?_
       refine TP.op (oc fn45 (normK_c f pf ⟨by omega, by omega⟩) (.cons (.t rfl) .nil)) rfl (ltN rfl) rfl rfl ?_
       refine TP.skip rfl rfl rfl ?_
       refine TP.at rfl rfl ?_
       refine TP.skip0 rfl rfl rfl ?_
       refine TP.skip0 rfl rfl rfl ?_
       exact TP.nil
      case nx2 =>
      refine OneStep.mk (ι := Nat) (Hb := fun κ => [⟨κ, 28, cTs zP⟩, ⟨b8, 28, cTs zP⟩, ⟨b5, 28, cTs zP⟩, ⟨b3, 28, cTs (pT f)⟩, ⟨b2, 28, cTs (pT g)⟩]) (Tb := fun κ => [tV Q5 g, tV Q5 (msign g), tV Q5 f, tV Q5 f, X7 b8 0, X7 κ 0, K5, K5]) (fun i => [4, 5].contains i) (fun i => [6, 7].contains i) rfl rfl (fun _ => ⟨.inr rfl, ⟨.inr rfl, ⟨.inr rfl, ⟨.inr rfl, ⟨.inr rfl, ⟨.inl rfl, ⟨.inl rfl, ⟨.inl rfl, trivial⟩⟩⟩⟩⟩⟩⟩⟩) (by kernel_rfl) ?op2_5 ?mx2_5
      case op2_5 =>
       intro Γx hx
       refine J.alloc (R := cTs zP) W9 (fun _ => ⟨rfl, rfl, rfl, rfl, Q9 _ _, rfl, Q9 _ _, rfl, trivial⟩) (ltN rfl) fun b9 => ?_
       exact J.midP (Hb := fun κ => [⟨κ, 28, cTs zP⟩, ⟨b8, 28, cTs zP⟩, ⟨b5, 28, cTs zP⟩, ⟨b3, 28, cTs (pT f)⟩, ⟨b2, 28, cTs (pT g)⟩]) (Tb := fun κ => [tV Q5 g, tV Q5 (msign g), tV Q5 f, tV Q5 f, X7 b8 0, X7 κ 0, K5, K5]) (n := 5) b9 rfl
      case mx2_5 =>
       intro b9
       exact both b8 b9
    case ny1 =>
     refine OneStep.mk (ι := Nat) (Hb := fun κ => [⟨κ, 28, cTs zP⟩, ⟨b5, 28, cTs zP⟩, ⟨b3, 28, cTs (pT f)⟩, ⟨b2, 28, cTs (pT g)⟩]) (Tb := fun κ => [tV Q5 g, tV Q5 (msign g), tV Q5 f, tV Q5 f, K5, X7 κ 0, K5, K5]) (fun i => [5].contains i) (fun i => [4, 6, 7].contains i) rfl rfl (fun _ => ⟨.inr rfl, ⟨.inr rfl, ⟨.inr rfl, ⟨.inr rfl, ⟨.inl rfl, ⟨.inl rfl, ⟨.inl rfl, ⟨.inl rfl, trivial⟩⟩⟩⟩⟩⟩⟩⟩) (by kernel_rfl) ?op1_5 ?mx1_5
     case op1_5 =>
      intro Γx hx
      refine J.alloc (R := cTs zP) W9 (fun _ => ⟨rfl, rfl, rfl, rfl, Q9 _ _, rfl, Q9 _ _, rfl, trivial⟩) (ltN rfl) fun b9 => ?_
      exact J.midP (Hb := fun κ => [⟨κ, 28, cTs zP⟩, ⟨b5, 28, cTs zP⟩, ⟨b3, 28, cTs (pT f)⟩, ⟨b2, 28, cTs (pT g)⟩]) (Tb := fun κ => [tV Q5 g, tV Q5 (msign g), tV Q5 f, tV Q5 f, K5, X7 κ 0, K5, K5]) (n := 5) b9 rfl
     case mx1_5 =>
      intro b9
      refine RP.step (al := (fun i => [0, 1, 2, 3].contains i)) (Γn := [(27, tV Q5 f), (26, tV Q5 f), (25, tV Q5 (msign g)), (24, tV Q5 g), (6, tIs (.int .i64 0)), (5, X7 b5 0), (4, tIs (.int .i64 0)), (3, X7 b3 0), (2, X7 b2 0)]) (Γ' := ?pg3) 4 (by kernel_rfl) (by kernel_rfl) ?tp3 ?nx3
      case tp3 =>
       refine TP.op (oa (.t rfl) (.tail _ (.tail _ (.tail _ (.head _)))) Z9 (Q6 (g := Y4) (y := g) (Q0 g).symm rfl)) rfl (ltN rfl) rfl rfl ?_
       refine TP.op (oc fn21 (msign_c g (pg.fit (by omega)) pg.nr (pg.cnt_le hE) (by omega) (pg.terms_le hb.2.1 hE) (by rw [norm_can pg.can]; exact R5 hgz)) (.cons (.t rfl) .nil)) rfl (ltN rfl) rfl rfl ?_
       refine TP.op (oa (.t rfl) (.tail _ (.tail _ (.head _))) Z9 (Q6 (g := Y4) (y := f) (Q0 f).symm rfl)) rfl (ltN rfl) rfl rfl ?_
       refine TP.op (oc fn45 (normK_c f pf ⟨by omega, by omega⟩) (.cons (.t rfl) .nil)) rfl (ltN rfl) rfl rfl ?_
       refine TP.at rfl rfl ?_
       refine TP.skip rfl rfl rfl ?_
       refine TP.skip0 rfl rfl rfl ?_
       refine TP.skip0 rfl rfl rfl ?_
       exact TP.nil
      case nx3 =>
      refine OneStep.mk (ι := Nat) (Hb := fun κ => [⟨b9, 28, cTs zP⟩, ⟨κ, 28, cTs zP⟩, ⟨b5, 28, cTs zP⟩, ⟨b3, 28, cTs (pT f)⟩, ⟨b2, 28, cTs (pT g)⟩]) (Tb := fun κ => [tV Q5 g, tV Q5 (msign g), tV Q5 f, tV Q5 f, X7 κ 0, X7 b9 0, K5, K5]) (fun i => [4, 5].contains i) (fun i => [6, 7].contains i) rfl rfl (fun _ => ⟨.inr rfl, ⟨.inr rfl, ⟨.inr rfl, ⟨.inr rfl, ⟨.inl rfl, ⟨.inr rfl, ⟨.inl rfl, ⟨.inl rfl, trivial⟩⟩⟩⟩⟩⟩⟩⟩) (by kernel_rfl) ?op3_4 ?mx3_4
      case op3_4 =>
       intro Γx hx
       refine J.alloc (R := cTs zP) W9 (fun _ => ⟨rfl, rfl, rfl, rfl, Q9 _ _, rfl, Q9 _ _, rfl, trivial⟩) (ltN rfl) fun b8 => ?_
       refine fun a w hs => J.midP (Hb := fun κ => [⟨b9, 28, cTs zP⟩, ⟨κ, 28, cTs zP⟩, ⟨b5, 28, cTs zP⟩, ⟨b3, 28, cTs (pT f)⟩, ⟨b2, 28, cTs (pT g)⟩]) (Tb := fun κ => [tV Q5 g, tV Q5 (msign g), tV Q5 f, tV Q5 f, X7 κ 0, X7 b9 0, K5, K5]) (n := 4) b8 rfl a w hs.swap
      case mx3_4 =>
       intro b8
       exact both b8 b9
   intro b8 b9
   refine RP.step (al := (fun i => [0, 1, 2, 3].contains i)) (Γn := [(9, X7 b9 0), (8, X7 b8 0), (27, tV Q5 f), (26, tV Q5 f), (25, tV Q5 (msign g)), (24, tV Q5 g), (6, tIs (.int .i64 0)), (5, X7 b5 0), (4, tIs (.int .i64 0)), (3, X7 b3 0), (2, X7 b2 0)]) (Γ' := ?pg4) 6 (by kernel_rfl) (by kernel_rfl) ?tp4 ?nx4
   case tp4 =>
    refine TP.op (oa (.t rfl) (.tail _ (.tail _ (.tail _ (.tail _ (.head _))))) Z9 (Q6 (g := Y4) (y := g) (Q0 g).symm rfl)) rfl (ltN rfl) rfl rfl ?_
    refine TP.op (oc fn21 (msign_c g (pg.fit (by omega)) pg.nr (pg.cnt_le hE) (by omega) (pg.terms_le hb.2.1 hE) (by rw [norm_can pg.can]; exact R5 hgz)) (.cons (.t rfl) .nil)) rfl (ltN rfl) rfl rfl ?_
    refine TP.op (oa (.t rfl) (.tail _ (.tail _ (.tail _ (.head _)))) Z9 (Q6 (g := Y4) (y := f) (Q0 f).symm rfl)) rfl (ltN rfl) rfl rfl ?_
    refine TP.op (oc fn45 (normK_c f pf ⟨by omega, by omega⟩) (.cons (.t rfl) .nil)) rfl (ltN rfl) rfl rfl ?_
    refine TP.skip rfl rfl rfl ?_
    refine TP.skip rfl rfl rfl ?_
    refine TP.at0 rfl rfl ?_
    refine TP.skip0 rfl rfl rfl ?_
    exact TP.nil
   case nx4 =>
   refine OneStep.mk (ι := Unit) (Hb := fun κ => [⟨b9, 28, cTs zP⟩, ⟨b8, 28, cTs (pT (msign g))⟩, ⟨b5, 28, cTs zP⟩, ⟨b3, 28, cTs (pT f)⟩, ⟨b2, 28, cTs (pT g)⟩]) (Tb := fun κ => [tV Q5 g, tV Q5 (msign g), tV Q5 f, tV Q5 f, X7 b8 0, X7 b9 0, K5, K5]) (fun i => [0, 1, 2, 3, 4, 5, 6].contains i) (fun i => [7].contains i) rfl rfl (fun _ => ⟨.inr rfl, ⟨.inr rfl, ⟨.inr rfl, ⟨.inr rfl, ⟨.inr rfl, ⟨.inr rfl, ⟨.inl rfl, ⟨.inl rfl, trivial⟩⟩⟩⟩⟩⟩⟩⟩) (by kernel_rfl) ?op4_6 ?mx4_6
   case op4_6 =>
    intro Γx hx
    refine J.store (.move hx (.t rfl) (by kernel_rfl)) (.eq (.move hx (.t rfl) (by kernel_rfl)) (K2 (Ts := (pT (msign g))) (Q0 _))) (.there .here) U4 (Z4 (Ts' := (pT (msign g))) (o := 0) rfl) ?_
    exact J.midP (Hb := fun κ => [⟨b9, 28, cTs zP⟩, ⟨b8, 28, cTs (pT (msign g))⟩, ⟨b5, 28, cTs zP⟩, ⟨b3, 28, cTs (pT f)⟩, ⟨b2, 28, cTs (pT g)⟩]) (Tb := fun κ => [tV Q5 g, tV Q5 (msign g), tV Q5 f, tV Q5 f, X7 b8 0, X7 b9 0, K5, K5]) (n := 6) () rfl
   case mx4_6 =>
    intro _
    refine RP.step (al := (fun _ => false)) (Γn := [(9, X7 b9 0), (8, X7 b8 0), (27, tV Q5 f), (26, tV Q5 f), (25, tV Q5 (msign g)), (24, tV Q5 g), (6, tIs (.int .i64 0)), (5, X7 b5 0), (4, tIs (.int .i64 0)), (3, X7 b3 0), (2, X7 b2 0)]) (Γ' := ?pg5) 7 (by kernel_rfl) (by kernel_rfl) ?tp5 ?nx5
    case tp5 =>
     refine TP.skip rfl rfl rfl ?_
     refine TP.skip rfl rfl rfl ?_
     refine TP.skip rfl rfl rfl ?_
     refine TP.skip rfl rfl rfl ?_
     refine TP.skip rfl rfl rfl ?_
     refine TP.skip rfl rfl rfl ?_
     refine TP.skip0 rfl rfl rfl ?_
     refine TP.at0 rfl rfl ?_
     exact TP.nil
    case nx5 =>
    refine OneStep.mk (ι := Unit) (Hb := fun κ => [⟨b9, 28, cTs (pT f)⟩, ⟨b8, 28, cTs (pT (msign g))⟩, ⟨b5, 28, cTs zP⟩, ⟨b3, 28, cTs (pT f)⟩, ⟨b2, 28, cTs (pT g)⟩]) (Tb := fun κ => [tV Q5 g, tV Q5 (msign g), tV Q5 f, tV Q5 f, X7 b8 0, X7 b9 0, K5, K5]) (fun i => [0, 1, 2, 3, 4, 5, 6, 7].contains i) (fun _ => false) rfl rfl (fun _ => ⟨.inr rfl, ⟨.inr rfl, ⟨.inr rfl, ⟨.inr rfl, ⟨.inr rfl, ⟨.inr rfl, ⟨.inr rfl, ⟨.inl rfl, trivial⟩⟩⟩⟩⟩⟩⟩⟩) (by kernel_rfl) ?op5_7 ?mx5_7
    case op5_7 =>
     intro Γx hx
     refine J.store (.move hx (.t rfl) (by kernel_rfl)) (.eq (.move hx (.t rfl) (by kernel_rfl)) (K2 (Ts := (pT f)) (Q0 _))) .here U4 (Z4 (Ts' := (pT f)) (o := 0) rfl) ?_
     exact J.midP (Hb := fun κ => [⟨b9, 28, cTs (pT f)⟩, ⟨b8, 28, cTs (pT (msign g))⟩, ⟨b5, 28, cTs zP⟩, ⟨b3, 28, cTs (pT f)⟩, ⟨b2, 28, cTs (pT g)⟩]) (Tb := fun κ => [tV Q5 g, tV Q5 (msign g), tV Q5 f, tV Q5 f, X7 b8 0, X7 b9 0, K5, K5]) (n := 7) () rfl
    case mx5_7 =>
     intro _
     refine RP.last (al := (fun _ => false)) (Γn := []) (Γ' := [(9, X7 b9 0), (8, X7 b8 0), (27, tV Q5 f), (26, tV Q5 f), (25, tV Q5 (msign g)), (24, tV Q5 g), (6, tIs (.int .i64 0)), (5, X7 b5 0), (4, tIs (.int .i64 0)), (3, X7 b3 0), (2, X7 b2 0)]) (by kernel_rfl) (by kernel_rfl) ?tp6 ?_
     case tp6 =>
      refine TP.skip rfl rfl rfl ?_
      refine TP.skip rfl rfl rfl ?_
      refine TP.skip rfl rfl rfl ?_
      refine TP.skip rfl rfl rfl ?_
      refine TP.skip rfl rfl rfl ?_
      refine TP.skip rfl rfl rfl ?_
      refine TP.skip0 rfl rfl rfl ?_
      refine TP.skip0 rfl rfl rfl ?_
      exact TP.nil
     refine JQ.then_normal (JC.g ?_)
     refine J.a .is rfl (J.e (JC.block ?_))
     refine JC.loop3 (α := Nat) (β := Nat) (γ := Pol) (fun n k r => [(5, X7 b5 0), (8, X7 b8 0), (9, X7 b9 0), (10, tIs (.int .i64 (n : Int)))]) (fun n k r => [⟨b9, 28, cTs (pT r)⟩, ⟨b8, 28, cTs (pT (msign g))⟩, ⟨b5, 28, cTs zP⟩, ⟨b3, 28, cTs (pT f)⟩, ⟨b2, 28, cTs (pT g)⟩]) (fun n k r => StI (msign g) f l D B (gM 4 D E u) n k r ∧ n + k = D ∧ stripF (msign g) k n r = stripF (msign g) D 0 f) (fun n k r => k) 0 D f ⟨StI.of pf hb.1 hS.v4 hz, by omega, rfl⟩ ?lsub0 ?round0
     case lsub0 => exact Q8 (X3 (.k (.k (.k (.k (.k .nil)))))) (Z3 ⟨.t rfl, .t rfl, .t rfl, .eq (.t rfl) (by first | rfl | (congr 3; omega) | (congr 2; omega)), trivial⟩)
     intro n k r hinv
     obtain ⟨hI, hnk, hst⟩ := hinv
     have hk1 := hI.pos hS.v4
     have hng : n * gM 4 D E u ≤ D * gM 4 D E u := Nat.mul_le_mul_right _ (by omega)
     refine JC.seq (JC.block (JC.g (J.o (oa (.t rfl) (.head _) Z9 (Q6 (g := Y4) (y := r) (Q0 r).symm rfl)) rfl (J.o (oa (.t rfl) (.tail _ (.head _)) Z9 (Q6 (g := Y4) (y := (msign g)) (Q0 (msign g)).symm rfl)) rfl ?_))))
     refine J.o (oc fn28 (pExact_c r (msign g) hI.pg ph hS.nr (Rm.down hb.1 (Nat.le_refl _) (by omega) rm)) (.cons (.t rfl) (.cons (.t rfl) .nil))) rfl (J.M rfl rfl ?_)
     refine J.o (Z1 (.t rfl) rfl) rfl ?_
     refine J.o (Z1 (.t rfl) rfl) rfl ?_
     refine J.alloc (R := cTs zP) W9 (fun _ => ⟨rfl, rfl, rfl, rfl, Q9 _ _, rfl, Q9 _ _, rfl, trivial⟩) (ltN rfl) fun b11 => ?_
     refine J.store (.t rfl) (.eq (.t rfl) (K2 (Ts := (pT (exQ r (msign g)))) (Q0 _))) .here U4 (Z4 (Ts' := (pT (exQ r (msign g)))) (o := 0) rfl) (J.A rfl rfl (J.e (JC.seq (JC.g (J.M rfl rfl (J.o (ot_neq (.t rfl) .is) rfl (J.e ?_)))))))
     refine JC.cond (.t rfl) (fun hc2 => ?_) (fun hc2 => ?_)
     ·try simp only [bsx] at hc2
      have hs37 := hc2
      have hx := (exE_three hS.nz hs37).2.2.2
      rw [strip_end hx] at hst
      refine JC.seq ?_
      refine JC.weak (Γ' := [(37, tIs (.bool (!decide ((exE r (msign g)) = 0)))), (36, tIs (.int .i64 (exE r (msign g)))), (12, tIs (.int .i64 (exE r (msign g)))), (11, X7 b11 0), (35, tIs (.int .i64 (exE r (msign g)))), (34, tV Q5 (exQ r (msign g))), (30, V5 [tV Q5 (exQ r (msign g)), tIs (.int .i64 (exE r (msign g)))]), (33, V5 [tV Q5 (exQ r (msign g)), tIs (.int .i64 (exE r (msign g)))]), (32, tV Q5 (msign g)), (31, tV Q5 r), (5, X7 b5 0), (8, X7 b8 0), (9, X7 b9 0), (10, tIs (.int .i64 (n : Int)))]) (H' := [⟨b11, 28, cTs (pT (exQ r (msign g)))⟩, ⟨b9, 28, cTs (pT r)⟩, ⟨b8, 28, cTs (pT (msign g))⟩, ⟨b5, 28, cTs zP⟩, ⟨b3, 28, cTs (pT f)⟩, ⟨b2, 28, cTs (pT g)⟩]) (Q8 (X3 (.k (.k (.k (.k (.k (.k .nil))))))) (Z3 ⟨.t rfl, .t rfl, .t rfl, .t rfl, .t rfl, .t rfl, .t rfl, .t rfl, .t rfl, .t rfl, .t rfl, .t rfl, .t rfl, .t rfl, trivial⟩)) ?_
      refine JC.drawP (Ts := [tIs (.int .i64 (n : Int)), tV Q5 r, tIs (.int .i64 (n : Int)), K5, K5]) (un := (fun i => [3].contains i)) mo (by kernel_rfl) ?_
      refine RP.step (al := (fun i => [0, 1, 2].contains i)) (Γn := [(4, tIs (.int .i64 (n : Int))), (39, tV Q5 r), (38, tIs (.int .i64 (n : Int))), (37, tIs (.bool (!decide ((exE r (msign g)) = 0)))), (36, tIs (.int .i64 (exE r (msign g)))), (12, tIs (.int .i64 (exE r (msign g)))), (11, X7 b11 0), (35, tIs (.int .i64 (exE r (msign g)))), (34, tV Q5 (exQ r (msign g))), (30, V5 [tV Q5 (exQ r (msign g)), tIs (.int .i64 (exE r (msign g)))]), (33, V5 [tV Q5 (exQ r (msign g)), tIs (.int .i64 (exE r (msign g)))]), (32, tV Q5 (msign g)), (31, tV Q5 r), (5, X7 b5 0), (8, X7 b8 0), (9, X7 b9 0), (10, tIs (.int .i64 (n : Int)))]) (Γ' := ?pg7) 3 (by kernel_rfl) (by kernel_rfl) ?tp7 ?nx7
      case tp7 =>
       refine TP.op (Y0 (.t rfl)) rfl (ltN rfl) rfl rfl ?_
       refine TP.op (oa (.t rfl) (.tail _ (.head _)) Z9 (Q6 (g := Y4) (y := r) (Q0 r).symm rfl)) rfl (ltN rfl) rfl rfl ?_
       refine TP.op (Y2 (.t rfl)) rfl (ltN rfl) rfl rfl ?_
       refine TP.at0 rfl rfl ?_
       refine TP.skip rfl rfl rfl ?_
       exact TP.nil
      case nx7 =>
      refine OneStep.mk (ι := Unit) (Hb := fun κ => [⟨b11, 28, cTs (pT (exQ r (msign g)))⟩, ⟨b9, 28, cTs (pT r)⟩, ⟨b8, 28, cTs (pT (msign g))⟩, ⟨b5, 28, cTs (pT r)⟩, ⟨b3, 28, cTs (pT f)⟩, ⟨b2, 28, cTs (pT g)⟩]) (Tb := fun κ => [tIs (.int .i64 (n : Int)), tV Q5 r, tIs (.int .i64 (n : Int)), K5, tIs (.int .i64 0)]) (fun i => [0, 1, 2, 3].contains i) (fun _ => false) rfl rfl (fun _ => ⟨.inr rfl, ⟨.inr rfl, ⟨.inr rfl, ⟨.inl rfl, ⟨.inl rfl, trivial⟩⟩⟩⟩⟩) (by kernel_rfl) ?op7_3 ?mx7_3
      case op7_3 =>
       intro Γx hx
       refine J.store (.move hx (.t rfl) (by kernel_rfl)) (.eq (.move hx (.t rfl) (by kernel_rfl)) (K2 (Ts := (pT r)) (Q0 _))) (.there (.there (.there .here))) U4 (Z4 (Ts' := (pT r)) (o := 0) rfl) ?_
       exact J.midP (Hb := fun κ => [⟨b11, 28, cTs (pT (exQ r (msign g)))⟩, ⟨b9, 28, cTs (pT r)⟩, ⟨b8, 28, cTs (pT (msign g))⟩, ⟨b5, 28, cTs (pT r)⟩, ⟨b3, 28, cTs (pT f)⟩, ⟨b2, 28, cTs (pT g)⟩]) (Tb := fun κ => [tIs (.int .i64 (n : Int)), tV Q5 r, tIs (.int .i64 (n : Int)), K5, tIs (.int .i64 0)]) (n := 3) () rfl
      case mx7_3 =>
       intro _
       refine RP.last (al := (fun i => [4].contains i)) (Γn := []) (Γ' := [(6, tIs (.int .i64 0)), (4, tIs (.int .i64 (n : Int))), (39, tV Q5 r), (38, tIs (.int .i64 (n : Int))), (37, tIs (.bool (!decide ((exE r (msign g)) = 0)))), (36, tIs (.int .i64 (exE r (msign g)))), (12, tIs (.int .i64 (exE r (msign g)))), (11, X7 b11 0), (35, tIs (.int .i64 (exE r (msign g)))), (34, tV Q5 (exQ r (msign g))), (30, V5 [tV Q5 (exQ r (msign g)), tIs (.int .i64 (exE r (msign g)))]), (33, V5 [tV Q5 (exQ r (msign g)), tIs (.int .i64 (exE r (msign g)))]), (32, tV Q5 (msign g)), (31, tV Q5 r), (5, X7 b5 0), (8, X7 b8 0), (9, X7 b9 0), (10, tIs (.int .i64 (n : Int)))]) (by kernel_rfl) (by kernel_rfl) ?tp8 ?_
       case tp8 =>
        refine TP.skip rfl rfl rfl ?_
        refine TP.skip rfl rfl rfl ?_
        refine TP.skip rfl rfl rfl ?_
        refine TP.skip0 rfl rfl rfl ?_
        refine TP.op (Y2 .is) rfl (ltN rfl) rfl rfl ?_
        exact TP.nil
       refine JQ.then_normal (JC.ret (JQ.then_ret (JQ.block_ret (JQ.then_ret (JQ.then_ret (JQ.block_ret ?_))))))
       exact JQ.ret3 rfl (.tmp (.eq (.t rfl) (by rw [s1, ← hst]))) (.agg (.t rfl) (.tail _ (.tail _ (.tail _ (.head _)))) Z9 (U3 (T := tV Q5 r) (T' := tV Q5 ((V8 D g f).2)) (by rw [s1, ← hst]) (Q6 (g := Y4) (y := r) (Q0 r).symm rfl))) (.tmp (.eq (.t rfl) (by rw [s2])))
     ·try simp only [bsx] at hc2
      have hs37 := hc2
      have hx := exE_zero hS.nz (by simpa using hs37)
      refine JC.skip (JQ.then_normal (JC.region (J.o (oa (.t rfl) (.head _) Z9 (Q6 (g := Y4) (y := (exQ r (msign g))) (Q0 (exQ r (msign g))).symm rfl)) rfl ?_)))
      refine J.store (.t rfl) (.eq (.t rfl) (K2 (Ts := (pT (exQ r (msign g)))) (Q0 _))) (.there .here) U4 (Z4 (Ts' := (pT (exQ r (msign g)))) (o := 0) rfl) (J.nil (JQ.block_normal (JQ.then_normal (JC.region (J.M rfl rfl ?_)))))
      refine J.o (Z6 (.t rfl) .is (w64 (by omega) (by omega))) rfl (J.A rfl rfl (J.nil ?_))
      exact JQ.round3 (i := n) (i2 := k) (i3 := r) (n + 1) (k - 1) (exQ r (msign g)) ⟨(hI.step hS hb.1 hb.2.1 hx).2, by omega, by rw [strip_step hx hk1]; exact hst⟩ (by omega) (Q8 (X3 (.drop (.k (.k (.k (.k (.k .nil))))))) (Z3 ⟨.t rfl, .t rfl, .t rfl, .eq (.t rfl) (by first | rfl | (congr 3; omega) | (congr 2; omega)), trivial⟩))

theorem mult_c {E u B : Nat} (D : Nat) (g f : Pol) (pf : Pg D B f) (pg : Pg E u g) (ng : nrm g + 2 ≤ B32 ^ u) (rm : Rm 4 D E u (B + D * gM 4 D E u)) (hE : (E + 1) ^ 4 ≤ 1000000000) : Ctr Try.prog 41 [tV Q5 g, tV Q5 f] (V5 [tIs (.int .i64 (((V8 D g f).1 : Int))), tIs (.int .i64 (stE g f))]) := by
 refine Ctr.of Try.func41 rfl Try.ntmps41 (Nat.le_of_ble_eq_true rfl) fun w0 M0 => (JC.g ?_)
 refine J.boxF (Ts := (pT g)) (.t rfl) (Q0 _) (ltN rfl) fun b2 => ?_
 refine J.boxF (Ts := (pT f)) (.t rfl) (Q0 _) (ltN rfl) fun b3 => ?_
 refine J.a .is rfl ?_
 refine J.a .is rfl (J.e (JC.g (J.o (oa (.t rfl) (.tail _ (.head _)) Z9 (Q6 (g := Y4) (y := g) (Q0 g).symm rfl)) rfl (J.o (oa (.t rfl) (.head _) Z9 (Q6 (g := Y4) (y := f) (Q0 f).symm rfl)) rfl ?_))))
 refine J.o (oc fn86 (strip_c D g f pf pg ng rm hE) (.cons (.t rfl) (.cons (.t rfl) .nil))) rfl (J.M rfl rfl ?_)
 refine J.o (Z1 (.t rfl) rfl) rfl ?_
 refine J.o (Z1 (.t rfl) rfl) rfl ?_
 refine J.o (Z1 (.t rfl) rfl) rfl ?_
 refine J.alloc (R := cTs zP) W9 (fun _ => ⟨rfl, rfl, rfl, rfl, Q9 _ _, rfl, Q9 _ _, rfl, trivial⟩) (ltN rfl) fun b7 => (J.A rfl rfl ?_)
 refine J.store (.t rfl) (.eq (.t rfl) (K2 (Ts := (pT ((V8 D g f).2))) (Q0 _))) .here U4 (Z4 (Ts' := (pT ((V8 D g f).2))) (o := 0) rfl) (J.A rfl rfl (J.e (JC.g (J.M rfl rfl (J.M rfl rfl (J.A rfl rfl (J.A rfl rfl (J.e (JC.ret ?_)))))))))
 exact JQ.ret2 rfl (.tmp (.t rfl)) (.tmp (.t rfl))

theorem without_c {E u B : Nat} (D : Nat) (g f : Pol) (pf : Pg D B f) (pg : Pg E u g) (ng : nrm g + 2 ≤ B32 ^ u) (rm : Rm 4 D E u (B + D * gM 4 D E u)) (hE : (E + 1) ^ 4 ≤ 1000000000) (hD : (D + 1) ^ 4 ≤ 1000000000) : Ctr Try.prog 42 [tV Q5 f, tV Q5 g] (V5 [tV Q5 ((if stE g f = 0 then msign (V8 D g f).2 else p0)), tIs (.int .i64 (stE g f))]) := by
 have hb := rm.base
 have hgl := pg.can.lev.lv
 refine Ctr.of Try.func42 rfl Try.ntmps42 (Nat.le_of_ble_eq_true rfl) fun w0 M0 => (JC.g ?_)
 refine J.boxF (Ts := (pT f)) (.t rfl) (Q0 _) (ltN rfl) fun b2 => ?_
 refine J.boxF (Ts := (pT g)) (.t rfl) (Q0 _) (ltN rfl) fun b3 => ?_
 refine J.alloc (R := cTs zP) W9 (fun _ => ⟨rfl, rfl, rfl, rfl, Q9 _ _, rfl, Q9 _ _, rfl, trivial⟩) (ltN rfl) fun b4 => ?_
 refine J.a .is rfl (J.e (JC.g (J.o (oa (.t rfl) (.tail _ (.head _)) Z9 (Q6 (g := Y4) (y := g) (Q0 g).symm rfl)) rfl (J.o (oa (.t rfl) (.tail _ (.tail _ (.head _))) Z9 (Q6 (g := Y4) (y := f) (Q0 f).symm rfl)) rfl ?_))))
 refine J.o (oc fn86 (strip_c D g f pf pg ng rm hE) (.cons (.t rfl) (.cons (.t rfl) .nil))) rfl (J.M rfl rfl ?_)
 refine J.o (Z1 (.t rfl) rfl) rfl ?_
 refine J.o (Z1 (.t rfl) rfl) rfl ?_
 refine J.o (Z1 (.t rfl) rfl) rfl ?_
 refine J.alloc (R := cTs zP) W9 (fun _ => ⟨rfl, rfl, rfl, rfl, Q9 _ _, rfl, Q9 _ _, rfl, trivial⟩) (ltN rfl) fun b7 => (J.A rfl rfl ?_)
 refine J.store (.t rfl) (.eq (.t rfl) (K2 (Ts := (pT ((V8 D g f).2))) (Q0 _))) .here U4 (Z4 (Ts' := (pT ((V8 D g f).2))) (o := 0) rfl) (J.A rfl rfl (J.e (JC.seq (JC.g (J.M rfl rfl (J.o (ot_neq (.t rfl) .is) rfl (J.e ?_)))))))
 refine JC.cond (.t rfl) (fun hc0 => ?_) (fun hc0 => ?_)
 ·try simp only [bsx] at hc0
  have hs17 := hc0
  refine (JC.g ?_)
  refine J.o (X9 (T' := tV Q5 (Pol.mk 0 (Z.mk false ([])) ([]))) (V7 (Ts := zP) pl28 (fun _ => ⟨rfl, rfl, rfl, rfl, Q9 _ _, rfl, Q9 _ _, rfl, trivial⟩) (.nil) rfl) (tV_F' (Q0 _))) rfl (J.M rfl rfl ?_)
  refine J.store (.t rfl) (.eq (.t rfl) (K2 (Ts := zP) (Q0 _))) (.there .here) U4 (Z4 (Ts' := zP) (o := 0) rfl) (J.A rfl rfl (J.e (JC.ret (JQ.then_ret ?_))))
  exact JQ.ret2 rfl (.agg (.t rfl) (.tail _ (.head _)) Z9 (U3 (T := tV Q5 (Pol.mk 0 (Z.mk false ([])) ([]))) (T' := tV Q5 ((if stE g f = 0 then msign (V8 D g f).2 else p0))) (by rw [if_neg (by simpa using hs17)]; rfl) (Q6 (g := Y4) (y := (Pol.mk 0 (Z.mk false ([])) ([]))) (Q0 (Pol.mk 0 (Z.mk false ([])) ([]))).symm rfl))) (.tmp (.t rfl))
 ·try simp only [bsx] at hc0
  have hs17 := hc0
  have he : stE g f = 0 := by simpa using hs17
  obtain ⟨hr, hrz⟩ := stR_pg pf pg ng hb.1 hb.2.1 trivial he
  refine JC.skip (JQ.then_normal (JC.g (J.o (oa (.t rfl) (.head _) Z9 (Q6 (g := Y4) (y := ((V8 D g f).2)) (Q0 ((V8 D g f).2)).symm rfl)) rfl ?_)))
  refine J.o (oc fn21 (msign_c ((V8 D g f).2) (hr.fit (by omega)) hr.nr (hr.cnt_le hD) (by omega) (hr.terms_le hb.1 hD) (by rw [norm_can hr.can]; exact R5 hrz)) (.cons (.t rfl) .nil)) rfl ?_
  refine J.store (.t rfl) (.eq (.t rfl) (K2 (Ts := (pT (msign ((V8 D g f).2)))) (Q0 _))) (.there .here) U4 (Z4 (Ts' := (pT (msign ((V8 D g f).2)))) (o := 0) rfl) ?_
  refine J.a .is rfl (J.e (JC.ret ?_))
  exact JQ.ret2 rfl (.agg (.t rfl) (.tail _ (.head _)) Z9 (U3 (T := tV Q5 (msign ((V8 D g f).2))) (T' := tV Q5 ((if stE g f = 0 then msign (V8 D g f).2 else p0))) (by rw [if_pos he]) (Q6 (g := Y4) (y := (msign ((V8 D g f).2))) (Q0 (msign ((V8 D g f).2))).symm rfl))) (.tmp (.eq (.t rfl) (by rw [he])))

theorem times24_c {D E B C : Nat} (p q : Pol) (n : Int) (N : Nat) (hp : Pg D B p) (hq : Pg E C q) (hn : n = (N : Int)) (hN : N < 64) (hD : 1 ≤ D) (hE : 1 ≤ E) (hb : (2 + 2 * (E * N) ≤ 4294967296 ∧ 2 + 2 * (C * N) ≤ 40000000000 ∧ E ≤ 4294967296 ∧ C ≤ 40000000000) ∧ D + E * N + 1 ≤ 4294967296 ∧ B + C * N + 1 ≤ 40000000000) : Ctr Try.prog 43 [tV Q5 p, tV Q5 q, tIs (.int .i64 n)] (tV Q5 (K3 4 p (K1 q N))) := by
 have hpw := powP_pg hq hE N
 refine Ctr.of Try.func43 rfl Try.ntmps43 (Nat.le_of_ble_eq_true rfl) fun w0 M0 => (JC.g ?_)
 refine J.boxF (Ts := (pT p)) (.t rfl) (Q0 _) (ltN rfl) fun b3 => ?_
 refine J.boxF (Ts := (pT q)) (.t rfl) (Q0 _) (ltN rfl) fun b4 => ?_
 refine J.alloc (R := cTs zP) W9 (fun _ => ⟨rfl, rfl, rfl, rfl, Q9 _ _, rfl, Q9 _ _, rfl, trivial⟩) (ltN rfl) fun b6 => (J.e (JC.seq ?_))
 refine JC.drawAt (Γ' := ?g1) 5 mo (by kernel_rfl) ?tw1 ?k1
 case tw1 =>
  refine TW.o (oa (.t rfl) (.tail _ (.tail _ (.head _))) Z9 (Q6 (g := Y4) (y := p) (Q0 p).symm rfl)) rfl (TW.o (oa (.t rfl) (.tail _ (.head _)) Z9 (Q6 (g := Y4) (y := q) (Q0 q).symm rfl)) rfl (TW.M rfl rfl ?_))
  refine TW.o (oc fn69 (pow_c q n N hq hn hN hE hb.1) (.cons (.t rfl) (.cons (.t rfl) .nil))) rfl ?_
  refine TW.o (oc fn29 (mulK_c p (K1 q N) hp hpw ⟨⟨hD, by omega, by omega⟩, by omega⟩) (.cons (.t rfl) (.cons (.t rfl) .nil))) rfl ?_
  exact TW.nil
 refine J.store (.t rfl) (.eq (.t rfl) (K2 (Ts := (pT (K3 4 p (K1 q N)))) (Q0 _))) .here U4 (Z4 (Ts' := (pT (K3 4 p (K1 q N)))) (o := 0) rfl) (J.e (JC.ret ?_))
 exact JQ.ret1 rfl (.agg (.t rfl) (.head _) Z9 (Q6 (g := Y4) (y := (K3 4 p (K1 q N))) (Q0 (K3 4 p (K1 q N))).symm rfl))

theorem pseudoMult_c (p q : List Tm) (n : Int) (hdp : ∀ t ∈ p, U7 t.coef.abs) (hdq : ∀ t ∈ q, U7 t.coef.abs) (hn : 0 ≤ n ∧ n ≤ 255) : Ctr Try.prog 8 [tSl X5 p, tSl X5 q, tIs (.int .u8 n)] (tIs (.bool true)) := by
 have hi : (n.toNat % 4) < 4 := Nat.mod_lt _ (by decide)
 refine Ctr.of Try.func8 rfl Try.ntmps8 (Nat.le_of_ble_eq_true rfl) fun w0 M0 => (JC.g ?_)
 refine J.a .is rfl (J.e (JC.seq (JC.g ?_)))
 refine J.o (oc fn25 (fit24_c  ) .nil) rfl (J.o (ot_not (.t rfl)) rfl (J.e ?_))
 refine JC.cond_false (.eq (.t rfl) (by rfl)) (JC.skip (JQ.then_normal (JC.seq (JC.g (J.M rfl rfl ?_)))))
 refine J.o (oc fn26 (few24_c p 5 3 (by omega)) (.cons (.t rfl) (.cons .is (.cons .is .nil)))) rfl (J.o (ot_not (.t rfl)) rfl (J.M rfl rfl ?_))
 refine J.opg rfl rfl rfl (ltN rfl) (fun hg => Y0 (.t rfl)) rfl (ltN rfl) ?_
 refine J.opg rfl rfl rfl (ltN rfl) (fun hg => (by have hg' := hg; (try simp only [bsx] at hg'); exact oc fn26 (few24_c q 4 2 (by omega)) (.cons (.iff hg (.t rfl)) (.cons .is (.cons .is .nil))))) rfl (ltN rfl) ?_
 refine J.opg rfl rfl rfl (ltN rfl) (fun hg => ot_not (.iff hg (.t rfl))) rfl (ltN rfl) ?_
 refine J.o (ot_or2 (.t rfl) .is (.t rfl)) rfl (J.e ?_)
 refine JC.cond (.t rfl) (fun hc1 => ?_) (fun hc1 => ?_)
 ·try simp only [bsx] at hc1
  have hs27 := hc1
  refine (JC.g ?_)
  refine J.a .is rfl (J.e (JC.ret (JQ.then_ret ?_)))
  exact JQ.ret1 rfl (.tmp (.t rfl))
 ·try simp only [bsx] at hc1
  have hs27 := hc1
  obtain ⟨w1, w2⟩ := hs27
  have hP := ofFew hdp w1 (by decide) (D := 4) (by decide) (by decide) (by decide)
  have hQ := ofFew hdq w2 (by decide) (D := 3) (by decide) (by decide) (by decide)
  have hGM : 5 + 4 * gM 4 4 3 5 ≤ 500000000 := by decide
  have hGM2 : 21 + 10 * gM 4 10 3 5 ≤ 500000000 := by decide
  have hi2 := Nat.mul_le_mul_left 2 (show (n.toNat % 4) ≤ 3 by omega)
  have hi5 := Nat.mul_le_mul_left 5 (show (n.toNat % 4) ≤ 3 by omega)
  have hpw : Pg 10 21 (K3 4 (ofS (Q4 p)) (K1 (ofS (Q4 q)) (n.toNat % 4))) := (hP.pg.mulT (powP_pgT hQ.pg (by decide) (n.toNat % 4)) (by decide) (by omega)).mono (by omega) (by omega)
  refine JC.skip (JQ.then_normal (JC.g (J.M rfl rfl ?_)))
  refine J.o (oc fn27 (ofG_c p hP.hl hdp hP.hz (by decide) hP.hm hP.hc (by decide)) (.cons (.t rfl) .nil)) rfl (J.M rfl rfl ?_)
  refine J.o (oc fn27 (ofG_c q hQ.hl hdq hQ.hz (by decide) hQ.hm hQ.hc (by decide)) (.cons (.t rfl) .nil)) rfl ?_
  refine J.alloc (R := cTs zP) W9 (fun _ => ⟨rfl, rfl, rfl, rfl, Q9 _ _, rfl, Q9 _ _, rfl, trivial⟩) (ltN rfl) fun b7 => ?_
  refine J.alloc (R := cTs zP) W9 (fun _ => ⟨rfl, rfl, rfl, rfl, Q9 _ _, rfl, Q9 _ _, rfl, trivial⟩) (ltN rfl) fun b8 => ?_
  refine J.store (.t rfl) (.eq (.t rfl) (K2 (Ts := (pT (ofS (Q4 p)))) (Q0 _))) (.there .here) U4 (Z4 (Ts' := (pT (ofS (Q4 p)))) (o := 0) rfl) ?_
  refine J.store (.t rfl) (.eq (.t rfl) (K2 (Ts := (pT (ofS (Q4 q)))) (Q0 _))) .here U4 (Z4 (Ts' := (pT (ofS (Q4 q)))) (o := 0) rfl) (J.e (JC.g (J.o (oa (.t rfl) (.head _) Z9 (Q6 (g := Y4) (y := (ofS (Q4 q))) (Q0 (ofS (Q4 q))).symm rfl)) rfl (J.o (oa (.t rfl) (.tail _ (.head _)) Z9 (Q6 (g := Y4) (y := (ofS (Q4 p))) (Q0 (ofS (Q4 p))).symm rfl)) rfl ?_))))
  refine J.o (oc fn41 (mult_c 4 (ofS (Q4 q)) (ofS (Q4 p)) hP.pg hQ.pg hQ.ng rm_wo (by decide)) (.cons (.t rfl) (.cons (.t rfl) .nil))) rfl (J.M rfl rfl ?_)
  refine J.o (Z1 (.t rfl) rfl) rfl ?_
  refine J.o (Z1 (.t rfl) rfl) rfl (J.A rfl rfl (J.A rfl rfl (J.e (JC.g (J.o (oa (.t rfl) (.tail _ (.head _)) Z9 (Q6 (g := Y4) (y := (ofS (Q4 p))) (Q0 (ofS (Q4 p))).symm rfl)) rfl (J.o (oa (.t rfl) (.head _) Z9 (Q6 (g := Y4) (y := (ofS (Q4 q))) (Q0 (ofS (Q4 q))).symm rfl)) rfl ?_))))))
  refine J.o (oc fn42 (without_c 4 (ofS (Q4 q)) (ofS (Q4 p)) hP.pg hQ.pg hQ.ng rm_wo (by decide) (by decide)) (.cons (.t rfl) (.cons (.t rfl) .nil))) rfl (J.M rfl rfl ?_)
  refine J.o (Z1 (.t rfl) rfl) rfl ?_
  refine J.o (Z1 (.t rfl) rfl) rfl ?_
  refine J.alloc (R := cTs zP) W9 (fun _ => ⟨rfl, rfl, rfl, rfl, Q9 _ _, rfl, Q9 _ _, rfl, trivial⟩) (ltN rfl) fun b11 => ?_
  refine J.store (.t rfl) (.eq (.t rfl) (K2 (Ts := (pT (if stE (ofS (Q4 q)) (ofS (Q4 p)) = 0 then msign (V8 4 (ofS (Q4 q)) (ofS (Q4 p))).2 else p0))) (Q0 _))) .here U4 (Z4 (Ts' := (pT (if stE (ofS (Q4 q)) (ofS (Q4 p)) = 0 then msign (V8 4 (ofS (Q4 q)) (ofS (Q4 p))).2 else p0))) (o := 0) rfl) (J.A rfl rfl (J.e (JC.seq (JC.g (J.M rfl rfl (J.M rfl rfl (J.o (ot_neq (.t rfl) (.t rfl)) rfl (J.e ?_))))))))
  refine JC.cond_false (.eq (.t rfl) (by simp)) (JC.skip (JQ.then_normal (JC.seq (JC.block (JC.g (J.o (oa (.t rfl) (.tail _ (.tail _ (.head _))) Z9 (Q6 (g := Y4) (y := (ofS (Q4 p))) (Q0 (ofS (Q4 p))).symm rfl)) rfl ?_))))))
  refine J.o (oc fn30 (isZeroK_c (ofS (Q4 p)) hP.pg ⟨by decide, by decide⟩) (.cons (.t rfl) .nil)) rfl (J.A rfl rfl (J.e ?_))
  refine JC.cond (.t rfl) (fun hc3 => ?_) (fun hc3 => ?_)
  ·try simp only [bsx] at hc3
   have hs47 := hc3
   have hz : Z5 (ofS (Q4 p)) = true := by simpa using hs47
   obtain ⟨s1, s2⟩ := stNR_zero (D := 4) (g := (ofS (Q4 q))) hz
   refine (JC.g (J.M rfl rfl (J.o (U5 (.t rfl) .is) rfl (J.M rfl rfl ?_))))
   refine J.opg rfl rfl rfl (ltN rfl) (fun hg => Y0 (.t rfl)) rfl (ltN rfl) ?_
   refine J.opg rfl rfl rfl (ltN rfl) (fun hg => U5 (.iff hg (.t rfl)) .is) rfl (ltN rfl) ?_
   refine J.o (R4 (.t rfl) (.t rfl) .is) rfl (J.M rfl rfl ?_)
   refine J.opg rfl rfl rfl (ltN rfl) (fun hg => oa (.t rfl) (.head _) Z9 (Q6 (g := Y4) (y := (if stE (ofS (Q4 q)) (ofS (Q4 p)) = 0 then msign (V8 4 (ofS (Q4 q)) (ofS (Q4 p))).2 else p0)) (Q0 (if stE (ofS (Q4 q)) (ofS (Q4 p)) = 0 then msign (V8 4 (ofS (Q4 q)) (ofS (Q4 p))).2 else p0)).symm rfl)) rfl (ltN rfl) ?_
   refine J.opg rfl rfl rfl (ltN rfl) (fun hg => oc fn30 (isZeroK_c (if stE (ofS (Q4 q)) (ofS (Q4 p)) = 0 then msign (V8 4 (ofS (Q4 q)) (ofS (Q4 p))).2 else p0) (by rw [s2, if_neg (by decide)]; exact (pg_p0 : Pg 4 5 p0)) ⟨by decide, by decide⟩) (.cons (.iff hg (.t rfl)) .nil)) rfl (ltN rfl) ?_
   refine J.o (R4 (.t rfl) (.t rfl) .is) rfl (J.A rfl rfl (J.e (JC.ret (JQ.block_ret (JQ.then_ret ?_)))))
   exact JQ.ret1 rfl (.tmp (.eq (.t rfl) (by rw [s1, s2, if_neg (by decide), zeroP_p0]; rfl)))
  ·try simp only [bsx] at hc3
   have hs47 := hc3
   have hz : Z5 (ofS (Q4 p)) = false := by simpa using hs47
   refine (JC.g (J.o (oa (.t rfl) (.tail _ (.head _)) Z9 (Q6 (g := Y4) (y := (ofS (Q4 q))) (Q0 (ofS (Q4 q))).symm rfl)) rfl ?_))
   refine J.o (oc fn38 (level_c (ofS (Q4 q)) hQ.pg ⟨by decide, by decide⟩) (.cons (.t rfl) .nil)) rfl (J.o (U5 (.t rfl) .is) rfl (J.A rfl rfl (J.e ?_)))
   refine JC.cond (.t rfl) (fun hc4 => ?_) (fun hc4 => ?_)
   ·try simp only [bsx] at hc4
    have hs60 := hc4
    obtain ⟨s1, s2⟩ := stNR_const (D := 4) hz hs60
    refine (JC.g (J.M rfl rfl (J.o (U5 (.t rfl) .is) rfl (J.M rfl rfl ?_))))
    refine J.opg rfl rfl rfl (ltN rfl) (fun hg => Y0 (.t rfl)) rfl (ltN rfl) ?_
    refine J.opg rfl rfl rfl (ltN rfl) (fun hg => U5 (.iff hg (.t rfl)) .is) rfl (ltN rfl) ?_
    refine J.o (R4 (.t rfl) (.t rfl) .is) rfl (J.M rfl rfl ?_)
    refine J.opg rfl rfl rfl (ltN rfl) (fun hg => oa (.t rfl) (.head _) Z9 (Q6 (g := Y4) (y := (if stE (ofS (Q4 q)) (ofS (Q4 p)) = 0 then msign (V8 4 (ofS (Q4 q)) (ofS (Q4 p))).2 else p0)) (Q0 (if stE (ofS (Q4 q)) (ofS (Q4 p)) = 0 then msign (V8 4 (ofS (Q4 q)) (ofS (Q4 p))).2 else p0)).symm rfl)) rfl (ltN rfl) ?_
    refine J.opg rfl rfl rfl (ltN rfl) (fun hg => oc fn30 (isZeroK_c (if stE (ofS (Q4 q)) (ofS (Q4 p)) = 0 then msign (V8 4 (ofS (Q4 q)) (ofS (Q4 p))).2 else p0) (by rw [s2, if_neg (by decide)]; exact (pg_p0 : Pg 4 5 p0)) ⟨by decide, by decide⟩) (.cons (.iff hg (.t rfl)) .nil)) rfl (ltN rfl) ?_
    refine J.o (R4 (.t rfl) (.t rfl) .is) rfl (J.A rfl rfl (J.e (JC.ret (JQ.block_ret (JQ.then_ret ?_)))))
    exact JQ.ret1 rfl (.tmp (.eq (.t rfl) (by rw [s1, s2, if_neg (by decide), zeroP_p0]; rfl)))
   ·try simp only [bsx] at hc4
    have hs60 := hc4
    have hg : ¬ (ofS (Q4 q)).lv = 0 := by simpa using hs60
    obtain ⟨he, pw, wz, hk, _, _, _⟩ := st_law hP.pg hQ.pg hQ.ng (by decide) (by decide) hz hg
    obtain ⟨e1, e2, e3, e4⟩ := mult_law hP.pg hQ.pg hQ.ng hpw (by decide) (by decide) (by decide) hz hg
    refine JC.skip (JQ.block_normal (JQ.then_normal (JC.g (J.M rfl rfl ?_))))
    refine J.o (ot_rem (.t rfl) .is (by omega) rfl) rfl ?_
    refine J.o (K7 (.t rfl) un3 (by kernel_rfl) (u8_rem hn)) rfl (J.A rfl rfl (J.e (JC.seq ?_)))
    refine JC.draw (Γ' := ?g1) mo (by kernel_rfl) ?tw1 ?k1
    case tw1 =>
     refine TW.o (oa (.t rfl) (.tail _ (.head _)) Z9 (Q6 (g := Y4) (y := (ofS (Q4 q))) (Q0 (ofS (Q4 q))).symm rfl)) rfl (TW.o (oa (.t rfl) (.tail _ (.tail _ (.head _))) Z9 (Q6 (g := Y4) (y := (ofS (Q4 p))) (Q0 (ofS (Q4 p))).symm rfl)) rfl (TW.o (oa (.t rfl) (.tail _ (.head _)) Z9 (Q6 (g := Y4) (y := (ofS (Q4 q))) (Q0 (ofS (Q4 q))).symm rfl)) rfl (TW.M rfl rfl ?_)))
     refine TW.o (oc fn43 (times24_c (ofS (Q4 p)) (ofS (Q4 q)) (((n.toNat % 4) : Nat) : Int) (n.toNat % 4) hP.pg hQ.pg rfl (by omega) (by decide) (by decide) ⟨⟨by omega, by omega, by decide, by decide⟩, by omega, by omega⟩) (.cons (.t rfl) (.cons (.t rfl) (.cons (.t rfl) .nil)))) rfl ?_
     refine TW.o (X9 (T' := V5 [tIs (.int .i64 ((((V8 4 (ofS (Q4 q)) (ofS (Q4 p))).1 + (n.toNat % 4) : Nat) : Int))), tIs (.int .i64 0)]) (oc fn41 (mult_c 10 (ofS (Q4 q)) (K3 4 (ofS (Q4 p)) (K1 (ofS (Q4 q)) (n.toNat % 4))) hpw hQ.pg hQ.ng rm_mu (by decide)) (.cons (.t rfl) (.cons (.t rfl) .nil))) (by rw [e1, e2])) rfl (TW.M rfl rfl ?_)
     refine TW.o (Z1 (.t rfl) rfl) rfl ?_
     refine TW.o (Z1 (.t rfl) rfl) rfl ?_
     refine TW.o (Y2 (.t rfl)) rfl ?_
     refine TW.o (Y2 (.t rfl)) rfl ?_
     exact TW.nil
    refine JQ.then_normal (JC.seq ?_)
    refine JC.weak (Γ' := [(14, tIs (.int .i64 ((((V8 4 (ofS (Q4 q)) (ofS (Q4 p))).1 + (n.toNat % 4) : Nat) : Int)))), (13, tIs (.int .i64 ((((n.toNat % 4) : Nat) : Int)))), (11, X7 b11 0), (10, tIs (.int .i64 (stE (ofS (Q4 q)) (ofS (Q4 p))))), (9, tIs (.int .i64 (((V8 4 (ofS (Q4 q)) (ofS (Q4 p))).1 : Int)))), (8, X7 b8 0), (7, X7 b7 0), (6, tIs (.bool false))]) (H' := [⟨b11, 28, cTs (pT (if stE (ofS (Q4 q)) (ofS (Q4 p)) = 0 then msign (V8 4 (ofS (Q4 q)) (ofS (Q4 p))).2 else p0))⟩, ⟨b8, 28, cTs (pT (ofS (Q4 q)))⟩, ⟨b7, 28, cTs (pT (ofS (Q4 p)))⟩]) (Q8 (X3 (.k (.k (.k .nil)))) (Z3 ⟨.t rfl, .t rfl, .t rfl, .t rfl, .t rfl, .t rfl, .t rfl, .t rfl, trivial⟩)) ?_
    refine JC.drawP (Ts := [tV Q5 (ofS (Q4 p)), tV Q5 (ofS (Q4 q)), tIs (.int .i64 ((((n.toNat % 4) : Nat) : Int))), tV Q5 (K3 4 (ofS (Q4 p)) (K1 (ofS (Q4 q)) (n.toNat % 4))), tV Q5 (ofS (Q4 q)), V5 [tV Q5 ((msign (V8 4 (ofS (Q4 q)) (ofS (Q4 p))).2)), tIs (.int .i64 0)], V5 [tV Q5 ((msign (V8 4 (ofS (Q4 q)) (ofS (Q4 p))).2)), tIs (.int .i64 0)], tV Q5 ((msign (V8 4 (ofS (Q4 q)) (ofS (Q4 p))).2)), tIs (.int .i64 0), K5, K5, K5]) (un := (fun i => [9, 10].contains i)) mo (by kernel_rfl) ?_
    refine RP.step (al := (fun i => [0, 1, 2, 3, 4, 5, 6, 7, 8].contains i)) (Γn := [(94, tIs (.int .i64 0)), (93, tV Q5 ((msign (V8 4 (ofS (Q4 q)) (ofS (Q4 p))).2))), (86, V5 [tV Q5 ((msign (V8 4 (ofS (Q4 q)) (ofS (Q4 p))).2)), tIs (.int .i64 0)]), (92, V5 [tV Q5 ((msign (V8 4 (ofS (Q4 q)) (ofS (Q4 p))).2)), tIs (.int .i64 0)]), (91, tV Q5 (ofS (Q4 q))), (90, tV Q5 (K3 4 (ofS (Q4 p)) (K1 (ofS (Q4 q)) (n.toNat % 4)))), (89, tIs (.int .i64 ((((n.toNat % 4) : Nat) : Int)))), (88, tV Q5 (ofS (Q4 q))), (87, tV Q5 (ofS (Q4 p))), (14, tIs (.int .i64 ((((V8 4 (ofS (Q4 q)) (ofS (Q4 p))).1 + (n.toNat % 4) : Nat) : Int)))), (13, tIs (.int .i64 ((((n.toNat % 4) : Nat) : Int)))), (11, X7 b11 0), (10, tIs (.int .i64 (stE (ofS (Q4 q)) (ofS (Q4 p))))), (9, tIs (.int .i64 (((V8 4 (ofS (Q4 q)) (ofS (Q4 p))).1 : Int)))), (8, X7 b8 0), (7, X7 b7 0), (6, tIs (.bool false))]) (Γ' := ?pg1) 9 (by kernel_rfl) (by kernel_rfl) ?tp1 ?nx1
    case tp1 =>
     refine TP.op (oa (.t rfl) (.tail _ (.tail _ (.head _))) Z9 (Q6 (g := Y4) (y := (ofS (Q4 p))) (Q0 (ofS (Q4 p))).symm rfl)) rfl (ltN rfl) rfl rfl ?_
     refine TP.op (oa (.t rfl) (.tail _ (.head _)) Z9 (Q6 (g := Y4) (y := (ofS (Q4 q))) (Q0 (ofS (Q4 q))).symm rfl)) rfl (ltN rfl) rfl rfl ?_
     refine TP.op (Y0 (.t rfl)) rfl (ltN rfl) rfl rfl ?_
     refine TP.op (oc fn43 (times24_c (ofS (Q4 p)) (ofS (Q4 q)) (((n.toNat % 4) : Nat) : Int) (n.toNat % 4) hP.pg hQ.pg rfl (by omega) (by decide) (by decide) ⟨⟨by omega, by omega, by decide, by decide⟩, by omega, by omega⟩) (.cons (.t rfl) (.cons (.t rfl) (.cons (.t rfl) .nil)))) rfl (ltN rfl) rfl rfl ?_
     refine TP.op (oa (.t rfl) (.tail _ (.head _)) Z9 (Q6 (g := Y4) (y := (ofS (Q4 q))) (Q0 (ofS (Q4 q))).symm rfl)) rfl (ltN rfl) rfl rfl ?_
     refine TP.op (X9 (T' := V5 [tV Q5 ((msign (V8 4 (ofS (Q4 q)) (ofS (Q4 p))).2)), tIs (.int .i64 0)]) (oc fn42 (without_c 10 (ofS (Q4 q)) (K3 4 (ofS (Q4 p)) (K1 (ofS (Q4 q)) (n.toNat % 4))) hpw hQ.pg hQ.ng rm_mu (by decide) (by decide)) (.cons (.t rfl) (.cons (.t rfl) .nil))) (by rw [e1, if_pos rfl, e3])) rfl (ltN rfl) rfl rfl ?_
     refine TP.op (Y0 (.t rfl)) rfl (ltN rfl) rfl rfl ?_
     refine TP.op (Z1 (.t rfl) rfl) rfl (ltN rfl) rfl rfl ?_
     refine TP.op (Z1 (.t rfl) rfl) rfl (ltN rfl) rfl rfl ?_
     refine TP.at rfl rfl ?_
     refine TP.skip0 rfl rfl rfl ?_
     refine TP.skip rfl rfl rfl ?_
     exact TP.nil
    case nx1 =>
    refine OneStep.mk (ι := Nat) (Hb := fun κ => [⟨κ, 28, cTs zP⟩, ⟨b11, 28, cTs (pT (if stE (ofS (Q4 q)) (ofS (Q4 p)) = 0 then msign (V8 4 (ofS (Q4 q)) (ofS (Q4 p))).2 else p0))⟩, ⟨b8, 28, cTs (pT (ofS (Q4 q)))⟩, ⟨b7, 28, cTs (pT (ofS (Q4 p)))⟩]) (Tb := fun κ => [tV Q5 (ofS (Q4 p)), tV Q5 (ofS (Q4 q)), tIs (.int .i64 ((((n.toNat % 4) : Nat) : Int))), tV Q5 (K3 4 (ofS (Q4 p)) (K1 (ofS (Q4 q)) (n.toNat % 4))), tV Q5 (ofS (Q4 q)), V5 [tV Q5 ((msign (V8 4 (ofS (Q4 q)) (ofS (Q4 p))).2)), tIs (.int .i64 0)], V5 [tV Q5 ((msign (V8 4 (ofS (Q4 q)) (ofS (Q4 p))).2)), tIs (.int .i64 0)], tV Q5 ((msign (V8 4 (ofS (Q4 q)) (ofS (Q4 p))).2)), tIs (.int .i64 0), X7 κ 0, K5, K5]) (fun i => [9].contains i) (fun i => [10].contains i) rfl rfl (fun _ => ⟨.inr rfl, ⟨.inr rfl, ⟨.inr rfl, ⟨.inr rfl, ⟨.inr rfl, ⟨.inr rfl, ⟨.inr rfl, ⟨.inr rfl, ⟨.inr rfl, ⟨.inl rfl, ⟨.inl rfl, ⟨.inl rfl, trivial⟩⟩⟩⟩⟩⟩⟩⟩⟩⟩⟩⟩) (by kernel_rfl) ?op1_9 ?mx1_9
    case op1_9 =>
     intro Γx hx
     refine J.alloc (R := cTs zP) W9 (fun _ => ⟨rfl, rfl, rfl, rfl, Q9 _ _, rfl, Q9 _ _, rfl, trivial⟩) (ltN rfl) fun b16 => ?_
     exact J.midP (Hb := fun κ => [⟨κ, 28, cTs zP⟩, ⟨b11, 28, cTs (pT (if stE (ofS (Q4 q)) (ofS (Q4 p)) = 0 then msign (V8 4 (ofS (Q4 q)) (ofS (Q4 p))).2 else p0))⟩, ⟨b8, 28, cTs (pT (ofS (Q4 q)))⟩, ⟨b7, 28, cTs (pT (ofS (Q4 p)))⟩]) (Tb := fun κ => [tV Q5 (ofS (Q4 p)), tV Q5 (ofS (Q4 q)), tIs (.int .i64 ((((n.toNat % 4) : Nat) : Int))), tV Q5 (K3 4 (ofS (Q4 p)) (K1 (ofS (Q4 q)) (n.toNat % 4))), tV Q5 (ofS (Q4 q)), V5 [tV Q5 ((msign (V8 4 (ofS (Q4 q)) (ofS (Q4 p))).2)), tIs (.int .i64 0)], V5 [tV Q5 ((msign (V8 4 (ofS (Q4 q)) (ofS (Q4 p))).2)), tIs (.int .i64 0)], tV Q5 ((msign (V8 4 (ofS (Q4 q)) (ofS (Q4 p))).2)), tIs (.int .i64 0), X7 κ 0, K5, K5]) (n := 9) b16 rfl
    case mx1_9 =>
     intro b16
     refine RP.step (al := (fun i => [0, 1, 2, 3, 4, 5, 6, 7, 8].contains i)) (Γn := [(16, X7 b16 0), (94, tIs (.int .i64 0)), (93, tV Q5 ((msign (V8 4 (ofS (Q4 q)) (ofS (Q4 p))).2))), (86, V5 [tV Q5 ((msign (V8 4 (ofS (Q4 q)) (ofS (Q4 p))).2)), tIs (.int .i64 0)]), (92, V5 [tV Q5 ((msign (V8 4 (ofS (Q4 q)) (ofS (Q4 p))).2)), tIs (.int .i64 0)]), (91, tV Q5 (ofS (Q4 q))), (90, tV Q5 (K3 4 (ofS (Q4 p)) (K1 (ofS (Q4 q)) (n.toNat % 4)))), (89, tIs (.int .i64 ((((n.toNat % 4) : Nat) : Int)))), (88, tV Q5 (ofS (Q4 q))), (87, tV Q5 (ofS (Q4 p))), (14, tIs (.int .i64 ((((V8 4 (ofS (Q4 q)) (ofS (Q4 p))).1 + (n.toNat % 4) : Nat) : Int)))), (13, tIs (.int .i64 ((((n.toNat % 4) : Nat) : Int)))), (11, X7 b11 0), (10, tIs (.int .i64 (stE (ofS (Q4 q)) (ofS (Q4 p))))), (9, tIs (.int .i64 (((V8 4 (ofS (Q4 q)) (ofS (Q4 p))).1 : Int)))), (8, X7 b8 0), (7, X7 b7 0), (6, tIs (.bool false))]) (Γ' := ?pg2) 10 (by kernel_rfl) (by kernel_rfl) ?tp2 ?nx2
     case tp2 =>
      refine TP.op (oa (.t rfl) (.tail _ (.tail _ (.tail _ (.head _)))) Z9 (Q6 (g := Y4) (y := (ofS (Q4 p))) (Q0 (ofS (Q4 p))).symm rfl)) rfl (ltN rfl) rfl rfl ?_
      refine TP.op (oa (.t rfl) (.tail _ (.tail _ (.head _))) Z9 (Q6 (g := Y4) (y := (ofS (Q4 q))) (Q0 (ofS (Q4 q))).symm rfl)) rfl (ltN rfl) rfl rfl ?_
      refine TP.op (Y0 (.t rfl)) rfl (ltN rfl) rfl rfl ?_
      refine TP.op (oc fn43 (times24_c (ofS (Q4 p)) (ofS (Q4 q)) (((n.toNat % 4) : Nat) : Int) (n.toNat % 4) hP.pg hQ.pg rfl (by omega) (by decide) (by decide) ⟨⟨by omega, by omega, by decide, by decide⟩, by omega, by omega⟩) (.cons (.t rfl) (.cons (.t rfl) (.cons (.t rfl) .nil)))) rfl (ltN rfl) rfl rfl ?_
      refine TP.op (oa (.t rfl) (.tail _ (.tail _ (.head _))) Z9 (Q6 (g := Y4) (y := (ofS (Q4 q))) (Q0 (ofS (Q4 q))).symm rfl)) rfl (ltN rfl) rfl rfl ?_
      refine TP.op (X9 (T' := V5 [tV Q5 ((msign (V8 4 (ofS (Q4 q)) (ofS (Q4 p))).2)), tIs (.int .i64 0)]) (oc fn42 (without_c 10 (ofS (Q4 q)) (K3 4 (ofS (Q4 p)) (K1 (ofS (Q4 q)) (n.toNat % 4))) hpw hQ.pg hQ.ng rm_mu (by decide) (by decide)) (.cons (.t rfl) (.cons (.t rfl) .nil))) (by rw [e1, if_pos rfl, e3])) rfl (ltN rfl) rfl rfl ?_
      refine TP.op (Y0 (.t rfl)) rfl (ltN rfl) rfl rfl ?_
      refine TP.op (Z1 (.t rfl) rfl) rfl (ltN rfl) rfl rfl ?_
      refine TP.op (Z1 (.t rfl) rfl) rfl (ltN rfl) rfl rfl ?_
      refine TP.skip rfl rfl rfl ?_
      refine TP.at0 rfl rfl ?_
      refine TP.skip rfl rfl rfl ?_
      exact TP.nil
     case nx2 =>
     refine OneStep.mk (ι := Unit) (Hb := fun κ => [⟨b16, 28, cTs (pT (msign (V8 4 (ofS (Q4 q)) (ofS (Q4 p))).2))⟩, ⟨b11, 28, cTs (pT (if stE (ofS (Q4 q)) (ofS (Q4 p)) = 0 then msign (V8 4 (ofS (Q4 q)) (ofS (Q4 p))).2 else p0))⟩, ⟨b8, 28, cTs (pT (ofS (Q4 q)))⟩, ⟨b7, 28, cTs (pT (ofS (Q4 p)))⟩]) (Tb := fun κ => [tV Q5 (ofS (Q4 p)), tV Q5 (ofS (Q4 q)), tIs (.int .i64 ((((n.toNat % 4) : Nat) : Int))), tV Q5 (K3 4 (ofS (Q4 p)) (K1 (ofS (Q4 q)) (n.toNat % 4))), tV Q5 (ofS (Q4 q)), V5 [tV Q5 ((msign (V8 4 (ofS (Q4 q)) (ofS (Q4 p))).2)), tIs (.int .i64 0)], V5 [tV Q5 ((msign (V8 4 (ofS (Q4 q)) (ofS (Q4 p))).2)), tIs (.int .i64 0)], tV Q5 ((msign (V8 4 (ofS (Q4 q)) (ofS (Q4 p))).2)), tIs (.int .i64 0), X7 b16 0, K5, tIs (.int .i64 0)]) (fun i => [0, 1, 2, 3, 4, 5, 6, 7, 9, 10].contains i) (fun _ => false) rfl rfl (fun _ => ⟨.inr rfl, ⟨.inr rfl, ⟨.inr rfl, ⟨.inr rfl, ⟨.inr rfl, ⟨.inr rfl, ⟨.inr rfl, ⟨.inr rfl, ⟨.inr rfl, ⟨.inr rfl, ⟨.inl rfl, ⟨.inl rfl, trivial⟩⟩⟩⟩⟩⟩⟩⟩⟩⟩⟩⟩) (by kernel_rfl) ?op2_10 ?mx2_10
     case op2_10 =>
      intro Γx hx
      refine J.store (.move hx (.t rfl) (by kernel_rfl)) (.eq (.move hx (.t rfl) (by kernel_rfl)) (K2 (Ts := (pT (msign (V8 4 (ofS (Q4 q)) (ofS (Q4 p))).2))) (Q0 _))) .here U4 (Z4 (Ts' := (pT (msign (V8 4 (ofS (Q4 q)) (ofS (Q4 p))).2))) (o := 0) rfl) ?_
      exact J.midP (Hb := fun κ => [⟨b16, 28, cTs (pT (msign (V8 4 (ofS (Q4 q)) (ofS (Q4 p))).2))⟩, ⟨b11, 28, cTs (pT (if stE (ofS (Q4 q)) (ofS (Q4 p)) = 0 then msign (V8 4 (ofS (Q4 q)) (ofS (Q4 p))).2 else p0))⟩, ⟨b8, 28, cTs (pT (ofS (Q4 q)))⟩, ⟨b7, 28, cTs (pT (ofS (Q4 p)))⟩]) (Tb := fun κ => [tV Q5 (ofS (Q4 p)), tV Q5 (ofS (Q4 q)), tIs (.int .i64 ((((n.toNat % 4) : Nat) : Int))), tV Q5 (K3 4 (ofS (Q4 p)) (K1 (ofS (Q4 q)) (n.toNat % 4))), tV Q5 (ofS (Q4 q)), V5 [tV Q5 ((msign (V8 4 (ofS (Q4 q)) (ofS (Q4 p))).2)), tIs (.int .i64 0)], V5 [tV Q5 ((msign (V8 4 (ofS (Q4 q)) (ofS (Q4 p))).2)), tIs (.int .i64 0)], tV Q5 ((msign (V8 4 (ofS (Q4 q)) (ofS (Q4 p))).2)), tIs (.int .i64 0), X7 b16 0, K5, tIs (.int .i64 0)]) (n := 10) () rfl
     case mx2_10 =>
      intro _
      refine RP.last (al := (fun i => [8, 11].contains i)) (Γn := []) (Γ' := [(17, tIs (.int .i64 0)), (16, X7 b16 0), (94, tIs (.int .i64 0)), (93, tV Q5 ((msign (V8 4 (ofS (Q4 q)) (ofS (Q4 p))).2))), (86, V5 [tV Q5 ((msign (V8 4 (ofS (Q4 q)) (ofS (Q4 p))).2)), tIs (.int .i64 0)]), (92, V5 [tV Q5 ((msign (V8 4 (ofS (Q4 q)) (ofS (Q4 p))).2)), tIs (.int .i64 0)]), (91, tV Q5 (ofS (Q4 q))), (90, tV Q5 (K3 4 (ofS (Q4 p)) (K1 (ofS (Q4 q)) (n.toNat % 4)))), (89, tIs (.int .i64 ((((n.toNat % 4) : Nat) : Int)))), (88, tV Q5 (ofS (Q4 q))), (87, tV Q5 (ofS (Q4 p))), (14, tIs (.int .i64 ((((V8 4 (ofS (Q4 q)) (ofS (Q4 p))).1 + (n.toNat % 4) : Nat) : Int)))), (13, tIs (.int .i64 ((((n.toNat % 4) : Nat) : Int)))), (11, X7 b11 0), (10, tIs (.int .i64 (stE (ofS (Q4 q)) (ofS (Q4 p))))), (9, tIs (.int .i64 (((V8 4 (ofS (Q4 q)) (ofS (Q4 p))).1 : Int)))), (8, X7 b8 0), (7, X7 b7 0), (6, tIs (.bool false))]) (by kernel_rfl) (by kernel_rfl) ?tp3 ?_
      case tp3 =>
       refine TP.skip rfl rfl rfl ?_
       refine TP.skip rfl rfl rfl ?_
       refine TP.skip rfl rfl rfl ?_
       refine TP.skip rfl rfl rfl ?_
       refine TP.skip rfl rfl rfl ?_
       refine TP.skip rfl rfl rfl ?_
       refine TP.skip rfl rfl rfl ?_
       refine TP.skip rfl rfl rfl ?_
       refine TP.op (Z1 (.t rfl) rfl) rfl (ltN rfl) rfl rfl ?_
       refine TP.skip rfl rfl rfl ?_
       refine TP.skip0 rfl rfl rfl ?_
       refine TP.op (Y2 (.t rfl)) rfl (ltN rfl) rfl rfl ?_
       exact TP.nil
      refine JQ.then_normal (JC.g (J.M rfl rfl (J.o (U5 (.t rfl) .is) rfl (J.M rfl rfl ?_))))
      refine J.opg rfl rfl rfl (ltN rfl) (fun hg => Y0 (.t rfl)) rfl (ltN rfl) ?_
      refine J.opg rfl rfl rfl (ltN rfl) (fun hg => ot_geq (.iff hg (.t rfl)) .is) rfl (ltN rfl) ?_
      refine J.o (R4 (.t rfl) (.t rfl) .is) rfl (J.M rfl rfl ?_)
      refine J.opg rfl rfl rfl (ltN rfl) (fun hg => Y0 (.t rfl)) rfl (ltN rfl) ?_
      refine J.opg rfl rfl rfl (ltN rfl) (fun hg => Y0 (.t rfl)) rfl (ltN rfl) ?_
      refine J.opg rfl rfl rfl (ltN rfl) (fun hg => Y0 (.t rfl)) rfl (ltN rfl) ?_
      refine J.opg rfl rfl rfl (ltN rfl) (fun hg => (by have hg' := hg; (try simp only [bsx] at hg'); exact Z6 (.iff hg (.t rfl)) (.iff hg (.t rfl)) (w64 (by omega) (by omega)))) rfl (ltN rfl) ?_
      refine J.opg rfl rfl rfl (ltN rfl) (fun hg => U5 (.iff hg (.t rfl)) (.iff hg (.t rfl))) rfl (ltN rfl) ?_
      refine J.o (R4 (.t rfl) (.t rfl) .is) rfl (J.M rfl rfl ?_)
      refine J.opg rfl rfl rfl (ltN rfl) (fun hg => oa (.t rfl) (.head _) Z9 (Q6 (g := Y4) (y := (msign (V8 4 (ofS (Q4 q)) (ofS (Q4 p))).2)) (Q0 (msign (V8 4 (ofS (Q4 q)) (ofS (Q4 p))).2)).symm rfl)) rfl (ltN rfl) ?_
      refine J.opg rfl rfl rfl (ltN rfl) (fun hg => oa (.t rfl) (.tail _ (.head _)) Z9 (Q6 (g := Y4) (y := (if stE (ofS (Q4 q)) (ofS (Q4 p)) = 0 then msign (V8 4 (ofS (Q4 q)) (ofS (Q4 p))).2 else p0)) (Q0 (if stE (ofS (Q4 q)) (ofS (Q4 p)) = 0 then msign (V8 4 (ofS (Q4 q)) (ofS (Q4 p))).2 else p0)).symm rfl)) rfl (ltN rfl) ?_
      refine J.opg rfl rfl rfl (ltN rfl) (fun hg => (by have hg' := hg; (try simp only [bsx] at hg'); exact oc fn31 (sameK_c (msign (V8 4 (ofS (Q4 q)) (ofS (Q4 p))).2) (if stE (ofS (Q4 q)) (ofS (Q4 p)) = 0 then msign (V8 4 (ofS (Q4 q)) (ofS (Q4 p))).2 else p0) pw ⟨by decide, by omega⟩ (by rw [if_pos he])) (.cons (.iff hg (.t rfl)) (.cons (.iff hg (.t rfl)) .nil)))) rfl (ltN rfl) ?_
      refine J.o (R4 (.t rfl) (.t rfl) .is) rfl (J.M rfl rfl ?_)
      refine J.opg rfl rfl rfl (ltN rfl) (fun hg => oa (.t rfl) (.tail _ (.head _)) Z9 (Q6 (g := Y4) (y := (if stE (ofS (Q4 q)) (ofS (Q4 p)) = 0 then msign (V8 4 (ofS (Q4 q)) (ofS (Q4 p))).2 else p0)) (Q0 (if stE (ofS (Q4 q)) (ofS (Q4 p)) = 0 then msign (V8 4 (ofS (Q4 q)) (ofS (Q4 p))).2 else p0)).symm rfl)) rfl (ltN rfl) ?_
      refine J.opg rfl rfl rfl (ltN rfl) (fun hg => (by have hg' := hg; (try simp only [bsx] at hg'); exact oc fn32 (canon24_c (if stE (ofS (Q4 q)) (ofS (Q4 p)) = 0 then msign (V8 4 (ofS (Q4 q)) (ofS (Q4 p))).2 else p0) (by rw [if_pos he]; exact pw) ⟨by decide, by omega⟩) (.cons (.iff hg (.t rfl)) .nil))) rfl (ltN rfl) ?_
      refine J.o (R4 (.t rfl) (.t rfl) .is) rfl (J.M rfl rfl ?_)
      refine J.opg rfl rfl rfl (ltN rfl) (fun hg => oa (.t rfl) (.tail _ (.tail _ (.head _))) Z9 (Q6 (g := Y4) (y := (ofS (Q4 q))) (Q0 (ofS (Q4 q))).symm rfl)) rfl (ltN rfl) ?_
      refine J.opg rfl rfl rfl (ltN rfl) (fun hg => oa (.t rfl) (.tail _ (.head _)) Z9 (Q6 (g := Y4) (y := (if stE (ofS (Q4 q)) (ofS (Q4 p)) = 0 then msign (V8 4 (ofS (Q4 q)) (ofS (Q4 p))).2 else p0)) (Q0 (if stE (ofS (Q4 q)) (ofS (Q4 p)) = 0 then msign (V8 4 (ofS (Q4 q)) (ofS (Q4 p))).2 else p0)).symm rfl)) rfl (ltN rfl) ?_
      refine J.opg rfl rfl rfl (ltN rfl) (fun hg => X9 (T' := tIs (.bool false)) (oc fn33 (divides_c (ofS (Q4 q)) (if stE (ofS (Q4 q)) (ofS (Q4 p)) = 0 then msign (V8 4 (ofS (Q4 q)) (ofS (Q4 p))).2 else p0) (by rw [if_pos he]; exact pw) hQ.pg hQ.ng rm_wo (by decide)) (.cons (.iff hg (.t rfl)) (.cons (.iff hg (.t rfl)) .nil))) (by rw [if_pos he, e4])) rfl (ltN rfl) ?_
      refine J.opg rfl rfl rfl (ltN rfl) (fun hg => ot_not (.iff hg (.t rfl))) rfl (ltN rfl) ?_
      refine J.o (R4 (.t rfl) (.t rfl) .is) rfl (J.A rfl rfl (J.e (JC.ret ?_)))
      exact JQ.ret1 rfl (.tmp (.eq (.t rfl) (by first | rfl | (congr 3; omega) | (congr 2; omega) | simp [*])))

end Go.Proofs.Ytcbnpddeiaccbaa
