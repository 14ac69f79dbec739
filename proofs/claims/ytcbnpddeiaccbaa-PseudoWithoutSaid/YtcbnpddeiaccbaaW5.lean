/- Walks through the program: each function called at values of the kinds that its contract names returns what the contract says. Conditions: those in the contracts. Written by the program wip/gen. -/
import Derived.Test.YtcbnpddeiaccbaaW4
set_option linter.unusedVariables false
set_option linter.unusedSimpArgs false
set_option maxRecDepth 100000
set_option maxHeartbeats 4000000
namespace Go.Proofs.Ytcbnpddeiaccbaa
open Go Go.RowKit Go.Rt
theorem few20_c (ts : List Tm) (n d m : Int) (hn : n ≤ 1000000) : Ctr Try.prog 70 [tSl X4 ts, tIs (.int .i64 n), tIs (.int .i64 d), tIs (.int .i64 m)] (tIs (.bool (fewS ts n d m))) := by
 refine Ctr.of Try.func70 rfl Try.ntmps70 (Nat.le_of_ble_eq_true rfl) fun w0 M0 => (JC.g ?_)
 refine J.a .is rfl (J.e (JC.seq (JC.g (J.M rfl rfl (J.o (Y6 (.t rfl) R0 rfl) rfl (J.M rfl rfl (J.o (ot_gtr (.t rfl) (.t rfl)) rfl (J.e ?_))))))))
 refine JC.cond (.t rfl) (fun hc0 => ?_) (fun hc0 => ?_)
 ·try simp only [bsx] at hc0
  have hs14 := hc0
  refine (JC.g ?_)
  refine J.a .is rfl (J.e (JC.ret (JQ.then_ret ?_)))
  exact JQ.ret1 rfl (.tmp (.eq (.t rfl) (by rw [fewS_long (by omega)])))
 ·try simp only [bsx] at hc0
  have hs14 := hc0
  refine JC.skip (JQ.then_normal (JC.seq (JC.g ?_)))
  refine J.a .is rfl (J.e (JC.block ?_))
  refine JC.loop (ι := Nat) (fun i => [(0, tSl X4 ts), (2, tIs (.int .i64 d)), (3, tIs (.int .i64 m)), (9, tIs (.int .i64 (i : Int)))]) (fun i => []) (fun i => i ≤ ts.length ∧ (ts.take i).all (fewT d m) = true) (fun i => ts.length - i) 0 ⟨by omega, by simp⟩ ?lsub0 ?round0
  case lsub0 => exact Q5 (Q8 .nil) (Z0 ⟨.t rfl, .t rfl, .t rfl, .eq (.t rfl) (by first | rfl | (congr 3; omega) | (congr 2; omega)), trivial⟩)
  intro i hinv
  obtain ⟨hi, hall⟩ := hinv
  refine JC.seq (JC.g (J.M rfl rfl (J.M rfl rfl (J.o (Y6 (.t rfl) R0 rfl) rfl (J.o (Y3 (.t rfl) (.t rfl)) rfl (J.e ?_))))))
  refine JC.cond (.t rfl) (fun hc1 => ?_) (fun hc1 => ?_)
  ·try simp only [bsx] at hc1
   have hs18 := hc1
   refine JC.skip (JQ.then_normal (JC.seq (JC.block (JC.seq (JC.g (J.M rfl rfl (J.M rfl rfl ?_)))))))
   refine J.o (ixo (z := atT ts i) (.t rfl) (.t rfl) R0 (by omega) (atT_at rfl (by omega))) rfl (J.o (ofp (.t rfl) fd97_0 (fun _ _ h => h)) rfl (J.o (ofp (R' := cDrop (cEnc X4 (atT ts i)) 1) (.t rfl) fd25_1 (fun _ _ h => cDrop_mk h)) rfl (J.o (ld (.t rfl) sc23 (ldF rfl)) rfl (J.o (Y6 (.t rfl) V9 rfl) rfl (J.M rfl rfl (J.o (ot_gtr (.t rfl) (.t rfl)) rfl (J.e ?_)))))))
   refine JC.cond (.t rfl) (fun hc2 => ?_) (fun hc2 => ?_)
   ·try simp only [bsx] at hc2
    have hs29 := hc2
    refine (JC.g ?_)
    refine J.a .is rfl (J.e (JC.ret (JQ.then_ret (JQ.block_ret (JQ.then_ret (JQ.then_ret (JQ.block_ret (JQ.then_ret ?_))))))))
    exact JQ.ret1 rfl (.tmp (.eq (.t rfl) (by rw [fewS_no (atT_mem (i := i) (by omega)) (fewT_len (by omega))])))
   ·try simp only [bsx] at hc2
    have hs29 := hc2
    refine JC.skip (JQ.then_normal (JC.g ?_))
    refine J.a .is rfl (J.e (JC.block ?_))
    refine JC.loop (ι := Nat) (fun k => [(0, tSl X4 ts), (2, tIs (.int .i64 d)), (3, tIs (.int .i64 m)), (9, tIs (.int .i64 (i : Int))), (10, tIs (.int .i64 (k : Int))), (15, tIs (.int .i64 (i : Int))), (16, tSl X4 ts), (17, tIs (.int .i64 (((ts).length : Int)))), (18, tIs (.bool (decide ((i : Int) < ((ts).length : Int))))), (21, tSl X4 ts), (22, tIs (.int .i64 (i : Int))), (23, tPtr (cEnc X4 (atT ts i))), (24, tPtr (cEnc X4 (atT ts i))), (25, tPtr (cDrop (cEnc X4 (atT ts i)) 1)), (26, tSl X7 ((atT ts i).coef.abs)), (27, tIs (.int .i64 ((((atT ts i).coef.abs).length : Int)))), (28, tIs (.int .i64 d)), (29, tIs (.bool (decide (d < (((atT ts i).coef.abs).length : Int)))))]) (fun k => []) (fun k => k ≤ 4 ∧ ∀ q, q < k → (atT ts i).exp.at q ≤ m ∧ -1000 ≤ (atT ts i).exp.at q) (fun k => 4 - k) 0 ⟨by omega, fun q hq => by omega⟩ ?lsub1 ?round1
    case lsub1 => exact Q5 (Q8 .nil) (Z0 ⟨.t rfl, .t rfl, .t rfl, .t rfl, .eq (.t rfl) (by first | rfl | (congr 3; omega) | (congr 2; omega)), .t rfl, .t rfl, .t rfl, .t rfl, .t rfl, .t rfl, .t rfl, .t rfl, .t rfl, .t rfl, .t rfl, .t rfl, .t rfl, trivial⟩)
    intro k hinv
    obtain ⟨hk, hks⟩ := hinv
    refine JC.seq (JC.g (J.M rfl rfl (J.o (Y3 (.t rfl) .is) rfl (J.e ?_))))
    refine JC.cond (.t rfl) (fun hc3 => ?_) (fun hc3 => ?_)
    ·try simp only [bsx] at hc3
     have hs31 := hc3
     refine JC.skip (JQ.then_normal (JC.seq (JC.block (JC.g (J.M rfl rfl (J.M rfl rfl (J.M rfl rfl ?_)))))))
     refine J.o (ixo (z := atT ts i) (.t rfl) (.t rfl) R0 (by omega) (atT_at rfl (by omega))) rfl (J.o (ofp (R' := cDrop (cEnc X4 (atT ts i)) 2) (.t rfl) fd97_1 (fun _ _ h => cDrop_mk h)) rfl ?_)
     refine J.o (ot_indexAddrP (T := tIs (.int .i64 ((atT ts i).exp.at k))) (.t rfl) (.t rfl) ar4_95 (by omega) (by omega) (tm_at (i := k) (by omega) (by omega))) rfl (J.o (ld (.t rfl) sc3 cOne_ld) rfl (J.M rfl rfl (J.o (ot_gtr (.t rfl) (.t rfl)) rfl (J.M rfl rfl ?_))))
     refine J.opg rfl rfl rfl (ltN rfl) (fun hg => Y1 (.t rfl)) rfl (ltN rfl) ?_
     refine J.opg rfl rfl rfl (ltN rfl) (fun hg => Y1 (.t rfl)) rfl (ltN rfl) ?_
     refine J.opg rfl rfl rfl (ltN rfl) (fun hg => Y1 (.t rfl)) rfl (ltN rfl) ?_
     refine J.opg rfl rfl rfl (ltN rfl) (fun hg => (by have hg' := hg; (try simp only [bsx] at hg'); exact ixo (z := atT ts i) (.iff hg (.t rfl)) (.iff hg (.t rfl)) R0 (by omega) (atT_at rfl (by omega)))) rfl (ltN rfl) ?_
     refine J.opg rfl rfl rfl (ltN rfl) (fun hg => ofp (R' := cDrop (cEnc X4 (atT ts i)) 2) (.iff hg (.t rfl)) fd97_1 (fun _ _ h => cDrop_mk h)) rfl (ltN rfl) ?_
     refine J.opg rfl rfl rfl (ltN rfl) (fun hg => (by have hg' := hg; (try simp only [bsx] at hg'); exact ot_indexAddrP (T := tIs (.int .i64 ((atT ts i).exp.at k))) (.iff hg (.t rfl)) (.iff hg (.t rfl)) ar4_95 (by omega) (by omega) (tm_at (i := k) (by omega) (by omega)))) rfl (ltN rfl) ?_
     refine J.opg rfl rfl rfl (ltN rfl) (fun hg => ld (.iff hg (.t rfl)) sc3 cOne_ld) rfl (ltN rfl) ?_
     refine J.opg rfl rfl rfl (ltN rfl) (fun hg => Y3 (.iff hg (.t rfl)) .is) rfl (ltN rfl) ?_
     refine J.o (ot_or2 (.t rfl) .is (.t rfl)) rfl (J.e ?_)
     refine JC.cond (.t rfl) (fun hc4 => ?_) (fun hc4 => ?_)
     ·try simp only [bsx] at hc4
      have hs52 := hc4
      refine (JC.g ?_)
      refine J.a .is rfl (J.e (JC.ret (JQ.block_ret (JQ.then_ret (JQ.then_ret (JQ.block_ret (JQ.block_ret (JQ.then_ret (JQ.then_ret (JQ.block_ret (JQ.then_ret ?_)))))))))))
      exact JQ.ret1 rfl (.tmp (.eq (.t rfl) (by rw [fewS_no (atT_mem (i := i) (by omega)) (fewT_exp (k := k) (by omega) (by omega))])))
     ·try simp only [bsx] at hc4
      have hs52 := hc4
      refine JC.skip (JQ.block_normal (JQ.then_normal (JC.region (J.M rfl rfl ?_))))
      refine J.o (Z5 (.t rfl) .is (w64 (by omega) (by omega))) rfl (J.A rfl rfl (J.nil ?_))
      exact JQ.round (k + 1) ⟨by omega, fun q hq => by rcases Nat.lt_or_ge q k with h | h; exact hks q h; rw [show q = k by omega]; omega⟩ (by omega) (Q5 (Q8 .nil) (Z0 ⟨.t rfl, .t rfl, .t rfl, .t rfl, .eq (.t rfl) (by first | rfl | (congr 3; omega) | (congr 2; omega)), .t rfl, .t rfl, .t rfl, .t rfl, .t rfl, .t rfl, .t rfl, .t rfl, .t rfl, .t rfl, .t rfl, .t rfl, .t rfl, trivial⟩))
    ·try simp only [bsx] at hc3
     have hs31 := hc3
     refine JC.exit (JQ.then_exit (JQ.then_exit (JQ.block_exit (JQ.block_normal (JQ.then_normal (JC.region (J.M rfl rfl ?_)))))))
     refine J.o (Z5 (.t rfl) .is (w64 (by omega) (by omega))) rfl (J.A rfl rfl (J.nil ?_))
     exact JQ.round (i + 1) ⟨by omega, allT_take (by omega) hall (fewT_yes (by omega) (fun q hq => hks q (by omega)))⟩ (by omega) (Q5 (Q8 .nil) (Z0 ⟨.t rfl, .t rfl, .t rfl, .eq (.t rfl) (by first | rfl | (congr 3; omega) | (congr 2; omega)), trivial⟩))
  ·try simp only [bsx] at hc1
   have hs18 := hc1
   refine JC.exit (JQ.then_exit (JQ.then_exit (JQ.block_exit (JQ.then_normal (JC.g ?_)))))
   refine J.a .is rfl (J.e (JC.ret ?_))
   exact JQ.ret1 rfl (.tmp (.eq (.t rfl) (by unfold fewS; rw [decide_eq_true (by omega)]; rw [show i = ts.length by omega, List.take_length] at hall; rw [hall]; rfl)))

theorem few24_c (ts : List Tm) (n m : Int) (hn : n ≤ 1000000) : Ctr Try.prog 26 [tSl X4 ts, tIs (.int .i64 n), tIs (.int .i64 m)] (tIs (.bool (fewS ts n 4 m))) := by
 refine Ctr.of Try.func26 rfl Try.ntmps26 (Nat.le_of_ble_eq_true rfl) fun w0 M0 => (JC.g ?_)
 refine J.a .is rfl (J.e (JC.g (J.M rfl rfl (J.M rfl rfl (J.M rfl rfl ?_)))))
 refine J.o (oc fn70 (few20_c ts n 4 m (by omega)) (.cons (.t rfl) (.cons (.t rfl) (.cons .is (.cons (.t rfl) .nil))))) rfl (J.A rfl rfl (J.e (JC.ret ?_)))
 exact JQ.ret1 rfl (.tmp (.t rfl))

theorem pow_c {D B : Nat} (p : Pol) (n : Int) (N : Nat) (hp : Pg D B p) (hn : n = (N : Int)) (hN : N < 64) (hD : 1 ≤ D) (hb : 2 + 2 * (D * N) ≤ 4294967296 ∧ 2 + 2 * (B * N) ≤ 40000000000 ∧ D ≤ 4294967296 ∧ B ≤ 40000000000) : Ctr Try.prog 69 [tV Q4 p, tIs (.int .i64 n)] (tV Q4 (K1 p N)) := by
 have hpw := fun a (h : a ≤ N) => powP_pg hp hD a
 have hsz := fun a (h : a ≤ N) => (show D * a ≤ D * N ∧ B * a ≤ B * N from ⟨Nat.mul_le_mul_left _ h, Nat.mul_le_mul_left _ h⟩)
 refine Ctr.of Try.func69 rfl Try.ntmps69 (Nat.le_of_ble_eq_true rfl) fun w0 M0 => (JC.g ?_)
 refine J.boxF (Ts := (pT p)) (.t rfl) (Q0 _) (ltN rfl) fun b2 => ?_
 refine J.alloc (R := cTs zP) W9 (fun _ => ⟨rfl, rfl, rfl, rfl, Q9 _ _, rfl, Q9 _ _, rfl, trivial⟩) (ltN rfl) fun b4 => (J.e (JC.g ?_))
 refine J.o (oc fn37 (intOf_c 1 (by omega)) (.cons .is .nil)) rfl ?_
 refine J.o (X8 (T' := tV Q4 (K1 p 0)) (oc fn36 (constK_c (ofI 1) (by rw [ofI1_len]; omega)) (.cons (.t rfl) .nil)) (by rw [Y7]; rfl)) rfl ?_
 refine J.alloc (R := cTs zP) W9 (fun _ => ⟨rfl, rfl, rfl, rfl, Q9 _ _, rfl, Q9 _ _, rfl, trivial⟩) (ltN rfl) fun b5 => ?_
 refine J.store (.t rfl) (.eq (.t rfl) (Y9 (Ts := (pT (K1 p 0))) (Q0 _))) .here U0 (Z1 (Ts' := (pT (K1 p 0))) (o := 0) rfl) (J.e (JC.seq (JC.g (J.o (oa (.t rfl) (.tail _ (.tail _ (.head _))) Z8 (Q7 (g := Y5) (y := p) (Q0 p).symm rfl)) rfl ?_))))
 refine J.o (oc fn45 (normK_c p hp ⟨by omega, by omega⟩) (.cons (.t rfl) .nil)) rfl ?_
 refine J.alloc (R := cTs zP) W9 (fun _ => ⟨rfl, rfl, rfl, rfl, Q9 _ _, rfl, Q9 _ _, rfl, trivial⟩) (ltN rfl) fun b6 => ?_
 refine J.store (.t rfl) (.eq (.t rfl) (Y9 (Ts := (pT p)) (Q0 _))) .here U0 (Z1 (Ts' := (pT p)) (o := 0) rfl) (J.e (JC.block ?_))
 refine JC.loop4 (α := Nat) (β := Nat) (γ := Nat) (δ := Nat) (fun a b m c => [(1, tIs (.int .i64 (m : Int))), (4, X6 b4 0), (5, X6 b5 0), (6, X6 c 0)]) (fun a b m c => [⟨c, 28, cTs (pT (K1 p b))⟩, ⟨b5, 28, cTs (pT (K1 p a))⟩, ⟨b4, 28, cTs zP⟩, ⟨b2, 28, cTs (pT p)⟩]) (fun a b m c => a + b * m = N ∧ 1 ≤ b) (fun a b m c => m) 0 1 N b6 ⟨by omega, by omega⟩ ?lsub0 ?round0
 case lsub0 => exact Q5 (Q8 (.keep (by rw [powP_one hp.can]; exact fun _ _ h => h) (.k (.k (.k .nil))))) (Z0 ⟨.eq (.t rfl) (by rw [hn]), .t rfl, .t rfl, .t rfl, trivial⟩)
 intro a b m c hinv
 obtain ⟨hab, hb1⟩ := hinv
 refine JC.seq (JC.g (J.M rfl rfl (J.o (ot_gtr (.t rfl) .is) rfl (J.e ?_))))
 refine JC.cond (.t rfl) (fun hc0 => ?_) (fun hc0 => ?_)
 ·try simp only [bsx] at hc0
  have hs12 := hc0
  have hm1 : 1 ≤ m := by omega
  have hbm : b * 1 ≤ b * m := Nat.mul_le_mul_left _ hm1
  have hmb : 1 * m ≤ b * m := Nat.mul_le_mul_right _ hb1
  have hpa := hpw a (by omega)
  have hpb := hpw b (by omega)
  have hsa := hsz a (by omega)
  have hsb := hsz b (by omega)
  have hand := and1 m (by omega)
  have hshr := shr1 m (by omega)
  refine JC.skip (JQ.then_normal (JC.seq (JC.block (JC.seq (JC.g (J.M rfl rfl ?_))))))
  refine J.o (ot_and (.t rfl) .is hand) rfl (J.o (W4 (.t rfl) .is) rfl (J.e ?_))
  refine JC.cond (.t rfl) (fun hc1 => ?_) (fun hc1 => ?_)
  ·try simp only [bsx] at hc1
   have hs17 := hc1
   refine JC.region (J.o (oa (.t rfl) (.tail _ (.head _)) Z8 (Q7 (g := Y5) (y := (K1 p a)) (Q0 (K1 p a)).symm rfl)) rfl (J.o (oa (.t rfl) (.head _) Z8 (Q7 (g := Y5) (y := (K1 p b)) (Q0 (K1 p b)).symm rfl)) rfl ?_))
   refine J.o (oc fn75 (rmul_c 4 (K1 p a) (K1 p b) hpa.can.lev hpb.can.lev hpa.sz hpb.sz (Nat.le_refl _) ⟨by omega, by omega, by omega⟩ hpa.nr hpb.nr (by omega)) (.cons (.t rfl) (.cons (.t rfl) .nil))) rfl ?_
   refine J.store (.t rfl) (.eq (.t rfl) (Y9 (Ts := (pT (V5 4 (K1 p a) (K1 p b)))) (Q0 _))) (.there .here) U0 (Z1 (Ts' := (pT (V5 4 (K1 p a) (K1 p b)))) (o := 0) rfl) (J.e (JC.g (J.M rfl rfl (J.o (ot_gtr (.t rfl) .is) rfl (J.e ?_)))))
   refine JC.cond (.t rfl) (fun hc2 => ?_) (fun hc2 => ?_)
   ·try simp only [bsx] at hc2
    have hs22 := hc2
    refine JC.region (J.o (oa (.t rfl) (.head _) Z8 (Q7 (g := Y5) (y := (K1 p b)) (Q0 (K1 p b)).symm rfl)) rfl (J.o (oa (.t rfl) (.head _) Z8 (Q7 (g := Y5) (y := (K1 p b)) (Q0 (K1 p b)).symm rfl)) rfl ?_))
    refine J.o (oc fn75 (rmul_c 4 (K1 p b) (K1 p b) hpb.can.lev hpb.can.lev hpb.sz hpb.sz (Nat.le_refl _) ⟨by omega, by omega, by omega⟩ hpb.nr hpb.nr (by omega)) (.cons (.t rfl) (.cons (.t rfl) .nil))) rfl ?_
    refine J.store (.t rfl) (.eq (.t rfl) (Y9 (Ts := (pT (V5 4 (K1 p b) (K1 p b)))) (Q0 _))) .here U0 (Z1 (Ts' := (pT (V5 4 (K1 p b) (K1 p b)))) (o := 0) rfl) (J.nil (JQ.block_normal (JQ.then_normal (JC.seq (JC.g (J.o (oa (.t rfl) (.head _) Z8 (Q7 (g := Y5) (y := (V5 4 (K1 p b) (K1 p b))) (Q0 (V5 4 (K1 p b) (K1 p b))).symm rfl)) rfl (J.e (JC.region ?_))))))))
    refine J.alloc (R := cTs zP) W9 (fun _ => ⟨rfl, rfl, rfl, rfl, Q9 _ _, rfl, Q9 _ _, rfl, trivial⟩) (ltN rfl) fun b6 => ?_
    refine J.store (.t rfl) (.eq (.t rfl) (Y9 (Ts := (pT (V5 4 (K1 p b) (K1 p b)))) (Q0 _))) .here U0 (Z1 (Ts' := (pT (V5 4 (K1 p b) (K1 p b)))) (o := 0) rfl) (J.e (JC.region (J.M rfl rfl ?_)))
    refine J.o (ot_shr (.t rfl) .is (by omega) hshr) rfl (J.A rfl rfl (J.nil ?_))
    exact JQ.round4 (i := a) (i2 := b) (i3 := m) (i4 := c) (a + b) (b + b) (m / 2) b6 ⟨pow_odd hab (by omega), by omega⟩ (by omega) (Q5 (Q8 (.keep (by rw [← powP_add hp.can]; exact fun _ _ h => h) (.drop (.keep (by rw [← powP_add hp.can]; exact fun _ _ h => h) (.k (.k .nil)))))) (Z0 ⟨.eq (.t rfl) (by first | rfl | (congr 3; omega) | (congr 2; omega)), .t rfl, .t rfl, .t rfl, trivial⟩))
   ·try simp only [bsx] at hc2
    have hs22 := hc2
    refine JC.skip (JQ.block_normal (JQ.then_normal (JC.seq (JC.g (J.o (oa (.t rfl) (.head _) Z8 (Q7 (g := Y5) (y := (K1 p b)) (Q0 (K1 p b)).symm rfl)) rfl (J.e (JC.region ?_)))))))
    refine J.alloc (R := cTs zP) W9 (fun _ => ⟨rfl, rfl, rfl, rfl, Q9 _ _, rfl, Q9 _ _, rfl, trivial⟩) (ltN rfl) fun b6 => ?_
    refine J.store (.t rfl) (.eq (.t rfl) (Y9 (Ts := (pT (K1 p b))) (Q0 _))) .here U0 (Z1 (Ts' := (pT (K1 p b))) (o := 0) rfl) (J.e (JC.region (J.M rfl rfl ?_)))
    refine J.o (ot_shr (.t rfl) .is (by omega) hshr) rfl (J.A rfl rfl (J.nil ?_))
    exact JQ.round4 (i := a) (i2 := b) (i3 := m) (i4 := c) (a + b) b (m / 2) b6 ⟨pow_last hab (by omega), by omega⟩ (by omega) (Q5 (Q8 (.k (.drop (.keep (by rw [← powP_add hp.can]; exact fun _ _ h => h) (.k (.k .nil)))))) (Z0 ⟨.eq (.t rfl) (by first | rfl | (congr 3; omega) | (congr 2; omega)), .t rfl, .t rfl, .t rfl, trivial⟩))
  ·try simp only [bsx] at hc1
   have hs17 := hc1
   refine JC.skip (JQ.then_normal (JC.g (J.M rfl rfl (J.o (ot_gtr (.t rfl) .is) rfl (J.e ?_)))))
   refine JC.cond (.t rfl) (fun hc3 => ?_) (fun hc3 => ?_)
   ·try simp only [bsx] at hc3
    have hs22 := hc3
    refine JC.region (J.o (oa (.t rfl) (.head _) Z8 (Q7 (g := Y5) (y := (K1 p b)) (Q0 (K1 p b)).symm rfl)) rfl (J.o (oa (.t rfl) (.head _) Z8 (Q7 (g := Y5) (y := (K1 p b)) (Q0 (K1 p b)).symm rfl)) rfl ?_))
    refine J.o (oc fn75 (rmul_c 4 (K1 p b) (K1 p b) hpb.can.lev hpb.can.lev hpb.sz hpb.sz (Nat.le_refl _) ⟨by omega, by omega, by omega⟩ hpb.nr hpb.nr (by omega)) (.cons (.t rfl) (.cons (.t rfl) .nil))) rfl ?_
    refine J.store (.t rfl) (.eq (.t rfl) (Y9 (Ts := (pT (V5 4 (K1 p b) (K1 p b)))) (Q0 _))) .here U0 (Z1 (Ts' := (pT (V5 4 (K1 p b) (K1 p b)))) (o := 0) rfl) (J.nil (JQ.block_normal (JQ.then_normal (JC.seq (JC.g (J.o (oa (.t rfl) (.head _) Z8 (Q7 (g := Y5) (y := (V5 4 (K1 p b) (K1 p b))) (Q0 (V5 4 (K1 p b) (K1 p b))).symm rfl)) rfl (J.e (JC.region ?_))))))))
    refine J.alloc (R := cTs zP) W9 (fun _ => ⟨rfl, rfl, rfl, rfl, Q9 _ _, rfl, Q9 _ _, rfl, trivial⟩) (ltN rfl) fun b6 => ?_
    refine J.store (.t rfl) (.eq (.t rfl) (Y9 (Ts := (pT (V5 4 (K1 p b) (K1 p b)))) (Q0 _))) .here U0 (Z1 (Ts' := (pT (V5 4 (K1 p b) (K1 p b)))) (o := 0) rfl) (J.e (JC.region (J.M rfl rfl ?_)))
    refine J.o (ot_shr (.t rfl) .is (by omega) hshr) rfl (J.A rfl rfl (J.nil ?_))
    exact JQ.round4 (i := a) (i2 := b) (i3 := m) (i4 := c) a (b + b) (m / 2) b6 ⟨pow_even hab (by omega), by omega⟩ (by omega) (Q5 (Q8 (.keep (by rw [← powP_add hp.can]; exact fun _ _ h => h) (.drop (.k (.k (.k .nil)))))) (Z0 ⟨.eq (.t rfl) (by first | rfl | (congr 3; omega) | (congr 2; omega)), .t rfl, .t rfl, .t rfl, trivial⟩))
   ·try simp only [bsx] at hc3
    have hs22 := hc3
    refine JC.skip (JQ.block_normal (JQ.then_normal (JC.seq (JC.g (J.o (oa (.t rfl) (.head _) Z8 (Q7 (g := Y5) (y := (K1 p b)) (Q0 (K1 p b)).symm rfl)) rfl (J.e (JC.region ?_)))))))
    refine J.alloc (R := cTs zP) W9 (fun _ => ⟨rfl, rfl, rfl, rfl, Q9 _ _, rfl, Q9 _ _, rfl, trivial⟩) (ltN rfl) fun b6 => ?_
    refine J.store (.t rfl) (.eq (.t rfl) (Y9 (Ts := (pT (K1 p b))) (Q0 _))) .here U0 (Z1 (Ts' := (pT (K1 p b))) (o := 0) rfl) (J.e (JC.region (J.M rfl rfl ?_)))
    refine J.o (ot_shr (.t rfl) .is (by omega) hshr) rfl (J.A rfl rfl (J.nil ?_))
    exact JQ.round4 (i := a) (i2 := b) (i3 := m) (i4 := c) a b (m / 2) b6 ⟨by omega, by omega⟩ (by omega) (Q5 (Q8 (.k (.drop (.k (.k (.k .nil)))))) (Z0 ⟨.eq (.t rfl) (by first | rfl | (congr 3; omega) | (congr 2; omega)), .t rfl, .t rfl, .t rfl, trivial⟩))
 ·try simp only [bsx] at hc0
  have hs12 := hc0
  have ha : a = N := by rw [show m = 0 by omega] at hab; omega
  refine JC.exit (JQ.then_exit (JQ.then_exit (JQ.block_exit (JQ.then_normal (JC.g (J.o (oa (.t rfl) (.tail _ (.head _)) Z8 (Q7 (g := Y5) (y := (K1 p a)) (Q0 (K1 p a)).symm rfl)) rfl ?_))))))
  refine J.store (.t rfl) (.eq (.t rfl) (Y9 (Ts := (pT (K1 p a))) (Q0 _))) (.there (.there .here)) U0 (Z1 (Ts' := (pT (K1 p a))) (o := 0) rfl) (J.e (JC.ret ?_))
  exact JQ.ret1 rfl (.agg (.t rfl) (.tail _ (.tail _ (.head _))) Z8 (V7 (T := tV Q4 (K1 p a)) (T' := tV Q4 (K1 p N)) (by rw [ha]) (Q7 (g := Y5) (y := (K1 p a)) (Q0 (K1 p a)).symm rfl)))

theorem fit24_c  : Ctr Try.prog 25 [] (tIs (.bool true)) := by
 refine Ctr.of Try.func25 rfl Try.ntmps25 (Nat.le_of_ble_eq_true rfl) fun w0 M0 => (JC.g ?_)
 refine J.a .is rfl (J.e (JC.g ?_))
 refine J.o (X8 (T' := tV Q4 vX) (oc fn55 (var_c 1 ) (.cons .is .nil)) (by rfl)) rfl ?_
 refine J.o (X8 (T' := tV Q4 vY) (oc fn55 (var_c 2 ) (.cons .is .nil)) (by rfl)) rfl ?_
 refine J.alloc (R := cTs zP) W9 (fun _ => ⟨rfl, rfl, rfl, rfl, Q9 _ _, rfl, Q9 _ _, rfl, trivial⟩) (ltN rfl) fun b1 => ?_
 refine J.alloc (R := cTs zP) W9 (fun _ => ⟨rfl, rfl, rfl, rfl, Q9 _ _, rfl, Q9 _ _, rfl, trivial⟩) (ltN rfl) fun b2 => ?_
 refine J.store (.t rfl) (.eq (.t rfl) (Y9 (Ts := (pT vX)) (Q0 _))) (.there .here) U0 (Z1 (Ts' := (pT vX)) (o := 0) rfl) ?_
 refine J.store (.t rfl) (.eq (.t rfl) (Y9 (Ts := (pT vY)) (Q0 _))) .here U0 (Z1 (Ts' := (pT vY)) (o := 0) rfl) (J.e (JC.seq ?_))
 refine JC.weak (Γ' := [(2, X6 b2 0), (1, X6 b1 0), (0, tIs (.bool false))]) (H' := [⟨b2, 28, cTs (pT vY)⟩, ⟨b1, 28, cTs (pT vX)⟩]) (Q5 (Q8 (.k (.k .nil))) (Z0 ⟨.t rfl, .t rfl, .t rfl, trivial⟩)) ?_
 refine JC.drawP (Ts := [tV Q4 vX, tV Q4 (K1 vX 2), tV Q4 vY, tV Q4 (K1 vY 2), tV Q4 (Y8 4 (K1 vX 2) (Z2 (K1 vY 2) (-1))), tV Q4 vX, tV Q4 vY, tV Q4 (Y8 4 vX vY), W0 [tV Q4 (Y8 4 vX (Z2 vY (-1))), tIs (.int .i64 0)], W0 [tV Q4 (Y8 4 vX (Z2 vY (-1))), tIs (.int .i64 0)], tV Q4 (Y8 4 vX (Z2 vY (-1))), tIs (.int .i64 0), K6, K6, K6]) (un := (fun i => [12, 13].contains i)) mo (by kernel_rfl) ?_
 refine RP.step (al := (fun i => [0, 1, 2, 3, 4, 5, 6, 7, 8, 9, 10, 11].contains i)) (Γn := [(18, tIs (.int .i64 0)), (17, tV Q4 (Y8 4 vX (Z2 vY (-1)))), (7, W0 [tV Q4 (Y8 4 vX (Z2 vY (-1))), tIs (.int .i64 0)]), (16, W0 [tV Q4 (Y8 4 vX (Z2 vY (-1))), tIs (.int .i64 0)]), (15, tV Q4 (Y8 4 vX vY)), (14, tV Q4 vY), (13, tV Q4 vX), (12, tV Q4 (Y8 4 (K1 vX 2) (Z2 (K1 vY 2) (-1)))), (11, tV Q4 (K1 vY 2)), (10, tV Q4 vY), (9, tV Q4 (K1 vX 2)), (8, tV Q4 vX), (2, X6 b2 0), (1, X6 b1 0), (0, tIs (.bool false))]) (Γ' := ?pg1) 12 (by kernel_rfl) (by kernel_rfl) ?tp1 ?nx1
 case tp1 =>
  refine TP.op (oa (.t rfl) (.tail _ (.head _)) Z8 (Q7 (g := Y5) (y := vX) (Q0 vX).symm rfl)) rfl (ltN rfl) rfl rfl ?_
  refine TP.op (oc fn69 (pow_c vX 2 2 (T7 : Pg 2 1 vX) rfl (by decide) (by decide) ⟨by decide, by decide, by decide, by decide⟩) (.cons (.t rfl) (.cons .is .nil))) rfl (ltN rfl) rfl rfl ?_
  refine TP.op (oa (.t rfl) (.head _) Z8 (Q7 (g := Y5) (y := vY) (Q0 vY).symm rfl)) rfl (ltN rfl) rfl rfl ?_
  refine TP.op (oc fn69 (pow_c vY 2 2 (T7 : Pg 2 1 vY) rfl (by decide) (by decide) ⟨by decide, by decide, by decide, by decide⟩) (.cons (.t rfl) (.cons .is .nil))) rfl (ltN rfl) rfl rfl ?_
  refine TP.op (oc fn68 (subK_c (K1 vX 2) (K1 vY 2) (powP_pg (T7 : Pg 2 1 vX) (by decide) 2) (powP_pg (T7 : Pg 2 1 vY) (by decide) 2) ⟨by decide, by decide⟩) (.cons (.t rfl) (.cons (.t rfl) .nil))) rfl (ltN rfl) rfl rfl ?_
  refine TP.op (oa (.t rfl) (.tail _ (.head _)) Z8 (Q7 (g := Y5) (y := vX) (Q0 vX).symm rfl)) rfl (ltN rfl) rfl rfl ?_
  refine TP.op (oa (.t rfl) (.head _) Z8 (Q7 (g := Y5) (y := vY) (Q0 vY).symm rfl)) rfl (ltN rfl) rfl rfl ?_
  refine TP.op (oc fn40 (addK_c vX vY (T7 : Pg 2 1 vX) (T7 : Pg 2 1 vY) ⟨by decide, by decide⟩) (.cons (.t rfl) (.cons (.t rfl) .nil))) rfl (ltN rfl) rfl rfl ?_
  refine TP.op (X8 (T' := W0 [tV Q4 (Y8 4 vX (Z2 vY (-1))), tIs (.int .i64 0)]) (oc fn28 (pExact_c (Y8 4 (K1 vX 2) (Z2 (K1 vY 2) (-1))) (Y8 4 vX vY) (((powP_pg (T7 : Pg 2 1 vX) (by decide) 2).add (powP_pg (T7 : Pg 2 1 vY) (by decide) 2).neg (by decide) : Pg 5 4 _).mono (by decide) (by decide)) (((T7 : Pg 2 1 vX).add (T7 : Pg 2 1 vY) (by decide) : Pg 2 2 (Y8 4 vX vY)).mono (by decide) (by decide)) (pg_small2 ((T7 : Pg 2 1 vX).add (T7 : Pg 2 1 vY) (by decide) : Pg 2 2 (Y8 4 vX vY))) rm_small) (.cons (.t rfl) (.cons (.t rfl) .nil))) (by rw [fit_r.1, fit_r.2])) rfl (ltN rfl) rfl rfl ?_
  refine TP.op (Y1 (.t rfl)) rfl (ltN rfl) rfl rfl ?_
  refine TP.op (Z3 (.t rfl) rfl) rfl (ltN rfl) rfl rfl ?_
  refine TP.op (Z3 (.t rfl) rfl) rfl (ltN rfl) rfl rfl ?_
  refine TP.at rfl rfl ?_
  refine TP.skip0 rfl rfl rfl ?_
  refine TP.skip rfl rfl rfl ?_
  exact TP.nil
 case nx1 =>
 refine OneStep.mk (ι := Nat) (Hb := fun κ => [⟨κ, 28, cTs zP⟩, ⟨b2, 28, cTs (pT vY)⟩, ⟨b1, 28, cTs (pT vX)⟩]) (Tb := fun κ => [tV Q4 vX, tV Q4 (K1 vX 2), tV Q4 vY, tV Q4 (K1 vY 2), tV Q4 (Y8 4 (K1 vX 2) (Z2 (K1 vY 2) (-1))), tV Q4 vX, tV Q4 vY, tV Q4 (Y8 4 vX vY), W0 [tV Q4 (Y8 4 vX (Z2 vY (-1))), tIs (.int .i64 0)], W0 [tV Q4 (Y8 4 vX (Z2 vY (-1))), tIs (.int .i64 0)], tV Q4 (Y8 4 vX (Z2 vY (-1))), tIs (.int .i64 0), X6 κ 0, K6, K6]) (fun i => [12].contains i) (fun i => [13].contains i) rfl rfl (fun _ => ⟨.inr rfl, ⟨.inr rfl, ⟨.inr rfl, ⟨.inr rfl, ⟨.inr rfl, ⟨.inr rfl, ⟨.inr rfl, ⟨.inr rfl, ⟨.inr rfl, ⟨.inr rfl, ⟨.inr rfl, ⟨.inr rfl, ⟨.inl rfl, ⟨.inl rfl, ⟨.inl rfl, trivial⟩⟩⟩⟩⟩⟩⟩⟩⟩⟩⟩⟩⟩⟩⟩) (by kernel_rfl) ?op1_12 ?mx1_12
 case op1_12 =>
  intro Γx hx
  refine J.alloc (R := cTs zP) W9 (fun _ => ⟨rfl, rfl, rfl, rfl, Q9 _ _, rfl, Q9 _ _, rfl, trivial⟩) (ltN rfl) fun b3 => ?_
  exact J.midP (Hb := fun κ => [⟨κ, 28, cTs zP⟩, ⟨b2, 28, cTs (pT vY)⟩, ⟨b1, 28, cTs (pT vX)⟩]) (Tb := fun κ => [tV Q4 vX, tV Q4 (K1 vX 2), tV Q4 vY, tV Q4 (K1 vY 2), tV Q4 (Y8 4 (K1 vX 2) (Z2 (K1 vY 2) (-1))), tV Q4 vX, tV Q4 vY, tV Q4 (Y8 4 vX vY), W0 [tV Q4 (Y8 4 vX (Z2 vY (-1))), tIs (.int .i64 0)], W0 [tV Q4 (Y8 4 vX (Z2 vY (-1))), tIs (.int .i64 0)], tV Q4 (Y8 4 vX (Z2 vY (-1))), tIs (.int .i64 0), X6 κ 0, K6, K6]) (n := 12) b3 rfl
 case mx1_12 =>
  intro b3
  refine RP.step (al := (fun i => [0, 1, 2, 3, 4, 5, 6, 7, 8, 9, 10, 11].contains i)) (Γn := [(3, X6 b3 0), (18, tIs (.int .i64 0)), (17, tV Q4 (Y8 4 vX (Z2 vY (-1)))), (7, W0 [tV Q4 (Y8 4 vX (Z2 vY (-1))), tIs (.int .i64 0)]), (16, W0 [tV Q4 (Y8 4 vX (Z2 vY (-1))), tIs (.int .i64 0)]), (15, tV Q4 (Y8 4 vX vY)), (14, tV Q4 vY), (13, tV Q4 vX), (12, tV Q4 (Y8 4 (K1 vX 2) (Z2 (K1 vY 2) (-1)))), (11, tV Q4 (K1 vY 2)), (10, tV Q4 vY), (9, tV Q4 (K1 vX 2)), (8, tV Q4 vX), (2, X6 b2 0), (1, X6 b1 0), (0, tIs (.bool false))]) (Γ' := ?pg2) 13 (by kernel_rfl) (by kernel_rfl) ?tp2 ?nx2
  case tp2 =>
   refine TP.op (oa (.t rfl) (.tail _ (.tail _ (.head _))) Z8 (Q7 (g := Y5) (y := vX) (Q0 vX).symm rfl)) rfl (ltN rfl) rfl rfl ?_
   refine TP.op (oc fn69 (pow_c vX 2 2 (T7 : Pg 2 1 vX) rfl (by decide) (by decide) ⟨by decide, by decide, by decide, by decide⟩) (.cons (.t rfl) (.cons .is .nil))) rfl (ltN rfl) rfl rfl ?_
   refine TP.op (oa (.t rfl) (.tail _ (.head _)) Z8 (Q7 (g := Y5) (y := vY) (Q0 vY).symm rfl)) rfl (ltN rfl) rfl rfl ?_
   refine TP.op (oc fn69 (pow_c vY 2 2 (T7 : Pg 2 1 vY) rfl (by decide) (by decide) ⟨by decide, by decide, by decide, by decide⟩) (.cons (.t rfl) (.cons .is .nil))) rfl (ltN rfl) rfl rfl ?_
   refine TP.op (oc fn68 (subK_c (K1 vX 2) (K1 vY 2) (powP_pg (T7 : Pg 2 1 vX) (by decide) 2) (powP_pg (T7 : Pg 2 1 vY) (by decide) 2) ⟨by decide, by decide⟩) (.cons (.t rfl) (.cons (.t rfl) .nil))) rfl (ltN rfl) rfl rfl ?_
   refine TP.op (oa (.t rfl) (.tail _ (.tail _ (.head _))) Z8 (Q7 (g := Y5) (y := vX) (Q0 vX).symm rfl)) rfl (ltN rfl) rfl rfl ?_
   refine TP.op (oa (.t rfl) (.tail _ (.head _)) Z8 (Q7 (g := Y5) (y := vY) (Q0 vY).symm rfl)) rfl (ltN rfl) rfl rfl ?_
   refine TP.op (oc fn40 (addK_c vX vY (T7 : Pg 2 1 vX) (T7 : Pg 2 1 vY) ⟨by decide, by decide⟩) (.cons (.t rfl) (.cons (.t rfl) .nil))) rfl (ltN rfl) rfl rfl ?_
   refine TP.op (X8 (T' := W0 [tV Q4 (Y8 4 vX (Z2 vY (-1))), tIs (.int .i64 0)]) (oc fn28 (pExact_c (Y8 4 (K1 vX 2) (Z2 (K1 vY 2) (-1))) (Y8 4 vX vY) (((powP_pg (T7 : Pg 2 1 vX) (by decide) 2).add (powP_pg (T7 : Pg 2 1 vY) (by decide) 2).neg (by decide) : Pg 5 4 _).mono (by decide) (by decide)) (((T7 : Pg 2 1 vX).add (T7 : Pg 2 1 vY) (by decide) : Pg 2 2 (Y8 4 vX vY)).mono (by decide) (by decide)) (pg_small2 ((T7 : Pg 2 1 vX).add (T7 : Pg 2 1 vY) (by decide) : Pg 2 2 (Y8 4 vX vY))) rm_small) (.cons (.t rfl) (.cons (.t rfl) .nil))) (by rw [fit_r.1, fit_r.2])) rfl (ltN rfl) rfl rfl ?_
   refine TP.op (Y1 (.t rfl)) rfl (ltN rfl) rfl rfl ?_
   refine TP.op (Z3 (.t rfl) rfl) rfl (ltN rfl) rfl rfl ?_
   refine TP.op (Z3 (.t rfl) rfl) rfl (ltN rfl) rfl rfl ?_
   refine TP.skip rfl rfl rfl ?_
   refine TP.at0 rfl rfl ?_
   refine TP.skip rfl rfl rfl ?_
   exact TP.nil
  case nx2 =>
  refine OneStep.mk (ι := Unit) (Hb := fun κ => [⟨b3, 28, cTs (pT (Y8 4 vX (Z2 vY (-1))))⟩, ⟨b2, 28, cTs (pT vY)⟩, ⟨b1, 28, cTs (pT vX)⟩]) (Tb := fun κ => [tV Q4 vX, tV Q4 (K1 vX 2), tV Q4 vY, tV Q4 (K1 vY 2), tV Q4 (Y8 4 (K1 vX 2) (Z2 (K1 vY 2) (-1))), tV Q4 vX, tV Q4 vY, tV Q4 (Y8 4 vX vY), W0 [tV Q4 (Y8 4 vX (Z2 vY (-1))), tIs (.int .i64 0)], W0 [tV Q4 (Y8 4 vX (Z2 vY (-1))), tIs (.int .i64 0)], tV Q4 (Y8 4 vX (Z2 vY (-1))), tIs (.int .i64 0), X6 b3 0, K6, tIs (.int .i64 0)]) (fun i => [0, 1, 2, 3, 4, 5, 6, 7, 8, 9, 10, 12, 13].contains i) (fun _ => false) rfl rfl (fun _ => ⟨.inr rfl, ⟨.inr rfl, ⟨.inr rfl, ⟨.inr rfl, ⟨.inr rfl, ⟨.inr rfl, ⟨.inr rfl, ⟨.inr rfl, ⟨.inr rfl, ⟨.inr rfl, ⟨.inr rfl, ⟨.inr rfl, ⟨.inr rfl, ⟨.inl rfl, ⟨.inl rfl, trivial⟩⟩⟩⟩⟩⟩⟩⟩⟩⟩⟩⟩⟩⟩⟩) (by kernel_rfl) ?op2_13 ?mx2_13
  case op2_13 =>
   intro Γx hx
   refine J.store (.move hx (.t rfl) (by kernel_rfl)) (.eq (.move hx (.t rfl) (by kernel_rfl)) (Y9 (Ts := (pT (Y8 4 vX (Z2 vY (-1))))) (Q0 _))) .here U0 (Z1 (Ts' := (pT (Y8 4 vX (Z2 vY (-1))))) (o := 0) rfl) ?_
   exact J.midP (Hb := fun κ => [⟨b3, 28, cTs (pT (Y8 4 vX (Z2 vY (-1))))⟩, ⟨b2, 28, cTs (pT vY)⟩, ⟨b1, 28, cTs (pT vX)⟩]) (Tb := fun κ => [tV Q4 vX, tV Q4 (K1 vX 2), tV Q4 vY, tV Q4 (K1 vY 2), tV Q4 (Y8 4 (K1 vX 2) (Z2 (K1 vY 2) (-1))), tV Q4 vX, tV Q4 vY, tV Q4 (Y8 4 vX vY), W0 [tV Q4 (Y8 4 vX (Z2 vY (-1))), tIs (.int .i64 0)], W0 [tV Q4 (Y8 4 vX (Z2 vY (-1))), tIs (.int .i64 0)], tV Q4 (Y8 4 vX (Z2 vY (-1))), tIs (.int .i64 0), X6 b3 0, K6, tIs (.int .i64 0)]) (n := 13) () rfl
  case mx2_13 =>
   intro _
   refine RP.last (al := (fun i => [11, 14].contains i)) (Γn := []) (Γ' := [(4, tIs (.int .i64 0)), (3, X6 b3 0), (18, tIs (.int .i64 0)), (17, tV Q4 (Y8 4 vX (Z2 vY (-1)))), (7, W0 [tV Q4 (Y8 4 vX (Z2 vY (-1))), tIs (.int .i64 0)]), (16, W0 [tV Q4 (Y8 4 vX (Z2 vY (-1))), tIs (.int .i64 0)]), (15, tV Q4 (Y8 4 vX vY)), (14, tV Q4 vY), (13, tV Q4 vX), (12, tV Q4 (Y8 4 (K1 vX 2) (Z2 (K1 vY 2) (-1)))), (11, tV Q4 (K1 vY 2)), (10, tV Q4 vY), (9, tV Q4 (K1 vX 2)), (8, tV Q4 vX), (2, X6 b2 0), (1, X6 b1 0), (0, tIs (.bool false))]) (by kernel_rfl) (by kernel_rfl) ?tp3 ?_
   case tp3 =>
    refine TP.skip rfl rfl rfl ?_
    refine TP.skip rfl rfl rfl ?_
    refine TP.skip rfl rfl rfl ?_
    refine TP.skip rfl rfl rfl ?_
    refine TP.skip rfl rfl rfl ?_
    refine TP.skip rfl rfl rfl ?_
    refine TP.skip rfl rfl rfl ?_
    refine TP.skip rfl rfl rfl ?_
    refine TP.skip rfl rfl rfl ?_
    refine TP.skip rfl rfl rfl ?_
    refine TP.skip rfl rfl rfl ?_
    refine TP.op (Z3 (.t rfl) rfl) rfl (ltN rfl) rfl rfl ?_
    refine TP.skip rfl rfl rfl ?_
    refine TP.skip0 rfl rfl rfl ?_
    refine TP.op (Z9 (.t rfl)) rfl (ltN rfl) rfl rfl ?_
    exact TP.nil
   refine JQ.then_normal (JC.seq ?_)
   refine JC.draw (Γ' := ?g2) mo (by kernel_rfl) ?tw2 ?k2
   case tw2 =>
    refine TW.M rfl rfl (TW.o (W4 (.t rfl) .is) rfl (TW.M rfl rfl ?_))
    refine TW.opg rfl rfl rfl (ltN rfl) (fun hg => oa (.t rfl) (.head _) Z8 (Q7 (g := Y5) (y := (Y8 4 vX (Z2 vY (-1)))) (Q0 (Y8 4 vX (Z2 vY (-1)))).symm rfl)) rfl (ltN rfl) ?_
    refine TW.opg rfl rfl rfl (ltN rfl) (fun hg => oa (.t rfl) (.tail _ (.tail _ (.head _))) Z8 (Q7 (g := Y5) (y := vX) (Q0 vX).symm rfl)) rfl (ltN rfl) ?_
    refine TW.opg rfl rfl rfl (ltN rfl) (fun hg => oa (.t rfl) (.tail _ (.head _)) Z8 (Q7 (g := Y5) (y := vY) (Q0 vY).symm rfl)) rfl (ltN rfl) ?_
    refine TW.opg rfl rfl rfl (ltN rfl) (fun hg => oc fn68 (subK_c vX vY (T7 : Pg 2 1 vX) (T7 : Pg 2 1 vY) ⟨by decide, by decide⟩) (.cons (.iff hg (.t rfl)) (.cons (.iff hg (.t rfl)) .nil))) rfl (ltN rfl) ?_
    refine TW.opg rfl rfl rfl (ltN rfl) (fun hg => oc fn31 (sameK_c (Y8 4 vX (Z2 vY (-1))) (Y8 4 vX (Z2 vY (-1))) ((T7 : Pg 2 1 vX).add (T7 : Pg 2 1 vY).neg (by decide)) ⟨by decide, by decide⟩ rfl) (.cons (.iff hg (.t rfl)) (.cons (.iff hg (.t rfl)) .nil))) rfl (ltN rfl) ?_
    refine TW.o (T8 (.t rfl) (.t rfl) .is) rfl (TW.M rfl rfl ?_)
    refine TW.opg rfl rfl rfl (ltN rfl) (fun hg => oa (.t rfl) (.tail _ (.tail _ (.head _))) Z8 (Q7 (g := Y5) (y := vX) (Q0 vX).symm rfl)) rfl (ltN rfl) ?_
    refine TW.opg rfl rfl rfl (ltN rfl) (fun hg => oa (.t rfl) (.tail _ (.tail _ (.head _))) Z8 (Q7 (g := Y5) (y := vX) (Q0 vX).symm rfl)) rfl (ltN rfl) ?_
    refine TW.opg rfl rfl rfl (ltN rfl) (fun hg => oa (.t rfl) (.tail _ (.head _)) Z8 (Q7 (g := Y5) (y := vY) (Q0 vY).symm rfl)) rfl (ltN rfl) ?_
    refine TW.opg rfl rfl rfl (ltN rfl) (fun hg => oc fn29 (mulK_c vX vY (T7 : Pg 2 1 vX) (T7 : Pg 2 1 vY) ⟨⟨by decide, by decide, by decide⟩, by decide⟩) (.cons (.iff hg (.t rfl)) (.cons (.iff hg (.t rfl)) .nil))) rfl (ltN rfl) ?_
    refine TW.opg rfl rfl rfl (ltN rfl) (fun hg => X8 (T' := tIs (.bool true)) (oc fn33 (divides_c vX (V5 4 vX vY) (((T7 : Pg 2 1 vX).mul (T7 : Pg 2 1 vY) (by decide) (by decide) : Pg 4 2 _).mono (by decide) (by decide)) ((T7 : Pg 2 1 vX).mono (by decide) (by decide)) (pg_small2 ((T7 : Pg 2 1 vX).mono (by decide) (by decide) : Pg 2 2 vX)) rm_small (by decide)) (.cons (.iff hg (.t rfl)) (.cons (.iff hg (.t rfl)) .nil))) (by rw [fit_dv])) rfl (ltN rfl) ?_
    refine TW.o (T8 (.t rfl) (.t rfl) .is) rfl (TW.M rfl rfl ?_)
    refine TW.opg rfl rfl rfl (ltN rfl) (fun hg => oa (.t rfl) (.tail _ (.tail _ (.head _))) Z8 (Q7 (g := Y5) (y := vX) (Q0 vX).symm rfl)) rfl (ltN rfl) ?_
    refine TW.opg rfl rfl rfl (ltN rfl) (fun hg => oa (.t rfl) (.tail _ (.head _)) Z8 (Q7 (g := Y5) (y := vY) (Q0 vY).symm rfl)) rfl (ltN rfl) ?_
    refine TW.opg rfl rfl rfl (ltN rfl) (fun hg => X8 (T' := tIs (.bool false)) (oc fn33 (divides_c vX vY ((T7 : Pg 2 1 vY).mono (by decide) (by decide)) ((T7 : Pg 2 1 vX).mono (by decide) (by decide)) (pg_small2 ((T7 : Pg 2 1 vX).mono (by decide) (by decide) : Pg 2 2 vX)) rm_small (by decide)) (.cons (.iff hg (.t rfl)) (.cons (.iff hg (.t rfl)) .nil))) (by rw [fit_no])) rfl (ltN rfl) ?_
    refine TW.opg rfl rfl rfl (ltN rfl) (fun hg => ot_not (.iff hg (.t rfl))) rfl (ltN rfl) ?_
    refine TW.o (T8 (.t rfl) (.t rfl) .is) rfl ?_
    refine TW.o (Z9 (.t rfl)) rfl ?_
    exact TW.nil
   refine JQ.then_normal (JC.ret ?_)
   exact JQ.ret1 rfl (.tmp (.eq (.t rfl) (by first | rfl | (congr 3; omega) | (congr 2; omega) | simp [*])))

theorem level_c {D B : Nat} (p : Pol) (hp : Pg D B p) (hb : D ≤ 4294967296 ∧ B ≤ 90000000000) : Ctr Try.prog 38 [tV Q4 p] (tIs (.int .i64 (p.lv))) := by
 refine Ctr.of Try.func38 rfl Try.ntmps38 (Nat.le_of_ble_eq_true rfl) fun w0 M0 => (JC.g ?_)
 refine J.boxF (Ts := (pT p)) (.t rfl) (Q0 _) (ltN rfl) fun b1 => ?_
 refine J.a .is rfl (J.e (JC.g (J.o (oa (.t rfl) (.head _) Z8 (Q7 (g := Y5) (y := p) (Q0 p).symm rfl)) rfl ?_)))
 refine J.o (oc fn45 (normK_c p (by assumption) (by omega)) (.cons (.t rfl) .nil)) rfl ?_
 refine J.o (ot_fieldV (.t rfl) fd28_0 sc3 (by rw [Q0]; rfl)) rfl (J.A rfl rfl (J.e (JC.ret ?_)))
 exact JQ.ret1 rfl (.tmp (.t rfl))

theorem sisZero_c {B : Nat} (ts : List Tm) (hl : ts.length ≤ 4294967295) (hd : ∀ t ∈ ts, V8 t.coef.abs) (hz : ∀ t ∈ ts, t.coef.abs.length ≤ B) (hb : B ≤ 1000000000000) : Ctr Try.prog 48 [tSl X4 ts] (tIs (.bool (decide (((X3 ts).length : Int) = 0)))) := by
 have hnl : (X3 ts).length ≤ 4294967296 := Nat.le_trans (normS_len ts) (by omega)
 refine Ctr.of Try.func48 rfl Try.ntmps48 (Nat.le_of_ble_eq_true rfl) fun w0 M0 => (JC.g ?_)
 refine J.a .is rfl (J.e (JC.g (J.M rfl rfl ?_)))
 refine J.o (oc fn93 (normSG_c ts (by assumption) (by assumption) (by assumption) (by assumption)) (.cons (.t rfl) .nil)) rfl (J.o (Y6 (.t rfl) R0 rfl) rfl (J.o (W4 (.t rfl) .is) rfl (J.A rfl rfl (J.e (JC.ret ?_)))))
 exact JQ.ret1 rfl (.tmp (.t rfl))

theorem slevel_c {B : Nat} (ts : List Tm) (hl : ts.length ≤ 4294967295) (hd : ∀ t ∈ ts, V8 t.coef.abs) (hz : ∀ t ∈ ts, t.coef.abs.length ≤ B) (hb : B ≤ 1000000000000) (hz2 : ∀ t ∈ X3 ts, t.coef.abs.length ≤ 1099511627776) : Ctr Try.prog 49 [tSl X4 ts] (tIs (.int .i64 (levT (X3 ts)))) := by
 have hnl : (X3 ts).length ≤ 4294967296 := Nat.le_trans (normS_len ts) (by omega)
 refine Ctr.ofM Try.func49 rfl Try.ntmps49 (Nat.le_of_ble_eq_true rfl) fun w0 M0 => (JC.g ?_)
 refine J.a .is rfl (J.e (JC.g ?_))
 refine J.alloc (R := cTs [tIs (.int .i64 0)]) zr3 (fun _ => ⟨rfl, rfl, trivial⟩) (ltN rfl) fun b3 => ?_
 refine J.store (.t rfl) .is .here sz3 (st_cell (o := 0) (one_is rfl rfl) rfl) (J.e (JC.seq (JC.g (J.M rfl rfl ?_))))
 refine J.o (oc fn71 (sptermsG_c ts (by assumption) (by assumption) (by assumption) (by assumption)) (.cons (.t rfl) .nil)) rfl (J.e (JC.block ?_))
 refine JC.rangeFunc (ps := [9, 10]) (f := 102) (Us := [tPtr (cTs [tSl X4 (X3 ts)])]) (n := (X3 ts).length) (Ts := fun k => [tV encMo ((atT (X3 ts) k).exp), tV R5 (ofI (X2 (atT (X3 ts) k).coef))]) (Γ0 := [(2, tIs (.int .i64 0)), (3, X6 b3 0), (8, tClo 102 [tPtr (cTs [tSl X4 (X3 ts)])])]) (fun k => [⟨b3, 3, cTs [tIs (.int .i64 (levT ((X3 ts).take k)))]⟩]) (.t rfl) fn102 (termsY (X3 ts) hnl hz2) rfl ?rs0 (fun _ => rfl) rfl (fun _ => rfl) ?rr0 ?rd0
 case rs0 => exact Q5 (Q8 (.k .nil)) (Z0 ⟨.t rfl, .t rfl, .t rfl, trivial⟩)
 case rr0 =>
  intro k hk l w0 M0 L Q1 hend1
  refine JCR.weak (Γ' := [(10, tV R5 (ofI (X2 (atT (X3 ts) k).coef))), (9, tV encMo ((atT (X3 ts) k).exp)), (2, tIs (.int .i64 0)), (3, X6 b3 0), (8, tClo 102 [tPtr (cTs [tSl X4 (X3 ts)])])]) (H' := [⟨b3, 3, cTs [tIs (.int .i64 (levT ((X3 ts).take k)))]⟩]) (fun _ _ h => h) ?_
  refine JCR.region ?_
  refine J.alloc (R := cTs [tIs (.int .i64 0), tIs (.int .i64 0), tIs (.int .i64 0), tIs (.int .i64 0)]) zr95 (fun _ => ⟨rfl, rfl, rfl, rfl, rfl, rfl, rfl, rfl, trivial⟩) (ltN rfl) fun b4 => ?_
  refine J.store (.t rfl) (.eq (.t rfl) (Y9 (Ts := [tIs (.int .i64 (((atT (X3 ts) k).exp).a)), tIs (.int .i64 (((atT (X3 ts) k).exp).b)), tIs (.int .i64 (((atT (X3 ts) k).exp).c)), tIs (.int .i64 (((atT (X3 ts) k).exp).d))]) rfl)) .here sz95 (Z1 (Ts' := [tIs (.int .i64 (((atT (X3 ts) k).exp).a)), tIs (.int .i64 (((atT (X3 ts) k).exp).b)), tIs (.int .i64 (((atT (X3 ts) k).exp).c)), tIs (.int .i64 (((atT (X3 ts) k).exp).d))]) (o := 0) rfl) (J.nil ?_)
  refine hend1 _ _ fun w1 M1 L1 Q2 hend2 => ?_
  refine JCR.block (JCR.seq (JCR.region (J.o (oa (.t rfl) (.head _) ag95 (Q7 (g := moT) (y := ((atT (X3 ts) k).exp)) rfl rfl)) rfl ?_)))
  refine J.m .is rfl (J.nil (JQR.then_normal (JCR.block ?_)))
  refine JCR.loop (ι := Nat) (fun i => [(2, tIs (.int .i64 0)), (3, X6 b3 0), (11, tV encMo ((atT (X3 ts) k).exp)), (12, tIs (.int .i64 (i : Int)))]) (fun i => [⟨b4, 95, cTs [tIs (.int .i64 (((atT (X3 ts) k).exp).a)), tIs (.int .i64 (((atT (X3 ts) k).exp).b)), tIs (.int .i64 (((atT (X3 ts) k).exp).c)), tIs (.int .i64 (((atT (X3 ts) k).exp).d))]⟩, ⟨b3, 3, cTs [tIs (.int .i64 (lev1 (atT (X3 ts) k).exp i (levT ((X3 ts).take k))))]⟩]) (fun i => i ≤ 4) (fun i => 4 - i) 0 (by omega) ?lsub0 ?round0
  case lsub0 => exact Q5 (Q8 (.k (.k .nil))) (Z0 ⟨.t rfl, .t rfl, .t rfl, .eq (.t rfl) (by first | rfl | (congr 3; omega) | (congr 2; omega)), trivial⟩)
  intro i hinv
  refine JCR.seq (JCR.region (J.o (Y3 (.t rfl) .is) rfl (J.nil (JQR.then_normal (JCR.seq ?_)))))
  refine JCR.cond (.t rfl) (fun hc0 => ?_) (fun hc0 => ?_)
  ·try simp only [bsx] at hc0
   have hs13 := hc0
   refine JCR.skip (JQR.then_normal (JCR.seq (JCR.block (JCR.seq (JCR.region (J.M rfl rfl ?_))))))
   refine J.o (ot_indexA (.t rfl) (.t rfl) ar4_95 (by omega) (by omega)) rfl (J.A rfl rfl (J.A rfl rfl (J.nil (JQR.then_normal (JCR.seq (JCR.region (J.M rfl rfl (J.o (ot_gtr (.t rfl) .is) rfl (J.nil (JQR.then_normal ?_))))))))))
   refine JCR.cond (.t rfl) (fun hc1 => ?_) (fun hc1 => ?_)
   ·try simp only [bsx] at hc1
    have hs17 := hc1
    refine JCR.region (J.o (ol (.t rfl) (.tail _ (.head _)) sc3 (Y0 rfl)) rfl (J.M rfl rfl ?_))
    refine J.o (Z5 (.t rfl) .is (w64 (by omega) (by omega))) rfl ?_
    refine J.o (ot_max (.t rfl) (.t rfl)) rfl ?_
    refine J.store (.t rfl) (.t rfl) (.there .here) sz3 (st_cell (o := 0) (one_is rfl rfl) rfl) (J.nil (JQ.block_normal (JQR.then_normal (JCR.region ?_))))
    refine J.o (Z5 (.t rfl) .is (w64 (by omega) (by omega))) rfl (J.M rfl rfl (J.nil ?_))
    exact JQ.round (i + 1) (by omega) (by omega) (Q5 (Q8 (.k (.keep (fun _ _ h => by rw [lev1, if_pos (by simpa using hs17)]; exact h) .nil))) (Z0 ⟨.t rfl, .t rfl, .t rfl, .eq (.t rfl) (by first | rfl | (congr 3; omega) | (congr 2; omega)), trivial⟩))
   ·try simp only [bsx] at hc1
    have hs17 := hc1
    refine JCR.skip (JQ.block_normal (JQR.then_normal (JCR.region ?_)))
    refine J.o (Z5 (.t rfl) .is (w64 (by omega) (by omega))) rfl (J.M rfl rfl (J.nil ?_))
    exact JQ.round (i + 1) (by omega) (by omega) (Q5 (Q8 (.k (.keep (fun _ _ h => by rw [lev1, if_neg (by simpa using hs17)]; exact h) .nil))) (Z0 ⟨.t rfl, .t rfl, .t rfl, .eq (.t rfl) (by first | rfl | (congr 3; omega) | (congr 2; omega)), trivial⟩))
  ·try simp only [bsx] at hc0
   have hs13 := hc0
   have hi4 : i = 4 := by omega
   refine JCR.exit (JQ.then_exit (JQ.then_exit (JQ.block_exit (JQ.block_normal ?_))))
   exact JQ.weak (Q5 (Q8 (.drop (.keep (fun _ _ h => by rw [← levT_step hk, ← hi4]; exact h) .nil))) sub_nil) hend2
 case rd0 =>
  intro D w1 M1 L1 hrb
  refine JQ.block_normal (JQ.then_normal (JC.g (J.o (ol (.t rfl) (.head _) sc3 (Y0 rfl)) rfl (J.A rfl rfl (J.e (JC.ret ?_))))))
  exact JQ.retM1_ret hrb rfl (.tmp (.eq (.t rfl) (by first | rfl | (congr 3; omega) | (congr 2; omega) | simp [*])))

theorem strip_c {E u B : Nat} (D : Nat) (g f : Pol) (pf : Pg D B f) (pg : Pg E u g) (ng : nrm g + 2 ≤ B32 ^ u) (rm : Rm 4 D E u (B + D * gM 4 D E u)) (hE : (E + 1) ^ 4 ≤ 1000000000) : Ctr Try.prog 86 [tV Q4 g, tV Q4 f] (W0 [tIs (.int .i64 (((stNR D g f).1 : Int))), tV Q4 ((stNR D g f).2), tIs (.int .i64 (stE g f))]) := by
 have hb := rm.base
 have hgl := pg.can.lev.lv
 refine Ctr.of Try.func86 rfl Try.ntmps86 (Nat.le_of_ble_eq_true rfl) fun w0 M0 => (JC.g ?_)
 refine J.boxF (Ts := (pT g)) (.t rfl) (Q0 _) (ltN rfl) fun b2 => ?_
 refine J.boxF (Ts := (pT f)) (.t rfl) (Q0 _) (ltN rfl) fun b3 => ?_
 refine J.a .is rfl ?_
 refine J.alloc (R := cTs zP) W9 (fun _ => ⟨rfl, rfl, rfl, rfl, Q9 _ _, rfl, Q9 _ _, rfl, trivial⟩) (ltN rfl) fun b5 => ?_
 refine J.a .is rfl (J.e (JC.seq (JC.g (J.o (oa (.t rfl) (.tail _ (.head _)) Z8 (Q7 (g := Y5) (y := f) (Q0 f).symm rfl)) rfl ?_))))
 refine J.o (K3 (E := Q4) (zs := [f]) W5 (.cons (.t rfl) .nil) rfl W9 rfl (by decide) (by decide)) rfl ?_
 refine J.o (oc fn73 (zeros_c f pf ⟨by omega, by omega⟩) (.cons (.t rfl) .nil)) rfl (J.A rfl rfl (J.e (JC.g (J.M rfl rfl (J.o (ot_neq (.t rfl) .is) rfl (J.e ?_))))))
 refine JC.cond (.t rfl) (fun hc0 => ?_) (fun hc0 => ?_)
 ·try simp only [bsx] at hc0
  have hs17 := hc0
  have hz : Z4 f = true := by cases hz : Z4 f with | true => rfl | false => rw [hz] at hs17; simp at hs17
  obtain ⟨s1, s2⟩ := stNR_zero (D := D) (g := g) hz
  refine (JC.g ?_)
  refine J.o (X8 (T' := tV Q4 (Pol.mk 0 (Z.mk false ([])) ([]))) (V3 (Ts := zP) pl28 (fun _ => ⟨rfl, rfl, rfl, rfl, Q9 _ _, rfl, Q9 _ _, rfl, trivial⟩) (.nil) rfl) (tV_F' (Q0 _))) rfl (J.M rfl rfl ?_)
  refine J.a .is rfl ?_
  refine J.store (.t rfl) (.eq (.t rfl) (Y9 (Ts := zP) (Q0 _))) .here U0 (Z1 (Ts' := zP) (o := 0) rfl) (J.A rfl rfl (J.e (JC.ret (JQ.then_ret ?_))))
  exact JQ.ret3 rfl (.tmp (.eq (.t rfl) (by rw [s1]; rfl))) (.agg (.t rfl) (.head _) Z8 (V7 (T := tV Q4 (Pol.mk 0 (Z.mk false ([])) ([]))) (T' := tV Q4 ((stNR D g f).2)) (by rw [s1]; rfl) (Q7 (g := Y5) (y := (Pol.mk 0 (Z.mk false ([])) ([]))) (Q0 (Pol.mk 0 (Z.mk false ([])) ([]))).symm rfl))) (.tmp (.eq (.t rfl) (by rw [s2, if_pos hz])))
 ·try simp only [bsx] at hc0
  have hs17 := hc0
  have hz : Z4 f = false := by cases hz : Z4 f with | false => rfl | true => rw [hz] at hs17; simp at hs17
  refine JC.skip (JQ.then_normal (JC.seq (JC.g (J.o (oa (.t rfl) (.tail _ (.tail _ (.head _))) Z8 (Q7 (g := Y5) (y := g) (Q0 g).symm rfl)) rfl ?_))))
  refine J.o (oc fn38 (level_c g pg ⟨by omega, by omega⟩) (.cons (.t rfl) .nil)) rfl (J.o (W4 (.t rfl) .is) rfl (J.e ?_))
  refine JC.cond (.t rfl) (fun hc1 => ?_) (fun hc1 => ?_)
  ·try simp only [bsx] at hc1
   have hs22 := hc1
   obtain ⟨s1, s2⟩ := stNR_const (D := D) hz hs22
   refine (JC.g ?_)
   refine J.o (X8 (T' := tV Q4 (Pol.mk 0 (Z.mk false ([])) ([]))) (V3 (Ts := zP) pl28 (fun _ => ⟨rfl, rfl, rfl, rfl, Q9 _ _, rfl, Q9 _ _, rfl, trivial⟩) (.nil) rfl) (tV_F' (Q0 _))) rfl ?_
   refine J.a .is rfl ?_
   refine J.store (.t rfl) (.eq (.t rfl) (Y9 (Ts := zP) (Q0 _))) .here U0 (Z1 (Ts' := zP) (o := 0) rfl) ?_
   refine J.a .is rfl (J.e (JC.ret (JQ.then_ret ?_)))
   exact JQ.ret3 rfl (.tmp (.eq (.t rfl) (by rw [s1]; rfl))) (.agg (.t rfl) (.head _) Z8 (V7 (T := tV Q4 (Pol.mk 0 (Z.mk false ([])) ([]))) (T' := tV Q4 ((stNR D g f).2)) (by rw [s1]; rfl) (Q7 (g := Y5) (y := (Pol.mk 0 (Z.mk false ([])) ([]))) (Q0 (Pol.mk 0 (Z.mk false ([])) ([]))).symm rfl))) (.tmp (.eq (.t rfl) (by rw [s2])))
  ·try simp only [bsx] at hc1
   have hs22 := hc1
   obtain ⟨s1, s2⟩ := stNR_ok (D := D) hz hs22
   obtain ⟨l, hl⟩ : ∃ l : Nat, g.lv = ((l + 1 : Nat) : Int) := ⟨g.lv.toNat - 1, by omega⟩
   have hS := StH.of pg ng hb.2.1 hl
   have hgz := lv_nz hs22
   have ph := pg.msign hb.2.1 hgz
   refine JC.skip (JQ.then_normal (JC.seq ?_))
   refine JC.weak (Γ' := [(6, tIs (.int .i64 0)), (5, X6 b5 0), (4, tIs (.int .i64 0)), (3, X6 b3 0), (2, X6 b2 0)]) (H' := [⟨b5, 28, cTs zP⟩, ⟨b3, 28, cTs (pT f)⟩, ⟨b2, 28, cTs (pT g)⟩]) (Q5 (Q8 (.k (.k (.k .nil)))) (Z0 ⟨.t rfl, .t rfl, .t rfl, .t rfl, .t rfl, trivial⟩)) ?_
   refine JC.drawP (Ts := [tV Q4 g, tV Q4 (msign g), tV Q4 f, tV Q4 f, K6, K6, K6, K6]) (un := (fun i => [4, 5, 6, 7].contains i)) mo (by kernel_rfl) ?_
   suffices both : ∀ b8 b9, RP _ _ _ _ [⟨b9, 28, cTs zP⟩, ⟨b8, 28, cTs zP⟩, ⟨b5, 28, cTs zP⟩, ⟨b3, 28, cTs (pT f)⟩, ⟨b2, 28, cTs (pT g)⟩] [tV Q4 g, tV Q4 (msign g), tV Q4 f, tV Q4 f, X6 b8 0, X6 b9 0, K6, K6] (fun i => [4, 5].contains i) (fun i => [6, 7].contains i) by
    refine RP.two (al := (fun i => [0, 1, 2, 3].contains i)) (Γn := [(27, tV Q4 f), (26, tV Q4 f), (25, tV Q4 (msign g)), (24, tV Q4 g), (6, tIs (.int .i64 0)), (5, X6 b5 0), (4, tIs (.int .i64 0)), (3, X6 b3 0), (2, X6 b2 0)]) (Γ' := ?pg1) 4 5 (by kernel_rfl) (by kernel_rfl) ?tp1 ?nx1 ?ny1
    case tp1 =>
     refine TP.op (oa (.t rfl) (.tail _ (.tail _ (.head _))) Z8 (Q7 (g := Y5) (y := g) (Q0 g).symm rfl)) rfl (ltN rfl) rfl rfl ?_
     refine TP.op (oc fn21 (msign_c g (pg.fit (by omega)) pg.nr (pg.cnt_le hE) (by omega) (pg.terms_le hb.2.1 hE) (by rw [norm_can pg.can]; exact R4 hgz)) (.cons (.t rfl) .nil)) rfl (ltN rfl) rfl rfl ?_
     refine TP.op (oa (.t rfl) (.tail _ (.head _)) Z8 (Q7 (g := Y5) (y := f) (Q0 f).symm rfl)) rfl (ltN rfl) rfl rfl ?_
     refine TP.op (oc fn45 (normK_c f pf ⟨by omega, by omega⟩) (.cons (.t rfl) .nil)) rfl (ltN rfl) rfl rfl ?_
     refine TP.at rfl rfl ?_
     refine TP.skip rfl rfl rfl ?_
     refine TP.skip0 rfl rfl rfl ?_
     refine TP.skip0 rfl rfl rfl ?_
     exact TP.nil
    case nx1 =>
     refine OneStep.mk (ι := Nat) (Hb := fun κ => [⟨κ, 28, cTs zP⟩, ⟨b5, 28, cTs zP⟩, ⟨b3, 28, cTs (pT f)⟩, ⟨b2, 28, cTs (pT g)⟩]) (Tb := fun κ => [tV Q4 g, tV Q4 (msign g), tV Q4 f, tV Q4 f, X6 κ 0, K6, K6, K6]) (fun i => [4].contains i) (fun i => [5, 6, 7].contains i) rfl rfl (fun _ => ⟨.inr rfl, ⟨.inr rfl, ⟨.inr rfl, ⟨.inr rfl, ⟨.inl rfl, ⟨.inl rfl, ⟨.inl rfl, ⟨.inl rfl, trivial⟩⟩⟩⟩⟩⟩⟩⟩) (by kernel_rfl) ?op1_4 ?mx1_4
     case op1_4 =>
      intro Γx hx
      refine J.alloc (R := cTs zP) W9 (fun _ => ⟨rfl, rfl, rfl, rfl, Q9 _ _, rfl, Q9 _ _, rfl, trivial⟩) (ltN rfl) fun b8 => ?_
      exact J.midP (Hb := fun κ => [⟨κ, 28, cTs zP⟩, ⟨b5, 28, cTs zP⟩, ⟨b3, 28, cTs (pT f)⟩, ⟨b2, 28, cTs (pT g)⟩]) (Tb := fun κ => [tV Q4 g, tV Q4 (msign g), tV Q4 f, tV Q4 f, X6 κ 0, K6, K6, K6]) (n := 4) b8 rfl
     case mx1_4 =>
      intro b8
      refine RP.step (al := (fun i => [0, 1, 2, 3].contains i)) (Γn := [(8, X6 b8 0), (27, tV Q4 f), (26, tV Q4 f), (25, tV Q4 (msign g)), (24, tV Q4 g), (6, tIs (.int .i64 0)), (5, X6 b5 0), (4, tIs (.int .i64 0)), (3, X6 b3 0), (2, X6 b2 0)]) (Γ' := ?pg2) 5 (by kernel_rfl) (by kernel_rfl) ?tp2 ?nx2
      case tp2 =>
       refine TP.op (oa (.t rfl) (.tail _ (.tail _ (.tail _ (.head _)))) Z8 (Q7 (g := Y5) (y := g) (Q0 g).symm rfl)) rfl (ltN rfl) rfl rfl ?_
       refine TP.op (oc fn21 (msign_c g (pg.fit (by omega)) pg.nr (pg.cnt_le hE) (by omega) (pg.terms_le hb.2.1 hE) (by rw [norm_can pg.can]; exact R4 hgz)) (.cons (.t rfl) .nil)) rfl (ltN rfl) rfl rfl ?_
       refine TP.op (oa (.t rfl) (.tail _ (.tail _ (.head _))) Z8 (Q7 (g := Y5) (y := f) (Q0 f).symm rfl)) rfl (ltN rfl) rfl rfl ?_
       refine TP.op (oc fn45 (normK_c f pf ⟨by omega, by omega⟩) (.cons (.t rfl) .nil)) rfl (ltN rfl) rfl rfl ?_
       refine TP.skip rfl rfl rfl ?_
       refine TP.at rfl rfl ?_
       refine TP.skip0 rfl rfl rfl ?_
       refine TP.skip0 rfl rfl rfl ?_
       exact TP.nil
      case nx2 =>
      refine OneStep.mk (ι := Nat) (Hb := fun κ => [⟨κ, 28, cTs zP⟩, ⟨b8, 28, cTs zP⟩, ⟨b5, 28, cTs zP⟩, ⟨b3, 28, cTs (pT f)⟩, ⟨b2, 28, cTs (pT g)⟩]) (Tb := fun κ => [tV Q4 g, tV Q4 (msign g), tV Q4 f, tV Q4 f, X6 b8 0, X6 κ 0, K6, K6]) (fun i => [4, 5].contains i) (fun i => [6, 7].contains i) rfl rfl (fun _ => ⟨.inr rfl, ⟨.inr rfl, ⟨.inr rfl, ⟨.inr rfl, ⟨.inr rfl, ⟨.inl rfl, ⟨.inl rfl, ⟨.inl rfl, trivial⟩⟩⟩⟩⟩⟩⟩⟩) (by kernel_rfl) ?op2_5 ?mx2_5
      case op2_5 =>
       intro Γx hx
       refine J.alloc (R := cTs zP) W9 (fun _ => ⟨rfl, rfl, rfl, rfl, Q9 _ _, rfl, Q9 _ _, rfl, trivial⟩) (ltN rfl) fun b9 => ?_
       exact J.midP (Hb := fun κ => [⟨κ, 28, cTs zP⟩, ⟨b8, 28, cTs zP⟩, ⟨b5, 28, cTs zP⟩, ⟨b3, 28, cTs (pT f)⟩, ⟨b2, 28, cTs (pT g)⟩]) (Tb := fun κ => [tV Q4 g, tV Q4 (msign g), tV Q4 f, tV Q4 f, X6 b8 0, X6 κ 0, K6, K6]) (n := 5) b9 rfl
      case mx2_5 =>
       intro b9
       exact both b8 b9
    case ny1 =>
     refine OneStep.mk (ι := Nat) (Hb := fun κ => [⟨κ, 28, cTs zP⟩, ⟨b5, 28, cTs zP⟩, ⟨b3, 28, cTs (pT f)⟩, ⟨b2, 28, cTs (pT g)⟩]) (Tb := fun κ => [tV Q4 g, tV Q4 (msign g), tV Q4 f, tV Q4 f, K6, X6 κ 0, K6, K6]) (fun i => [5].contains i) (fun i => [4, 6, 7].contains i) rfl rfl (fun _ => ⟨.inr rfl, ⟨.inr rfl, ⟨.inr rfl, ⟨.inr rfl, ⟨.inl rfl, ⟨.inl rfl, ⟨.inl rfl, ⟨.inl rfl, trivial⟩⟩⟩⟩⟩⟩⟩⟩) (by kernel_rfl) ?op1_5 ?mx1_5
     case op1_5 =>
      intro Γx hx
      refine J.alloc (R := cTs zP) W9 (fun _ => ⟨rfl, rfl, rfl, rfl, Q9 _ _, rfl, Q9 _ _, rfl, trivial⟩) (ltN rfl) fun b9 => ?_
      exact J.midP (Hb := fun κ => [⟨κ, 28, cTs zP⟩, ⟨b5, 28, cTs zP⟩, ⟨b3, 28, cTs (pT f)⟩, ⟨b2, 28, cTs (pT g)⟩]) (Tb := fun κ => [tV Q4 g, tV Q4 (msign g), tV Q4 f, tV Q4 f, K6, X6 κ 0, K6, K6]) (n := 5) b9 rfl
     case mx1_5 =>
      intro b9
      refine RP.step (al := (fun i => [0, 1, 2, 3].contains i)) (Γn := [(27, tV Q4 f), (26, tV Q4 f), (25, tV Q4 (msign g)), (24, tV Q4 g), (6, tIs (.int .i64 0)), (5, X6 b5 0), (4, tIs (.int .i64 0)), (3, X6 b3 0), (2, X6 b2 0)]) (Γ' := ?pg3) 4 (by kernel_rfl) (by kernel_rfl) ?tp3 ?nx3
      case tp3 =>
       refine TP.op (oa (.t rfl) (.tail _ (.tail _ (.tail _ (.head _)))) Z8 (Q7 (g := Y5) (y := g) (Q0 g).symm rfl)) rfl (ltN rfl) rfl rfl ?_
       refine TP.op (oc fn21 (msign_c g (pg.fit (by omega)) pg.nr (pg.cnt_le hE) (by omega) (pg.terms_le hb.2.1 hE) (by rw [norm_can pg.can]; exact R4 hgz)) (.cons (.t rfl) .nil)) rfl (ltN rfl) rfl rfl ?_
       refine TP.op (oa (.t rfl) (.tail _ (.tail _ (.head _))) Z8 (Q7 (g := Y5) (y := f) (Q0 f).symm rfl)) rfl (ltN rfl) rfl rfl ?_
       refine TP.op (oc fn45 (normK_c f pf ⟨by omega, by omega⟩) (.cons (.t rfl) .nil)) rfl (ltN rfl) rfl rfl ?_
       refine TP.at rfl rfl ?_
       refine TP.skip rfl rfl rfl ?_
       refine TP.skip0 rfl rfl rfl ?_
       refine TP.skip0 rfl rfl rfl ?_
       exact TP.nil
      case nx3 =>
      refine OneStep.mk (ι := Nat) (Hb := fun κ => [⟨b9, 28, cTs zP⟩, ⟨κ, 28, cTs zP⟩, ⟨b5, 28, cTs zP⟩, ⟨b3, 28, cTs (pT f)⟩, ⟨b2, 28, cTs (pT g)⟩]) (Tb := fun κ => [tV Q4 g, tV Q4 (msign g), tV Q4 f, tV Q4 f, X6 κ 0, X6 b9 0, K6, K6]) (fun i => [4, 5].contains i) (fun i => [6, 7].contains i) rfl rfl (fun _ => ⟨.inr rfl, ⟨.inr rfl, ⟨.inr rfl, ⟨.inr rfl, ⟨.inl rfl, ⟨.inr rfl, ⟨.inl rfl, ⟨.inl rfl, trivial⟩⟩⟩⟩⟩⟩⟩⟩) (by kernel_rfl) ?op3_4 ?mx3_4
      case op3_4 =>
       intro Γx hx
       refine J.alloc (R := cTs zP) W9 (fun _ => ⟨rfl, rfl, rfl, rfl, Q9 _ _, rfl, Q9 _ _, rfl, trivial⟩) (ltN rfl) fun b8 => ?_
       refine fun a w hs => J.midP (Hb := fun κ => [⟨b9, 28, cTs zP⟩, ⟨κ, 28, cTs zP⟩, ⟨b5, 28, cTs zP⟩, ⟨b3, 28, cTs (pT f)⟩, ⟨b2, 28, cTs (pT g)⟩]) (Tb := fun κ => [tV Q4 g, tV Q4 (msign g), tV Q4 f, tV Q4 f, X6 κ 0, X6 b9 0, K6, K6]) (n := 4) b8 rfl a w hs.swap
      case mx3_4 =>
       intro b8
       exact both b8 b9
   intro b8 b9
   refine RP.step (al := (fun i => [0, 1, 2, 3].contains i)) (Γn := [(9, X6 b9 0), (8, X6 b8 0), (27, tV Q4 f), (26, tV Q4 f), (25, tV Q4 (msign g)), (24, tV Q4 g), (6, tIs (.int .i64 0)), (5, X6 b5 0), (4, tIs (.int .i64 0)), (3, X6 b3 0), (2, X6 b2 0)]) (Γ' := ?pg4) 6 (by kernel_rfl) (by kernel_rfl) ?tp4 ?nx4
   case tp4 =>
    refine TP.op (oa (.t rfl) (.tail _ (.tail _ (.tail _ (.tail _ (.head _))))) Z8 (Q7 (g := Y5) (y := g) (Q0 g).symm rfl)) rfl (ltN rfl) rfl rfl ?_
    refine TP.op (oc fn21 (msign_c g (pg.fit (by omega)) pg.nr (pg.cnt_le hE) (by omega) (pg.terms_le hb.2.1 hE) (by rw [norm_can pg.can]; exact R4 hgz)) (.cons (.t rfl) .nil)) rfl (ltN rfl) rfl rfl ?_
    refine TP.op (oa (.t rfl) (.tail _ (.tail _ (.tail _ (.head _)))) Z8 (Q7 (g := Y5) (y := f) (Q0 f).symm rfl)) rfl (ltN rfl) rfl rfl ?_
    refine TP.op (oc fn45 (normK_c f pf ⟨by omega, by omega⟩) (.cons (.t rfl) .nil)) rfl (ltN rfl) rfl rfl ?_
    refine TP.skip rfl rfl rfl ?_
    refine TP.skip rfl rfl rfl ?_
    refine TP.at0 rfl rfl ?_
    refine TP.skip0 rfl rfl rfl ?_
    exact TP.nil
   case nx4 =>
   refine OneStep.mk (ι := Unit) (Hb := fun κ => [⟨b9, 28, cTs zP⟩, ⟨b8, 28, cTs (pT (msign g))⟩, ⟨b5, 28, cTs zP⟩, ⟨b3, 28, cTs (pT f)⟩, ⟨b2, 28, cTs (pT g)⟩]) (Tb := fun κ => [tV Q4 g, tV Q4 (msign g), tV Q4 f, tV Q4 f, X6 b8 0, X6 b9 0, K6, K6]) (fun i => [0, 1, 2, 3, 4, 5, 6].contains i) (fun i => [7].contains i) rfl rfl (fun _ => ⟨.inr rfl, ⟨.inr rfl, ⟨.inr rfl, ⟨.inr rfl, ⟨.inr rfl, ⟨.inr rfl, ⟨.inl rfl, ⟨.inl rfl, trivial⟩⟩⟩⟩⟩⟩⟩⟩) (by kernel_rfl) ?op4_6 ?mx4_6
   case op4_6 =>
    intro Γx hx
    refine J.store (.move hx (.t rfl) (by kernel_rfl)) (.eq (.move hx (.t rfl) (by kernel_rfl)) (Y9 (Ts := (pT (msign g))) (Q0 _))) (.there .here) U0 (Z1 (Ts' := (pT (msign g))) (o := 0) rfl) ?_
    exact J.midP (Hb := fun κ => [⟨b9, 28, cTs zP⟩, ⟨b8, 28, cTs (pT (msign g))⟩, ⟨b5, 28, cTs zP⟩, ⟨b3, 28, cTs (pT f)⟩, ⟨b2, 28, cTs (pT g)⟩]) (Tb := fun κ => [tV Q4 g, tV Q4 (msign g), tV Q4 f, tV Q4 f, X6 b8 0, X6 b9 0, K6, K6]) (n := 6) () rfl
   case mx4_6 =>
    intro _
    refine RP.step (al := (fun _ => false)) (Γn := [(9, X6 b9 0), (8, X6 b8 0), (27, tV Q4 f), (26, tV Q4 f), (25, tV Q4 (msign g)), (24, tV Q4 g), (6, tIs (.int .i64 0)), (5, X6 b5 0), (4, tIs (.int .i64 0)), (3, X6 b3 0), (2, X6 b2 0)]) (Γ' := ?pg5) 7 (by kernel_rfl) (by kernel_rfl) ?tp5 ?nx5
    case tp5 =>
     refine TP.skip rfl rfl rfl ?_
     refine TP.skip rfl rfl rfl ?_
     refine TP.skip rfl rfl rfl ?_
     refine TP.skip rfl rfl rfl ?_
     refine TP.skip rfl rfl rfl ?_
     refine TP.skip rfl rfl rfl ?_
     refine TP.skip0 rfl rfl rfl ?_
     refine TP.at0 rfl rfl ?_
     exact TP.nil
    case nx5 =>
    refine OneStep.mk (ι := Unit) (Hb := fun κ => [⟨b9, 28, cTs (pT f)⟩, ⟨b8, 28, cTs (pT (msign g))⟩, ⟨b5, 28, cTs zP⟩, ⟨b3, 28, cTs (pT f)⟩, ⟨b2, 28, cTs (pT g)⟩]) (Tb := fun κ => [tV Q4 g, tV Q4 (msign g), tV Q4 f, tV Q4 f, X6 b8 0, X6 b9 0, K6, K6]) (fun i => [0, 1, 2, 3, 4, 5, 6, 7].contains i) (fun _ => false) rfl rfl (fun _ => ⟨.inr rfl, ⟨.inr rfl, ⟨.inr rfl, ⟨.inr rfl, ⟨.inr rfl, ⟨.inr rfl, ⟨.inr rfl, ⟨.inl rfl, trivial⟩⟩⟩⟩⟩⟩⟩⟩) (by kernel_rfl) ?op5_7 ?mx5_7
    case op5_7 =>
     intro Γx hx
     refine J.store (.move hx (.t rfl) (by kernel_rfl)) (.eq (.move hx (.t rfl) (by kernel_rfl)) (Y9 (Ts := (pT f)) (Q0 _))) .here U0 (Z1 (Ts' := (pT f)) (o := 0) rfl) ?_
     exact J.midP (Hb := fun κ => [⟨b9, 28, cTs (pT f)⟩, ⟨b8, 28, cTs (pT (msign g))⟩, ⟨b5, 28, cTs zP⟩, ⟨b3, 28, cTs (pT f)⟩, ⟨b2, 28, cTs (pT g)⟩]) (Tb := fun κ => [tV Q4 g, tV Q4 (msign g), tV Q4 f, tV Q4 f, X6 b8 0, X6 b9 0, K6, K6]) (n := 7) () rfl
    case mx5_7 =>
     intro _
     refine RP.last (al := (fun _ => false)) (Γn := []) (Γ' := [(9, X6 b9 0), (8, X6 b8 0), (27, tV Q4 f), (26, tV Q4 f), (25, tV Q4 (msign g)), (24, tV Q4 g), (6, tIs (.int .i64 0)), (5, X6 b5 0), (4, tIs (.int .i64 0)), (3, X6 b3 0), (2, X6 b2 0)]) (by kernel_rfl) (by kernel_rfl) ?tp6 ?_
     case tp6 =>
      refine TP.skip rfl rfl rfl ?_
      refine TP.skip rfl rfl rfl ?_
      refine TP.skip rfl rfl rfl ?_
      refine TP.skip rfl rfl rfl ?_
      refine TP.skip rfl rfl rfl ?_
      refine TP.skip rfl rfl rfl ?_
      refine TP.skip0 rfl rfl rfl ?_
      refine TP.skip0 rfl rfl rfl ?_
      exact TP.nil
     refine JQ.then_normal (JC.g ?_)
     refine J.a .is rfl (J.e (JC.block ?_))
     refine JC.loop3 (α := Nat) (β := Nat) (γ := Pol) (fun n k r => [(5, X6 b5 0), (8, X6 b8 0), (9, X6 b9 0), (10, tIs (.int .i64 (n : Int)))]) (fun n k r => [⟨b9, 28, cTs (pT r)⟩, ⟨b8, 28, cTs (pT (msign g))⟩, ⟨b5, 28, cTs zP⟩, ⟨b3, 28, cTs (pT f)⟩, ⟨b2, 28, cTs (pT g)⟩]) (fun n k r => StI (msign g) f l D B (gM 4 D E u) n k r ∧ n + k = D ∧ stripF (msign g) k n r = stripF (msign g) D 0 f) (fun n k r => k) 0 D f ⟨StI.of pf hb.1 hS.v4 hz, by omega, rfl⟩ ?lsub0 ?round0
     case lsub0 => exact Q5 (Q8 (.k (.k (.k (.k (.k .nil)))))) (Z0 ⟨.t rfl, .t rfl, .t rfl, .eq (.t rfl) (by first | rfl | (congr 3; omega) | (congr 2; omega)), trivial⟩)
     intro n k r hinv
     obtain ⟨hI, hnk, hst⟩ := hinv
     have hk1 := hI.pos hS.v4
     have hng : n * gM 4 D E u ≤ D * gM 4 D E u := Nat.mul_le_mul_right _ (by omega)
     refine JC.seq (JC.block (JC.g (J.o (oa (.t rfl) (.head _) Z8 (Q7 (g := Y5) (y := r) (Q0 r).symm rfl)) rfl (J.o (oa (.t rfl) (.tail _ (.head _)) Z8 (Q7 (g := Y5) (y := (msign g)) (Q0 (msign g)).symm rfl)) rfl ?_))))
     refine J.o (oc fn28 (pExact_c r (msign g) hI.pg ph hS.nr (Rm.down hb.1 (Nat.le_refl _) (by omega) rm)) (.cons (.t rfl) (.cons (.t rfl) .nil))) rfl (J.M rfl rfl ?_)
     refine J.o (Z3 (.t rfl) rfl) rfl ?_
     refine J.o (Z3 (.t rfl) rfl) rfl ?_
     refine J.alloc (R := cTs zP) W9 (fun _ => ⟨rfl, rfl, rfl, rfl, Q9 _ _, rfl, Q9 _ _, rfl, trivial⟩) (ltN rfl) fun b11 => ?_
     refine J.store (.t rfl) (.eq (.t rfl) (Y9 (Ts := (pT (exQ r (msign g)))) (Q0 _))) .here U0 (Z1 (Ts' := (pT (exQ r (msign g)))) (o := 0) rfl) (J.A rfl rfl (J.e (JC.seq (JC.g (J.M rfl rfl (J.o (ot_neq (.t rfl) .is) rfl (J.e ?_)))))))
     refine JC.cond (.t rfl) (fun hc2 => ?_) (fun hc2 => ?_)
     ·try simp only [bsx] at hc2
      have hs37 := hc2
      have hx := (exE_three hS.nz hs37).2.2.2
      rw [strip_end hx] at hst
      refine JC.seq ?_
      refine JC.weak (Γ' := [(37, tIs (.bool (!decide ((exE r (msign g)) = 0)))), (36, tIs (.int .i64 (exE r (msign g)))), (12, tIs (.int .i64 (exE r (msign g)))), (11, X6 b11 0), (35, tIs (.int .i64 (exE r (msign g)))), (34, tV Q4 (exQ r (msign g))), (30, W0 [tV Q4 (exQ r (msign g)), tIs (.int .i64 (exE r (msign g)))]), (33, W0 [tV Q4 (exQ r (msign g)), tIs (.int .i64 (exE r (msign g)))]), (32, tV Q4 (msign g)), (31, tV Q4 r), (5, X6 b5 0), (8, X6 b8 0), (9, X6 b9 0), (10, tIs (.int .i64 (n : Int)))]) (H' := [⟨b11, 28, cTs (pT (exQ r (msign g)))⟩, ⟨b9, 28, cTs (pT r)⟩, ⟨b8, 28, cTs (pT (msign g))⟩, ⟨b5, 28, cTs zP⟩, ⟨b3, 28, cTs (pT f)⟩, ⟨b2, 28, cTs (pT g)⟩]) (Q5 (Q8 (.k (.k (.k (.k (.k (.k .nil))))))) (Z0 ⟨.t rfl, .t rfl, .t rfl, .t rfl, .t rfl, .t rfl, .t rfl, .t rfl, .t rfl, .t rfl, .t rfl, .t rfl, .t rfl, .t rfl, trivial⟩)) ?_
      refine JC.drawP (Ts := [tIs (.int .i64 (n : Int)), tV Q4 r, tIs (.int .i64 (n : Int)), K6, K6]) (un := (fun i => [3].contains i)) mo (by kernel_rfl) ?_
      refine RP.step (al := (fun i => [0, 1, 2].contains i)) (Γn := [(4, tIs (.int .i64 (n : Int))), (39, tV Q4 r), (38, tIs (.int .i64 (n : Int))), (37, tIs (.bool (!decide ((exE r (msign g)) = 0)))), (36, tIs (.int .i64 (exE r (msign g)))), (12, tIs (.int .i64 (exE r (msign g)))), (11, X6 b11 0), (35, tIs (.int .i64 (exE r (msign g)))), (34, tV Q4 (exQ r (msign g))), (30, W0 [tV Q4 (exQ r (msign g)), tIs (.int .i64 (exE r (msign g)))]), (33, W0 [tV Q4 (exQ r (msign g)), tIs (.int .i64 (exE r (msign g)))]), (32, tV Q4 (msign g)), (31, tV Q4 r), (5, X6 b5 0), (8, X6 b8 0), (9, X6 b9 0), (10, tIs (.int .i64 (n : Int)))]) (Γ' := ?pg7) 3 (by kernel_rfl) (by kernel_rfl) ?tp7 ?nx7
      case tp7 =>
       refine TP.op (Y1 (.t rfl)) rfl (ltN rfl) rfl rfl ?_
       refine TP.op (oa (.t rfl) (.tail _ (.head _)) Z8 (Q7 (g := Y5) (y := r) (Q0 r).symm rfl)) rfl (ltN rfl) rfl rfl ?_
       refine TP.op (Z9 (.t rfl)) rfl (ltN rfl) rfl rfl ?_
       refine TP.at0 rfl rfl ?_
       refine TP.skip rfl rfl rfl ?_
       exact TP.nil
      case nx7 =>
      refine OneStep.mk (ι := Unit) (Hb := fun κ => [⟨b11, 28, cTs (pT (exQ r (msign g)))⟩, ⟨b9, 28, cTs (pT r)⟩, ⟨b8, 28, cTs (pT (msign g))⟩, ⟨b5, 28, cTs (pT r)⟩, ⟨b3, 28, cTs (pT f)⟩, ⟨b2, 28, cTs (pT g)⟩]) (Tb := fun κ => [tIs (.int .i64 (n : Int)), tV Q4 r, tIs (.int .i64 (n : Int)), K6, tIs (.int .i64 0)]) (fun i => [0, 1, 2, 3].contains i) (fun _ => false) rfl rfl (fun _ => ⟨.inr rfl, ⟨.inr rfl, ⟨.inr rfl, ⟨.inl rfl, ⟨.inl rfl, trivial⟩⟩⟩⟩⟩) (by kernel_rfl) ?op7_3 ?mx7_3
      case op7_3 =>
       intro Γx hx
       refine J.store (.move hx (.t rfl) (by kernel_rfl)) (.eq (.move hx (.t rfl) (by kernel_rfl)) (Y9 (Ts := (pT r)) (Q0 _))) (.there (.there (.there .here))) U0 (Z1 (Ts' := (pT r)) (o := 0) rfl) ?_
       exact J.midP (Hb := fun κ => [⟨b11, 28, cTs (pT (exQ r (msign g)))⟩, ⟨b9, 28, cTs (pT r)⟩, ⟨b8, 28, cTs (pT (msign g))⟩, ⟨b5, 28, cTs (pT r)⟩, ⟨b3, 28, cTs (pT f)⟩, ⟨b2, 28, cTs (pT g)⟩]) (Tb := fun κ => [tIs (.int .i64 (n : Int)), tV Q4 r, tIs (.int .i64 (n : Int)), K6, tIs (.int .i64 0)]) (n := 3) () rfl
      case mx7_3 =>
       intro _
       refine RP.last (al := (fun i => [4].contains i)) (Γn := []) (Γ' := [(6, tIs (.int .i64 0)), (4, tIs (.int .i64 (n : Int))), (39, tV Q4 r), (38, tIs (.int .i64 (n : Int))), (37, tIs (.bool (!decide ((exE r (msign g)) = 0)))), (36, tIs (.int .i64 (exE r (msign g)))), (12, tIs (.int .i64 (exE r (msign g)))), (11, X6 b11 0), (35, tIs (.int .i64 (exE r (msign g)))), (34, tV Q4 (exQ r (msign g))), (30, W0 [tV Q4 (exQ r (msign g)), tIs (.int .i64 (exE r (msign g)))]), (33, W0 [tV Q4 (exQ r (msign g)), tIs (.int .i64 (exE r (msign g)))]), (32, tV Q4 (msign g)), (31, tV Q4 r), (5, X6 b5 0), (8, X6 b8 0), (9, X6 b9 0), (10, tIs (.int .i64 (n : Int)))]) (by kernel_rfl) (by kernel_rfl) ?tp8 ?_
       case tp8 =>
        refine TP.skip rfl rfl rfl ?_
        refine TP.skip rfl rfl rfl ?_
        refine TP.skip rfl rfl rfl ?_
        refine TP.skip0 rfl rfl rfl ?_
        refine TP.op (Z9 .is) rfl (ltN rfl) rfl rfl ?_
        exact TP.nil
       refine JQ.then_normal (JC.ret (JQ.then_ret (JQ.block_ret (JQ.then_ret (JQ.then_ret (JQ.block_ret ?_))))))
       exact JQ.ret3 rfl (.tmp (.eq (.t rfl) (by rw [s1, ← hst]))) (.agg (.t rfl) (.tail _ (.tail _ (.tail _ (.head _)))) Z8 (V7 (T := tV Q4 r) (T' := tV Q4 ((stNR D g f).2)) (by rw [s1, ← hst]) (Q7 (g := Y5) (y := r) (Q0 r).symm rfl))) (.tmp (.eq (.t rfl) (by rw [s2])))
     ·try simp only [bsx] at hc2
      have hs37 := hc2
      have hx := exE_zero hS.nz (by simpa using hs37)
      refine JC.skip (JQ.then_normal (JC.region (J.o (oa (.t rfl) (.head _) Z8 (Q7 (g := Y5) (y := (exQ r (msign g))) (Q0 (exQ r (msign g))).symm rfl)) rfl ?_)))
      refine J.store (.t rfl) (.eq (.t rfl) (Y9 (Ts := (pT (exQ r (msign g)))) (Q0 _))) (.there .here) U0 (Z1 (Ts' := (pT (exQ r (msign g)))) (o := 0) rfl) (J.nil (JQ.block_normal (JQ.then_normal (JC.region (J.M rfl rfl ?_)))))
      refine J.o (Z5 (.t rfl) .is (w64 (by omega) (by omega))) rfl (J.A rfl rfl (J.nil ?_))
      exact JQ.round3 (i := n) (i2 := k) (i3 := r) (n + 1) (k - 1) (exQ r (msign g)) ⟨(hI.step hS hb.1 hb.2.1 hx).2, by omega, by rw [strip_step hx hk1]; exact hst⟩ (by omega) (Q5 (Q8 (.drop (.k (.k (.k (.k (.k .nil))))))) (Z0 ⟨.t rfl, .t rfl, .t rfl, .eq (.t rfl) (by first | rfl | (congr 3; omega) | (congr 2; omega)), trivial⟩))

theorem mult_c {E u B : Nat} (D : Nat) (g f : Pol) (pf : Pg D B f) (pg : Pg E u g) (ng : nrm g + 2 ≤ B32 ^ u) (rm : Rm 4 D E u (B + D * gM 4 D E u)) (hE : (E + 1) ^ 4 ≤ 1000000000) : Ctr Try.prog 41 [tV Q4 g, tV Q4 f] (W0 [tIs (.int .i64 (((stNR D g f).1 : Int))), tIs (.int .i64 (stE g f))]) := by
 refine Ctr.of Try.func41 rfl Try.ntmps41 (Nat.le_of_ble_eq_true rfl) fun w0 M0 => (JC.g ?_)
 refine J.boxF (Ts := (pT g)) (.t rfl) (Q0 _) (ltN rfl) fun b2 => ?_
 refine J.boxF (Ts := (pT f)) (.t rfl) (Q0 _) (ltN rfl) fun b3 => ?_
 refine J.a .is rfl ?_
 refine J.a .is rfl (J.e (JC.g (J.o (oa (.t rfl) (.tail _ (.head _)) Z8 (Q7 (g := Y5) (y := g) (Q0 g).symm rfl)) rfl (J.o (oa (.t rfl) (.head _) Z8 (Q7 (g := Y5) (y := f) (Q0 f).symm rfl)) rfl ?_))))
 refine J.o (oc fn86 (strip_c D g f pf pg ng rm hE) (.cons (.t rfl) (.cons (.t rfl) .nil))) rfl (J.M rfl rfl ?_)
 refine J.o (Z3 (.t rfl) rfl) rfl ?_
 refine J.o (Z3 (.t rfl) rfl) rfl ?_
 refine J.o (Z3 (.t rfl) rfl) rfl ?_
 refine J.alloc (R := cTs zP) W9 (fun _ => ⟨rfl, rfl, rfl, rfl, Q9 _ _, rfl, Q9 _ _, rfl, trivial⟩) (ltN rfl) fun b7 => (J.A rfl rfl ?_)
 refine J.store (.t rfl) (.eq (.t rfl) (Y9 (Ts := (pT ((stNR D g f).2))) (Q0 _))) .here U0 (Z1 (Ts' := (pT ((stNR D g f).2))) (o := 0) rfl) (J.A rfl rfl (J.e (JC.g (J.M rfl rfl (J.M rfl rfl (J.A rfl rfl (J.A rfl rfl (J.e (JC.ret ?_)))))))))
 exact JQ.ret2 rfl (.tmp (.t rfl)) (.tmp (.t rfl))

theorem without_c {E u B : Nat} (D : Nat) (g f : Pol) (pf : Pg D B f) (pg : Pg E u g) (ng : nrm g + 2 ≤ B32 ^ u) (rm : Rm 4 D E u (B + D * gM 4 D E u)) (hE : (E + 1) ^ 4 ≤ 1000000000) (hD : (D + 1) ^ 4 ≤ 1000000000) : Ctr Try.prog 42 [tV Q4 f, tV Q4 g] (W0 [tV Q4 ((if stE g f = 0 then msign (stNR D g f).2 else p0)), tIs (.int .i64 (stE g f))]) := by
 have hb := rm.base
 have hgl := pg.can.lev.lv
 refine Ctr.of Try.func42 rfl Try.ntmps42 (Nat.le_of_ble_eq_true rfl) fun w0 M0 => (JC.g ?_)
 refine J.boxF (Ts := (pT f)) (.t rfl) (Q0 _) (ltN rfl) fun b2 => ?_
 refine J.boxF (Ts := (pT g)) (.t rfl) (Q0 _) (ltN rfl) fun b3 => ?_
 refine J.alloc (R := cTs zP) W9 (fun _ => ⟨rfl, rfl, rfl, rfl, Q9 _ _, rfl, Q9 _ _, rfl, trivial⟩) (ltN rfl) fun b4 => ?_
 refine J.a .is rfl (J.e (JC.g (J.o (oa (.t rfl) (.tail _ (.head _)) Z8 (Q7 (g := Y5) (y := g) (Q0 g).symm rfl)) rfl (J.o (oa (.t rfl) (.tail _ (.tail _ (.head _))) Z8 (Q7 (g := Y5) (y := f) (Q0 f).symm rfl)) rfl ?_))))
 refine J.o (oc fn86 (strip_c D g f pf pg ng rm hE) (.cons (.t rfl) (.cons (.t rfl) .nil))) rfl (J.M rfl rfl ?_)
 refine J.o (Z3 (.t rfl) rfl) rfl ?_
 refine J.o (Z3 (.t rfl) rfl) rfl ?_
 refine J.o (Z3 (.t rfl) rfl) rfl ?_
 refine J.alloc (R := cTs zP) W9 (fun _ => ⟨rfl, rfl, rfl, rfl, Q9 _ _, rfl, Q9 _ _, rfl, trivial⟩) (ltN rfl) fun b7 => (J.A rfl rfl ?_)
 refine J.store (.t rfl) (.eq (.t rfl) (Y9 (Ts := (pT ((stNR D g f).2))) (Q0 _))) .here U0 (Z1 (Ts' := (pT ((stNR D g f).2))) (o := 0) rfl) (J.A rfl rfl (J.e (JC.seq (JC.g (J.M rfl rfl (J.o (ot_neq (.t rfl) .is) rfl (J.e ?_)))))))
 refine JC.cond (.t rfl) (fun hc0 => ?_) (fun hc0 => ?_)
 ·try simp only [bsx] at hc0
  have hs17 := hc0
  refine (JC.g ?_)
  refine J.o (X8 (T' := tV Q4 (Pol.mk 0 (Z.mk false ([])) ([]))) (V3 (Ts := zP) pl28 (fun _ => ⟨rfl, rfl, rfl, rfl, Q9 _ _, rfl, Q9 _ _, rfl, trivial⟩) (.nil) rfl) (tV_F' (Q0 _))) rfl (J.M rfl rfl ?_)
  refine J.store (.t rfl) (.eq (.t rfl) (Y9 (Ts := zP) (Q0 _))) (.there .here) U0 (Z1 (Ts' := zP) (o := 0) rfl) (J.A rfl rfl (J.e (JC.ret (JQ.then_ret ?_))))
  exact JQ.ret2 rfl (.agg (.t rfl) (.tail _ (.head _)) Z8 (V7 (T := tV Q4 (Pol.mk 0 (Z.mk false ([])) ([]))) (T' := tV Q4 ((if stE g f = 0 then msign (stNR D g f).2 else p0))) (by rw [if_neg (by simpa using hs17)]; rfl) (Q7 (g := Y5) (y := (Pol.mk 0 (Z.mk false ([])) ([]))) (Q0 (Pol.mk 0 (Z.mk false ([])) ([]))).symm rfl))) (.tmp (.t rfl))
 ·try simp only [bsx] at hc0
  have hs17 := hc0
  have he : stE g f = 0 := by simpa using hs17
  obtain ⟨hr, hrz⟩ := stR_pg pf pg ng hb.1 hb.2.1 trivial he
  refine JC.skip (JQ.then_normal (JC.g (J.o (oa (.t rfl) (.head _) Z8 (Q7 (g := Y5) (y := ((stNR D g f).2)) (Q0 ((stNR D g f).2)).symm rfl)) rfl ?_)))
  refine J.o (oc fn21 (msign_c ((stNR D g f).2) (hr.fit (by omega)) hr.nr (hr.cnt_le hD) (by omega) (hr.terms_le hb.1 hD) (by rw [norm_can hr.can]; exact R4 hrz)) (.cons (.t rfl) .nil)) rfl ?_
  refine J.store (.t rfl) (.eq (.t rfl) (Y9 (Ts := (pT (msign ((stNR D g f).2)))) (Q0 _))) (.there .here) U0 (Z1 (Ts' := (pT (msign ((stNR D g f).2)))) (o := 0) rfl) ?_
  refine J.a .is rfl (J.e (JC.ret ?_))
  exact JQ.ret2 rfl (.agg (.t rfl) (.tail _ (.head _)) Z8 (V7 (T := tV Q4 (msign ((stNR D g f).2))) (T' := tV Q4 ((if stE g f = 0 then msign (stNR D g f).2 else p0))) (by rw [if_pos he]) (Q7 (g := Y5) (y := (msign ((stNR D g f).2))) (Q0 (msign ((stNR D g f).2))).symm rfl))) (.tmp (.eq (.t rfl) (by rw [he])))

theorem times24_c {D E B C : Nat} (p q : Pol) (n : Int) (N : Nat) (hp : Pg D B p) (hq : Pg E C q) (hn : n = (N : Int)) (hN : N < 64) (hD : 1 ≤ D) (hE : 1 ≤ E) (hb : (2 + 2 * (E * N) ≤ 4294967296 ∧ 2 + 2 * (C * N) ≤ 40000000000 ∧ E ≤ 4294967296 ∧ C ≤ 40000000000) ∧ D + E * N + 1 ≤ 4294967296 ∧ B + C * N + 1 ≤ 40000000000) : Ctr Try.prog 43 [tV Q4 p, tV Q4 q, tIs (.int .i64 n)] (tV Q4 (V5 4 p (K1 q N))) := by
 have hpw := powP_pg hq hE N
 refine Ctr.of Try.func43 rfl Try.ntmps43 (Nat.le_of_ble_eq_true rfl) fun w0 M0 => (JC.g ?_)
 refine J.boxF (Ts := (pT p)) (.t rfl) (Q0 _) (ltN rfl) fun b3 => ?_
 refine J.boxF (Ts := (pT q)) (.t rfl) (Q0 _) (ltN rfl) fun b4 => ?_
 refine J.alloc (R := cTs zP) W9 (fun _ => ⟨rfl, rfl, rfl, rfl, Q9 _ _, rfl, Q9 _ _, rfl, trivial⟩) (ltN rfl) fun b6 => (J.e (JC.seq ?_))
 refine JC.drawAt (Γ' := ?g1) 5 mo (by kernel_rfl) ?tw1 ?k1
 case tw1 =>
  refine TW.o (oa (.t rfl) (.tail _ (.tail _ (.head _))) Z8 (Q7 (g := Y5) (y := p) (Q0 p).symm rfl)) rfl (TW.o (oa (.t rfl) (.tail _ (.head _)) Z8 (Q7 (g := Y5) (y := q) (Q0 q).symm rfl)) rfl (TW.M rfl rfl ?_))
  refine TW.o (oc fn69 (pow_c q n N hq hn hN hE hb.1) (.cons (.t rfl) (.cons (.t rfl) .nil))) rfl ?_
  refine TW.o (oc fn29 (mulK_c p (K1 q N) hp hpw ⟨⟨hD, by omega, by omega⟩, by omega⟩) (.cons (.t rfl) (.cons (.t rfl) .nil))) rfl ?_
  exact TW.nil
 refine J.store (.t rfl) (.eq (.t rfl) (Y9 (Ts := (pT (V5 4 p (K1 q N)))) (Q0 _))) .here U0 (Z1 (Ts' := (pT (V5 4 p (K1 q N)))) (o := 0) rfl) (J.e (JC.ret ?_))
 exact JQ.ret1 rfl (.agg (.t rfl) (.head _) Z8 (Q7 (g := Y5) (y := (V5 4 p (K1 q N))) (Q0 (V5 4 p (K1 q N))).symm rfl))

theorem pseudoWithout_c (p q : List Tm) (hdp : ∀ t ∈ p, V8 t.coef.abs) (hdq : ∀ t ∈ q, V8 t.coef.abs) : Ctr Try.prog 10 [tSl X4 p, tSl X4 q] (tIs (.bool true)) := by
 refine Ctr.of Try.func10 rfl Try.ntmps10 (Nat.le_of_ble_eq_true rfl) fun w0 M0 => (JC.g ?_)
 refine J.a .is rfl (J.e (JC.seq (JC.g ?_)))
 refine J.o (oc fn25 (fit24_c  ) .nil) rfl (J.o (ot_not (.t rfl)) rfl (J.e ?_))
 refine JC.cond_false (.eq (.t rfl) (by rfl)) (JC.skip (JQ.then_normal (JC.seq (JC.g (J.M rfl rfl ?_)))))
 refine J.o (oc fn26 (few24_c p 5 3 (by omega)) (.cons (.t rfl) (.cons .is (.cons .is .nil)))) rfl (J.o (ot_not (.t rfl)) rfl (J.M rfl rfl ?_))
 refine J.opg rfl rfl rfl (ltN rfl) (fun hg => Y1 (.t rfl)) rfl (ltN rfl) ?_
 refine J.opg rfl rfl rfl (ltN rfl) (fun hg => (by have hg' := hg; (try simp only [bsx] at hg'); exact oc fn26 (few24_c q 4 2 (by omega)) (.cons (.iff hg (.t rfl)) (.cons .is (.cons .is .nil))))) rfl (ltN rfl) ?_
 refine J.opg rfl rfl rfl (ltN rfl) (fun hg => ot_not (.iff hg (.t rfl))) rfl (ltN rfl) ?_
 refine J.o (ot_or2 (.t rfl) .is (.t rfl)) rfl (J.M rfl rfl ?_)
 refine J.opg rfl rfl rfl (ltN rfl) (fun hg => Y1 (.t rfl)) rfl (ltN rfl) ?_
 refine J.opg rfl rfl rfl (ltN rfl) (fun hg => oc fn48 (sisZero_c p (ofFew hdp (by have h1 := hg; simp only [Bool.or_eq_false_iff, Bool.not_eq_false'] at h1; exact h1.1) (by decide) (D := 4) (by decide) (by decide) (by decide)).hl hdp (ofFew hdp (by have h1 := hg; simp only [Bool.or_eq_false_iff, Bool.not_eq_false'] at h1; exact h1.1) (by decide) (D := 4) (by decide) (by decide) (by decide)).hz (by decide)) (.cons (.iff hg (.t rfl)) .nil)) rfl (ltN rfl) ?_
 refine J.o (ot_or2 (.t rfl) .is (.t rfl)) rfl (J.M rfl rfl ?_)
 refine J.opg rfl rfl rfl (ltN rfl) (fun hg => Y1 (.t rfl)) rfl (ltN rfl) ?_
 refine J.opg rfl rfl rfl (ltN rfl) (fun hg => oc fn49 (slevel_c q (ofFew hdq (by have h1 := hg; simp only [Bool.or_eq_false_iff, Bool.not_eq_false'] at h1; exact h1.1.2) (by decide) (D := 3) (by decide) (by decide) (by decide)).hl hdq (ofFew hdq (by have h1 := hg; simp only [Bool.or_eq_false_iff, Bool.not_eq_false'] at h1; exact h1.1.2) (by decide) (D := 3) (by decide) (by decide) (by decide)).hz (by decide) (fun t ht => Nat.le_trans ((ofFew hdq (by have h1 := hg; simp only [Bool.or_eq_false_iff, Bool.not_eq_false'] at h1; exact h1.1.2) (by decide) (D := 3) (by decide) (by decide) (by decide)).hc t ht) (by decide))) (.cons (.iff hg (.t rfl)) .nil)) rfl (ltN rfl) ?_
 refine J.opg rfl rfl rfl (ltN rfl) (fun hg => W4 (.iff hg (.t rfl)) .is) rfl (ltN rfl) ?_
 refine J.o (ot_or2 (.t rfl) .is (.t rfl)) rfl (J.e ?_)
 refine JC.cond (.t rfl) (fun hc1 => ?_) (fun hc1 => ?_)
 ·try simp only [bsx] at hc1
  have hs29 := hc1
  refine (JC.g ?_)
  refine J.a .is rfl (J.e (JC.ret (JQ.then_ret ?_)))
  exact JQ.ret1 rfl (.tmp (.t rfl))
 ·try simp only [bsx] at hc1
  have hs29 := hc1
  obtain ⟨⟨⟨w1, w2⟩, w3⟩, w4⟩ := hs29
  have hP := ofFew hdp w1 (by decide) (D := 4) (by decide) (by decide) (by decide)
  have hQ := ofFew hdq w2 (by decide) (D := 3) (by decide) (by decide) (by decide)
  have hz := of_nz (ts := p) (by omega)
  have hg := lev_pos w4
  obtain ⟨he, pw, wz, hk, e1, e2, mz⟩ := st_law hP.pg hQ.pg hQ.ng (by decide) (by decide) hz hg
  have hG := Nat.mul_le_mul_left 3 hk
  have hG5 := Nat.mul_le_mul_left 5 hk
  have hGM : 5 + 4 * gM 4 4 3 5 ≤ 500000000 := by decide
  have hpw : Pg (4 + (1 + 3 * 4)) (5 + 4 * gM 4 4 3 5 + (1 + 5 * 4)) (V5 4 (msign (stNR 4 (ofS (X3 q)) (ofS (X3 p))).2) (K1 (ofS (X3 q)) (stNR 4 (ofS (X3 q)) (ofS (X3 p))).1)) := (pw.mul (powP_pg hQ.pg (by decide) (stNR 4 (ofS (X3 q)) (ofS (X3 p))).1) (by decide) (by omega)).mono (by omega) (by omega)
  have hdv := st_dv he (D := 4) (by decide)
  refine JC.skip (JQ.then_normal (JC.g (J.M rfl rfl ?_)))
  refine J.o (oc fn27 (ofG_c p hP.hl hdp hP.hz (by decide) hP.hm hP.hc (by decide)) (.cons (.t rfl) .nil)) rfl (J.M rfl rfl ?_)
  refine J.o (oc fn27 (ofG_c q hQ.hl hdq hQ.hz (by decide) hQ.hm hQ.hc (by decide)) (.cons (.t rfl) .nil)) rfl ?_
  refine J.alloc (R := cTs zP) W9 (fun _ => ⟨rfl, rfl, rfl, rfl, Q9 _ _, rfl, Q9 _ _, rfl, trivial⟩) (ltN rfl) fun b5 => ?_
  refine J.alloc (R := cTs zP) W9 (fun _ => ⟨rfl, rfl, rfl, rfl, Q9 _ _, rfl, Q9 _ _, rfl, trivial⟩) (ltN rfl) fun b6 => ?_
  refine J.store (.t rfl) (.eq (.t rfl) (Y9 (Ts := (pT (ofS (X3 p)))) (Q0 _))) (.there .here) U0 (Z1 (Ts' := (pT (ofS (X3 p)))) (o := 0) rfl) ?_
  refine J.store (.t rfl) (.eq (.t rfl) (Y9 (Ts := (pT (ofS (X3 q)))) (Q0 _))) .here U0 (Z1 (Ts' := (pT (ofS (X3 q)))) (o := 0) rfl) (J.e (JC.g (J.o (oa (.t rfl) (.head _) Z8 (Q7 (g := Y5) (y := (ofS (X3 q))) (Q0 (ofS (X3 q))).symm rfl)) rfl (J.o (oa (.t rfl) (.tail _ (.head _)) Z8 (Q7 (g := Y5) (y := (ofS (X3 p))) (Q0 (ofS (X3 p))).symm rfl)) rfl ?_))))
  refine J.o (oc fn41 (mult_c 4 (ofS (X3 q)) (ofS (X3 p)) hP.pg hQ.pg hQ.ng rm_wo (by decide)) (.cons (.t rfl) (.cons (.t rfl) .nil))) rfl (J.M rfl rfl ?_)
  refine J.o (Z3 (.t rfl) rfl) rfl ?_
  refine J.o (Z3 (.t rfl) rfl) rfl (J.A rfl rfl (J.A rfl rfl (J.e (JC.g (J.o (oa (.t rfl) (.tail _ (.head _)) Z8 (Q7 (g := Y5) (y := (ofS (X3 p))) (Q0 (ofS (X3 p))).symm rfl)) rfl (J.o (oa (.t rfl) (.head _) Z8 (Q7 (g := Y5) (y := (ofS (X3 q))) (Q0 (ofS (X3 q))).symm rfl)) rfl ?_))))))
  refine J.o (X8 (T' := W0 [tV Q4 ((msign (stNR 4 (ofS (X3 q)) (ofS (X3 p))).2)), tIs (.int .i64 0)]) (oc fn42 (without_c 4 (ofS (X3 q)) (ofS (X3 p)) hP.pg hQ.pg hQ.ng rm_wo (by decide) (by decide)) (.cons (.t rfl) (.cons (.t rfl) .nil))) (by rw [he, if_pos rfl])) rfl (J.M rfl rfl ?_)
  refine J.o (Z3 (.t rfl) rfl) rfl ?_
  refine J.o (Z3 (.t rfl) rfl) rfl ?_
  refine J.alloc (R := cTs zP) W9 (fun _ => ⟨rfl, rfl, rfl, rfl, Q9 _ _, rfl, Q9 _ _, rfl, trivial⟩) (ltN rfl) fun b9 => ?_
  refine J.store (.t rfl) (.eq (.t rfl) (Y9 (Ts := (pT (msign (stNR 4 (ofS (X3 q)) (ofS (X3 p))).2))) (Q0 _))) .here U0 (Z1 (Ts' := (pT (msign (stNR 4 (ofS (X3 q)) (ofS (X3 p))).2))) (o := 0) rfl) (J.A rfl rfl (J.e (JC.seq ?_)))
  refine JC.draw (Γ' := ?g1) mo (by kernel_rfl) ?tw1 ?k1
  case tw1 =>
   refine TW.M rfl rfl (TW.o (W4 (.t rfl) .is) rfl (TW.M rfl rfl ?_))
   refine TW.opg rfl rfl rfl (ltN rfl) (fun hg => Y1 (.t rfl)) rfl (ltN rfl) ?_
   refine TW.opg rfl rfl rfl (ltN rfl) (fun hg => ot_geq (.iff hg (.t rfl)) .is) rfl (ltN rfl) ?_
   refine TW.o (T8 (.t rfl) (.t rfl) .is) rfl (TW.M rfl rfl ?_)
   refine TW.opg rfl rfl rfl (ltN rfl) (fun hg => Y1 (.t rfl)) rfl (ltN rfl) ?_
   refine TW.opg rfl rfl rfl (ltN rfl) (fun hg => Y3 (.iff hg (.t rfl)) .is) rfl (ltN rfl) ?_
   refine TW.o (T8 (.t rfl) (.t rfl) .is) rfl (TW.M rfl rfl ?_)
   refine TW.opg rfl rfl rfl (ltN rfl) (fun hg => oa (.t rfl) (.head _) Z8 (Q7 (g := Y5) (y := (msign (stNR 4 (ofS (X3 q)) (ofS (X3 p))).2)) (Q0 (msign (stNR 4 (ofS (X3 q)) (ofS (X3 p))).2)).symm rfl)) rfl (ltN rfl) ?_
   refine TW.opg rfl rfl rfl (ltN rfl) (fun hg => (by have hg' := hg; (try simp only [bsx] at hg'); exact X8 (T' := tV Q4 ((msign (stNR 4 (ofS (X3 q)) (ofS (X3 p))).2))) (oc fn21 (msign_c (msign (stNR 4 (ofS (X3 q)) (ofS (X3 p))).2) (pw.fit (by omega)) pw.nr (pw.cnt_le (by decide)) (by omega) (pw.terms_le (by decide) (by decide)) (by rw [norm_can pw.can]; exact R4 wz)) (.cons (.iff hg (.t rfl)) .nil)) (by rw [e1]))) rfl (ltN rfl) ?_
   refine TW.opg rfl rfl rfl (ltN rfl) (fun hg => oa (.t rfl) (.head _) Z8 (Q7 (g := Y5) (y := (msign (stNR 4 (ofS (X3 q)) (ofS (X3 p))).2)) (Q0 (msign (stNR 4 (ofS (X3 q)) (ofS (X3 p))).2)).symm rfl)) rfl (ltN rfl) ?_
   refine TW.opg rfl rfl rfl (ltN rfl) (fun hg => (by have hg' := hg; (try simp only [bsx] at hg'); exact oc fn31 (sameK_c (msign (stNR 4 (ofS (X3 q)) (ofS (X3 p))).2) (msign (stNR 4 (ofS (X3 q)) (ofS (X3 p))).2) pw ⟨by decide, by omega⟩ rfl) (.cons (.iff hg (.t rfl)) (.cons (.iff hg (.t rfl)) .nil)))) rfl (ltN rfl) ?_
   refine TW.o (T8 (.t rfl) (.t rfl) .is) rfl (TW.M rfl rfl ?_)
   refine TW.opg rfl rfl rfl (ltN rfl) (fun hg => oa (.t rfl) (.head _) Z8 (Q7 (g := Y5) (y := (msign (stNR 4 (ofS (X3 q)) (ofS (X3 p))).2)) (Q0 (msign (stNR 4 (ofS (X3 q)) (ofS (X3 p))).2)).symm rfl)) rfl (ltN rfl) ?_
   refine TW.opg rfl rfl rfl (ltN rfl) (fun hg => oa (.t rfl) (.tail _ (.head _)) Z8 (Q7 (g := Y5) (y := (ofS (X3 q))) (Q0 (ofS (X3 q))).symm rfl)) rfl (ltN rfl) ?_
   refine TW.opg rfl rfl rfl (ltN rfl) (fun hg => Y1 (.t rfl)) rfl (ltN rfl) ?_
   refine TW.opg rfl rfl rfl (ltN rfl) (fun hg => (by have hg' := hg; (try simp only [bsx] at hg'); exact oc fn43 (times24_c (msign (stNR 4 (ofS (X3 q)) (ofS (X3 p))).2) (ofS (X3 q)) ((stNR 4 (ofS (X3 q)) (ofS (X3 p))).1 : Int) ((stNR 4 (ofS (X3 q)) (ofS (X3 p))).1) pw hQ.pg rfl (by omega) (by decide) (by decide) ⟨⟨by omega, by omega, by decide, by decide⟩, by omega, by omega⟩) (.cons (.iff hg (.t rfl)) (.cons (.iff hg (.t rfl)) (.cons (.iff hg (.t rfl)) .nil))))) rfl (ltN rfl) ?_
   refine TW.opg rfl rfl rfl (ltN rfl) (fun hg => (by have hg' := hg; (try simp only [bsx] at hg'); exact X8 (T' := tV Q4 (msign (ofS (X3 p)))) (oc fn21 (msign_c (V5 4 (msign (stNR 4 (ofS (X3 q)) (ofS (X3 p))).2) (K1 (ofS (X3 q)) (stNR 4 (ofS (X3 q)) (ofS (X3 p))).1)) (hpw.fit (by omega)) hpw.nr (hpw.cnt_le (by decide)) (by omega) (hpw.terms_le (by decide) (by decide)) (by rw [norm_can hpw.can]; exact R4 mz)) (.cons (.iff hg (.t rfl)) .nil)) (by rw [e2]))) rfl (ltN rfl) ?_
   refine TW.opg rfl rfl rfl (ltN rfl) (fun hg => oa (.t rfl) (.tail _ (.tail _ (.head _))) Z8 (Q7 (g := Y5) (y := (ofS (X3 p))) (Q0 (ofS (X3 p))).symm rfl)) rfl (ltN rfl) ?_
   refine TW.opg rfl rfl rfl (ltN rfl) (fun hg => (by have hg' := hg; (try simp only [bsx] at hg'); exact oc fn21 (msign_c (ofS (X3 p)) (hP.pg.fit (by omega)) hP.pg.nr (hP.pg.cnt_le (by decide)) (by omega) (hP.pg.terms_le (by decide) (by decide)) (by rw [norm_can hP.pg.can]; exact R4 hz)) (.cons (.iff hg (.t rfl)) .nil))) rfl (ltN rfl) ?_
   refine TW.opg rfl rfl rfl (ltN rfl) (fun hg => oc fn31 (sameK_c (msign (ofS (X3 p))) (msign (ofS (X3 p))) (hP.pg.msign (by decide) hz) ⟨by decide, by decide⟩ rfl) (.cons (.iff hg (.t rfl)) (.cons (.iff hg (.t rfl)) .nil))) rfl (ltN rfl) ?_
   refine TW.o (T8 (.t rfl) (.t rfl) .is) rfl (TW.M rfl rfl ?_)
   refine TW.opg rfl rfl rfl (ltN rfl) (fun hg => Y1 (.t rfl)) rfl (ltN rfl) ?_
   refine TW.opg rfl rfl rfl (ltN rfl) (fun hg => ot_gtr (.iff hg (.t rfl)) .is) rfl (ltN rfl) ?_
   refine TW.opg rfl rfl rfl (ltN rfl) (fun hg => oa (.t rfl) (.tail _ (.head _)) Z8 (Q7 (g := Y5) (y := (ofS (X3 q))) (Q0 (ofS (X3 q))).symm rfl)) rfl (ltN rfl) ?_
   refine TW.opg rfl rfl rfl (ltN rfl) (fun hg => oa (.t rfl) (.tail _ (.tail _ (.head _))) Z8 (Q7 (g := Y5) (y := (ofS (X3 p))) (Q0 (ofS (X3 p))).symm rfl)) rfl (ltN rfl) ?_
   refine TW.opg rfl rfl rfl (ltN rfl) (fun hg => (by have hg' := hg; (try simp only [bsx] at hg'); exact X8 (T' := tIs (.bool (decide (0 < ((stNR 4 (ofS (X3 q)) (ofS (X3 p))).1 : Int))))) (oc fn33 (divides_c (ofS (X3 q)) (ofS (X3 p)) hP.pg hQ.pg hQ.ng (Rm.down (by decide) (by decide) (by omega) rm_wo) (by decide)) (.cons (.iff hg (.t rfl)) (.cons (.iff hg (.t rfl)) .nil))) (by rw [hdv]))) rfl (ltN rfl) ?_
   refine TW.opg rfl rfl rfl (ltN rfl) (fun hg => ot_eqlb (.iff hg (.t rfl)) (.iff hg (.t rfl)) un4) rfl (ltN rfl) ?_
   refine TW.o (T8 (.t rfl) (.t rfl) .is) rfl ?_
   refine TW.o (Z9 (.t rfl)) rfl ?_
   exact TW.nil
  refine JQ.then_normal (JC.ret ?_)
  exact JQ.ret1 rfl (.tmp (.eq (.t rfl) (by rw [decide_eq_true (show (((stNR 4 (ofS (X3 q)) (ofS (X3 p))).1 : Nat) : Int) < 20 by omega)]; simp)))

end Go.Proofs.Ytcbnpddeiaccbaa
