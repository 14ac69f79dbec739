/- Walks through the program: each function called at values of the kinds that its contract names returns what the contract says. Conditions: those in the contracts. Written by the program wip/gen. -/
import Derived.Test.YtcbnpddeiaccbaaW2
set_option linter.unusedVariables false
set_option linter.unusedSimpArgs false
set_option maxRecDepth 100000
set_option maxHeartbeats 4000000
namespace Go.Proofs.Ytcbnpddeiaccbaa
open Go Go.RowKit Go.Rt
theorem sym_c (b c f lo md hi : Nat) (xs : List Tm) (h : lo < md ∧ md < hi ∧ hi ≤ xs.length) (hf : hi - lo ≤ f) (hl : xs.length ≤ 4294967296) : CtrL Try.prog 130 [sIs b 0 (xs.length) c, tIs (.int .i64 (lo : Int)), tIs (.int .i64 (md : Int)), tIs (.int .i64 (hi : Int)), tFn 111 []] b 97 (Y5 X5 xs c) (Y5 X5 (symF f lo md hi xs) c) K5 := by
 induction f using Nat.strongRecOn generalizing lo md hi xs
 rename_i f ih
 obtain ⟨g, hg⟩ : ∃ g, f = g + 1 := ⟨f - 1, by omega⟩
 refine CtrL.of Try.func130 rfl Try.ntmps130 (Nat.le_of_ble_eq_true rfl) fun w0 M0 => (JC.seq (JC.g (J.M rfl rfl (J.M rfl rfl ?_))))
 refine J.o (K4 (.t rfl) (.t rfl) (w64 (by omega) (by omega))) rfl (J.o (U5 (.t rfl) .is) rfl (J.e ?_))
 refine JC.cond (.t rfl) (fun hc0 => ?_) (fun hc0 => ?_)
 ·try simp only [bsx] at hc0
  have hs28 := hc0
  have hA : md - lo = 1 := by omega
  refine (JC.g (J.M rfl rfl (J.A rfl rfl (J.e (JC.g (J.M rfl rfl (J.A rfl rfl (J.e (JC.seq (JC.block ?_))))))))))
  refine JC.loop2 (α := Nat) (β := Nat) (fun i j => [(0, sIs b 0 (xs.length) c), (1, tIs (.int .i64 (lo : Int))), (2, tIs (.int .i64 (md : Int))), (3, tIs (.int .i64 (hi : Int))), (4, tFn 111 []), (10, tIs (.int .i64 (i : Int))), (11, tIs (.int .i64 (j : Int)))]) (fun i j => [⟨b, 97, Y5 X5 xs c⟩]) (fun i j => md ≤ i ∧ i ≤ j ∧ j ≤ hi ∧ bsr (fun h => decide (cmpT (atT xs h) (atT xs lo) < 0)) i j = bsr (fun h => decide (cmpT (atT xs h) (atT xs lo) < 0)) md hi) (fun i j => j - i) md hi ⟨by omega, by omega, by omega, rfl⟩ ?lsub0 ?round0
  case lsub0 => exact Q8 (X3 (.k .nil)) (Z3 ⟨.t rfl, .t rfl, .t rfl, .t rfl, .t rfl, .t rfl, .t rfl, trivial⟩)
  intro i j hinv
  obtain ⟨hi1, hi2, hi3, hv⟩ := hinv
  refine JC.seq (JC.g (J.M rfl rfl (J.M rfl rfl (J.o (Y6 (.t rfl) (.t rfl)) rfl (J.e ?_)))))
  refine JC.cond (.t rfl) (fun hc1 => ?_) (fun hc1 => ?_)
  ·try simp only [bsx] at hc1
   have hs33 := hc1
   refine JC.skip (JQ.then_normal (JC.block (JC.g (J.M rfl rfl (J.M rfl rfl ?_)))))
   refine J.o (Z6 (.t rfl) (.t rfl) (w64 (by omega) (by omega))) rfl ?_
   refine J.o (K7 (.t rfl) un99 (by kernel_rfl) (wu64 (by omega) (by omega))) rfl ?_
   refine J.o (ot_shr (.t rfl) .is (by omega) w_half) rfl ?_
   refine J.o (K7 (.t rfl) un3 (by kernel_rfl) (w64 (by omega) (by omega))) rfl (J.A rfl rfl (J.e (JC.seq ?_)))
   refine JC.draw (Γ' := ?g1) mo (by kernel_rfl) ?tw1 ?k1
   case tw1 =>
    refine TW.M rfl rfl (TW.M rfl rfl (TW.M rfl rfl ?_))
    refine TW.o (X9 (T' := X7 b (0 + ((i + j) / 2) * 6)) (oix (.t rfl) (.t rfl) sl53 (by omega) (by omega)) (Z7 (by omega))) rfl (TW.o (oa (.t rfl) (.head _) ag97 (row_agg rfl (atT_some (by omega)))) rfl (TW.M rfl rfl (TW.M rfl rfl ?_)))
    refine TW.o (X9 (T' := X7 b (0 + lo * 6)) (oix (.t rfl) (.t rfl) sl53 (by omega) (by omega)) (Z7 (by omega))) rfl (TW.o (oa (.t rfl) (.head _) ag97 (row_agg rfl (atT_some (by omega)))) rfl ?_)
    refine TW.o (ot_callv (Us := []) fn111 (.t rfl) (cmpT_c (atT xs ((i + j) / 2)) (atT xs lo) ) (.cons (.t rfl) (.cons (.t rfl) .nil)) (fun _ => trivial)) rfl (TW.o (Y6 (.t rfl) .is) rfl ?_)
    exact TW.nil
   refine JQ.then_normal ?_
   refine JC.cond (.t rfl) (fun hc2 => ?_) (fun hc2 => ?_)
   ·try simp only [bsx] at hc2
    have hs50 := hc2
    refine JC.region (J.M rfl rfl ?_)
    refine J.o (Z6 (.t rfl) .is (w64 (by omega) (by omega))) rfl (J.A rfl rfl (J.nil (JQ.block_normal ?_)))
    exact JQ.round2 (i := i) (i2 := j) ((i + j) / 2 + 1) j ⟨by omega, by omega, hi3, by rw [← hv]; exact bsr_T (by omega) (decide_eq_true hs50)⟩ (by omega) (Q8 (X3 (.k .nil)) (Z3 ⟨.t rfl, .t rfl, .t rfl, .t rfl, .t rfl, .eq (.t rfl) (by congr 2 <;> omega), .t rfl, trivial⟩))
   ·try simp only [bsx] at hc2
    have hs50 := hc2
    refine JC.region (J.M rfl rfl (J.A rfl rfl (J.nil (JQ.block_normal ?_))))
    exact JQ.round2 (i := i) (i2 := j) i ((i + j) / 2) ⟨hi1, by omega, by omega, by rw [← hv]; exact bsr_F (by omega) (by rw [decide_eq_true_eq]; exact hs50)⟩ (by omega) (Q8 (X3 (.k .nil)) (Z3 ⟨.t rfl, .t rfl, .t rfl, .t rfl, .t rfl, .t rfl, .eq (.t rfl) (by first | rfl | (congr 3; omega) | (congr 2; omega)), trivial⟩))
  ·try simp only [bsx] at hc1
   have hs33 := hc1
   have hins : i = insA lo md hi xs := by rw [insA, ← hv, bsr_stop (by omega)]
   refine JC.exit (JQ.then_exit (JQ.then_exit (JQ.block_exit (JQ.then_normal (JC.seq (JC.g (J.M rfl rfl (J.A rfl rfl (J.e (JC.block ?_))))))))))
   refine JC.loop2 (α := Nat) (β := List Tm) (fun k ys => [(0, sIs b 0 (xs.length) c), (1, tIs (.int .i64 (lo : Int))), (2, tIs (.int .i64 (md : Int))), (3, tIs (.int .i64 (hi : Int))), (4, tFn 111 []), (10, tIs (.int .i64 (i : Int))), (13, tIs (.int .i64 (k : Int)))]) (fun k ys => [⟨b, 97, Y5 X5 ys c⟩]) (fun k ys => lo ≤ k ∧ (k ≤ i - 1 ∨ k = lo) ∧ ys.length = xs.length ∧ upS (i - 1 - k) k ys = upS (i - 1 - lo) lo xs) (fun k ys => i - k) lo xs ⟨by omega, by omega, rfl, rfl⟩ ?lsub1 ?round1
   case lsub1 => exact Q8 (X3 (.k .nil)) (Z3 ⟨.t rfl, .t rfl, .t rfl, .t rfl, .t rfl, .t rfl, .t rfl, trivial⟩)
   intro k ys hinv
   obtain ⟨hk1, hk2, hys, hw⟩ := hinv
   refine JC.seq (JC.g (J.M rfl rfl (J.M rfl rfl ?_)))
   refine J.o (K4 (.t rfl) .is (w64 (by omega) (by omega))) rfl (J.o (Y6 (.t rfl) (.t rfl)) rfl (J.e ?_))
   refine JC.cond (.t rfl) (fun hc3 => ?_) (fun hc3 => ?_)
   ·try simp only [bsx] at hc3
    have hs58 := hc3
    refine JC.skip (JQ.then_normal (JC.seq (JC.block ?_)))
    refine JC.drawF (Γ' := ?g2) (Γf := ?f2) (L' := ?l2) 15 [2, 3, 4] mo (by kernel_rfl) (by kernel_rfl) (fun _ _ _ _ _ h => h) ?fl2 ?tk2 ?tw2 ?ag2 ?k2
    case fl2 =>
     refine FL.cons (i := 2) rfl rfl (ltN rfl) rfl (opv_move rfl) (by kernel_rfl) (by kernel_rfl) ?_
     refine FL.cons (i := 3) rfl rfl (ltN rfl) rfl (opv_move rfl) (by kernel_rfl) (by kernel_rfl) ?_
     refine FL.cons (i := 4) rfl rfl (ltN rfl) rfl (opv_addc rfl (w64 (by omega) (by omega))) (by kernel_rfl) (by kernel_rfl) ?_
     exact FL.nil
    case tk2 => kernel_rfl
    case tw2 =>
     refine TW.M rfl rfl (TW.M rfl rfl (TW.M rfl rfl (TW.M rfl rfl ?_)))
     refine TW.o (Z6 (.t rfl) .is (w64 (by omega) (by omega))) rfl (TW.M rfl rfl (TW.M rfl rfl ?_))
     refine TW.o (Z6 (.t rfl) .is (w64 (by omega) (by omega))) rfl ?_
     refine TW.o (X9 (T' := X7 b (0 + (k + 1) * 6)) (oix (.t rfl) (.t rfl) sl53 (by omega) (by omega)) (Z7 (by omega))) rfl (TW.o (oa (.t rfl) (.head _) ag97 (row_agg rfl (atT_some (by omega)))) rfl (TW.M rfl rfl (TW.M rfl rfl ?_)))
     refine TW.o (X9 (T' := X7 b (0 + k * 6)) (oix (.t rfl) (.t rfl) sl53 (by omega) (by omega)) (Z7 (by omega))) rfl (TW.o (oa (.t rfl) (.head _) ag97 (row_agg rfl (atT_some (by omega)))) rfl ?_)
     refine TW.o (X9 (T' := X7 b (0 + k * 6)) (oix (.t rfl) (.t rfl) sl53 (by omega) (by omega)) (Z7 (by omega))) rfl ?_
     exact TW.nil
    case ag2 => exact ⟨⟨_, rfl, rfl⟩, ⟨_, rfl, rfl⟩, ⟨_, rfl, rfl⟩, trivial⟩
    refine J.store (.t rfl) (.t rfl) .here sz97 (T4 (by omega)) ?_
    refine J.o (X9 (T' := X7 b (0 + (k + 1) * 6)) (oix (.t rfl) (.t rfl) sl53 (by omega) (by omega)) (Z7 (by omega))) rfl ?_
    refine J.store (.t rfl) (.t rfl) .here sz97 (T4 (by simp; omega)) (J.nil (JQ.block_normal (JQ.then_normal (JC.region (J.M rfl rfl ?_)))))
    refine J.o (Z6 (.t rfl) .is (w64 (by omega) (by omega))) rfl (J.A rfl rfl (J.nil ?_))
    exact JQ.round2 (i := k) (i2 := ys) (k + 1) (swp ys k (k + 1)) ⟨by omega, by omega, by rw [swp_len]; exact hys, by rw [← hw]; exact upS_step (by omega)⟩ (by omega) (Q8 (X3 (.k .nil)) (Z3 ⟨.t rfl, .t rfl, .t rfl, .t rfl, .t rfl, .t rfl, .eq (.t rfl) (by congr 2 <;> omega), trivial⟩))
   ·try simp only [bsx] at hc3
    have hs58 := hc3
    refine JC.exit (JQ.then_exit (JQ.then_exit (JQ.block_exit (JQ.then_normal (JC.ret (JQ.then_ret ?_))))))
    exact (JQ.retL0 rfl (.head _) (K8 (by rw [hg, ← symF_A (f := g) hA hins, ← hw, show i - 1 - k = 0 by omega, upS]))).1
 ·try simp only [bsx] at hc0
  have hs28 := hc0
  have hA : ¬ md - lo = 1 := by omega
  refine JC.skip (JQ.then_normal (JC.seq (JC.g (J.M rfl rfl (J.M rfl rfl ?_)))))
  refine J.o (K4 (.t rfl) (.t rfl) (w64 (by omega) (by omega))) rfl (J.o (U5 (.t rfl) .is) rfl (J.e ?_))
  refine JC.cond (.t rfl) (fun hc4 => ?_) (fun hc4 => ?_)
  ·try simp only [bsx] at hc4
   have hs80 := hc4
   have hB : hi - md = 1 := by omega
   refine (JC.g (J.M rfl rfl (J.A rfl rfl (J.e (JC.g (J.M rfl rfl (J.A rfl rfl (J.e (JC.seq (JC.block ?_))))))))))
   refine JC.loop2 (α := Nat) (β := Nat) (fun i j => [(0, sIs b 0 (xs.length) c), (1, tIs (.int .i64 (lo : Int))), (2, tIs (.int .i64 (md : Int))), (3, tIs (.int .i64 (hi : Int))), (4, tFn 111 []), (14, tIs (.int .i64 (i : Int))), (15, tIs (.int .i64 (j : Int)))]) (fun i j => [⟨b, 97, Y5 X5 xs c⟩]) (fun i j => lo ≤ i ∧ i ≤ j ∧ j ≤ md ∧ bsr (fun h => !decide (cmpT (atT xs md) (atT xs h) < 0)) i j = bsr (fun h => !decide (cmpT (atT xs md) (atT xs h) < 0)) lo md) (fun i j => j - i) lo md ⟨by omega, by omega, by omega, rfl⟩ ?lsub2 ?round2
   case lsub2 => exact Q8 (X3 (.k .nil)) (Z3 ⟨.t rfl, .t rfl, .t rfl, .t rfl, .t rfl, .t rfl, .t rfl, trivial⟩)
   intro i j hinv
   obtain ⟨hi1, hi2, hi3, hv⟩ := hinv
   refine JC.seq (JC.g (J.M rfl rfl (J.M rfl rfl (J.o (Y6 (.t rfl) (.t rfl)) rfl (J.e ?_)))))
   refine JC.cond (.t rfl) (fun hc5 => ?_) (fun hc5 => ?_)
   ·try simp only [bsx] at hc5
    have hs85 := hc5
    refine JC.skip (JQ.then_normal (JC.block (JC.g (J.M rfl rfl (J.M rfl rfl ?_)))))
    refine J.o (Z6 (.t rfl) (.t rfl) (w64 (by omega) (by omega))) rfl ?_
    refine J.o (K7 (.t rfl) un99 (by kernel_rfl) (wu64 (by omega) (by omega))) rfl ?_
    refine J.o (ot_shr (.t rfl) .is (by omega) w_half) rfl ?_
    refine J.o (K7 (.t rfl) un3 (by kernel_rfl) (w64 (by omega) (by omega))) rfl (J.A rfl rfl (J.e (JC.seq ?_)))
    refine JC.draw (Γ' := ?g3) mo (by kernel_rfl) ?tw3 ?k3
    case tw3 =>
     refine TW.M rfl rfl (TW.M rfl rfl (TW.M rfl rfl ?_))
     refine TW.o (X9 (T' := X7 b (0 + md * 6)) (oix (.t rfl) (.t rfl) sl53 (by omega) (by omega)) (Z7 (by omega))) rfl (TW.o (oa (.t rfl) (.head _) ag97 (row_agg rfl (atT_some (by omega)))) rfl (TW.M rfl rfl (TW.M rfl rfl ?_)))
     refine TW.o (X9 (T' := X7 b (0 + ((i + j) / 2) * 6)) (oix (.t rfl) (.t rfl) sl53 (by omega) (by omega)) (Z7 (by omega))) rfl (TW.o (oa (.t rfl) (.head _) ag97 (row_agg rfl (atT_some (by omega)))) rfl ?_)
     refine TW.o (ot_callv (Us := []) fn111 (.t rfl) (cmpT_c (atT xs md) (atT xs ((i + j) / 2)) ) (.cons (.t rfl) (.cons (.t rfl) .nil)) (fun _ => trivial)) rfl (TW.o (Y6 (.t rfl) .is) rfl (TW.o (ot_not (.t rfl)) rfl ?_))
     exact TW.nil
    refine JQ.then_normal ?_
    refine JC.cond (.t rfl) (fun hc6 => ?_) (fun hc6 => ?_)
    ·try simp only [bsx] at hc6
     have hs103 := hc6
     rw [cmpT_def] at hs103
     refine JC.region (J.M rfl rfl ?_)
     refine J.o (Z6 (.t rfl) .is (w64 (by omega) (by omega))) rfl (J.A rfl rfl (J.nil (JQ.block_normal ?_)))
     exact JQ.round2 (i := i) (i2 := j) ((i + j) / 2 + 1) j ⟨by omega, by omega, hi3, by rw [← hv]; exact bsr_T (by omega) (by rw [decide_eq_false hs103]; rfl)⟩ (by omega) (Q8 (X3 (.k .nil)) (Z3 ⟨.t rfl, .t rfl, .t rfl, .t rfl, .t rfl, .eq (.t rfl) (by congr 2 <;> omega), .t rfl, trivial⟩))
    ·try simp only [bsx] at hc6
     have hs103 := hc6
     rw [cmpT_def] at hs103
     refine JC.region (J.M rfl rfl (J.A rfl rfl (J.nil (JQ.block_normal ?_))))
     exact JQ.round2 (i := i) (i2 := j) i ((i + j) / 2) ⟨hi1, by omega, by omega, by rw [← hv]; exact bsr_F (by omega) (by rw [decide_eq_true hs103]; decide)⟩ (by omega) (Q8 (X3 (.k .nil)) (Z3 ⟨.t rfl, .t rfl, .t rfl, .t rfl, .t rfl, .t rfl, .eq (.t rfl) (by first | rfl | (congr 3; omega) | (congr 2; omega)), trivial⟩))
   ·try simp only [bsx] at hc5
    have hs85 := hc5
    have hins : i = insB lo md xs := by rw [insB, ← hv, bsr_stop (by omega)]
    refine JC.exit (JQ.then_exit (JQ.then_exit (JQ.block_exit (JQ.then_normal (JC.seq (JC.g (J.M rfl rfl (J.A rfl rfl (J.e (JC.block ?_))))))))))
    refine JC.loop2 (α := Nat) (β := List Tm) (fun k ys => [(0, sIs b 0 (xs.length) c), (1, tIs (.int .i64 (lo : Int))), (2, tIs (.int .i64 (md : Int))), (3, tIs (.int .i64 (hi : Int))), (4, tFn 111 []), (14, tIs (.int .i64 (i : Int))), (17, tIs (.int .i64 (k : Int)))]) (fun k ys => [⟨b, 97, Y5 X5 ys c⟩]) (fun k ys => i ≤ k ∧ k ≤ md ∧ ys.length = xs.length ∧ dnS (k - i) k ys = dnS (md - i) md xs) (fun k ys => k) md xs ⟨by omega, by omega, rfl, rfl⟩ ?lsub3 ?round3
    case lsub3 => exact Q8 (X3 (.k .nil)) (Z3 ⟨.t rfl, .t rfl, .t rfl, .t rfl, .t rfl, .t rfl, .t rfl, trivial⟩)
    intro k ys hinv
    obtain ⟨hk1, hk2, hys, hw⟩ := hinv
    refine JC.seq (JC.g (J.M rfl rfl (J.M rfl rfl (J.o (ot_gtr (.t rfl) (.t rfl)) rfl (J.e ?_)))))
    refine JC.cond (.t rfl) (fun hc7 => ?_) (fun hc7 => ?_)
    ·try simp only [bsx] at hc7
     have hs110 := hc7
     refine JC.skip (JQ.then_normal (JC.seq (JC.block ?_)))
     refine JC.drawF (Γ' := ?g4) (Γf := ?f4) (L' := ?l4) 15 [2, 3, 4] mo (by kernel_rfl) (by kernel_rfl) (fun _ _ _ _ _ h => h) ?fl4 ?tk4 ?tw4 ?ag4 ?k4
     case fl4 =>
      refine FL.cons (i := 2) rfl rfl (ltN rfl) rfl (opv_move rfl) (by kernel_rfl) (by kernel_rfl) ?_
      refine FL.cons (i := 3) rfl rfl (ltN rfl) rfl (opv_move rfl) (by kernel_rfl) (by kernel_rfl) ?_
      refine FL.cons (i := 4) rfl rfl (ltN rfl) rfl (opv_sub rfl (w64 (by omega) (by omega))) (by kernel_rfl) (by kernel_rfl) ?_
      exact FL.nil
     case tk4 => kernel_rfl
     case tw4 =>
      refine TW.M rfl rfl (TW.M rfl rfl (TW.M rfl rfl (TW.M rfl rfl ?_)))
      refine TW.o (K4 (.t rfl) .is (w64 (by omega) (by omega))) rfl (TW.M rfl rfl (TW.M rfl rfl ?_))
      refine TW.o (K4 (.t rfl) .is (w64 (by omega) (by omega))) rfl ?_
      refine TW.o (X9 (T' := X7 b (0 + (k - 1) * 6)) (oix (.t rfl) (.t rfl) sl53 (by omega) (by omega)) (Z7 (by omega))) rfl (TW.o (oa (.t rfl) (.head _) ag97 (row_agg rfl (atT_some (by omega)))) rfl (TW.M rfl rfl (TW.M rfl rfl ?_)))
      refine TW.o (X9 (T' := X7 b (0 + k * 6)) (oix (.t rfl) (.t rfl) sl53 (by omega) (by omega)) (Z7 (by omega))) rfl (TW.o (oa (.t rfl) (.head _) ag97 (row_agg rfl (atT_some (by omega)))) rfl ?_)
      refine TW.o (X9 (T' := X7 b (0 + k * 6)) (oix (.t rfl) (.t rfl) sl53 (by omega) (by omega)) (Z7 (by omega))) rfl ?_
      exact TW.nil
     case ag4 => exact ⟨⟨_, rfl, rfl⟩, ⟨_, rfl, rfl⟩, ⟨_, rfl, rfl⟩, trivial⟩
     refine J.store (.t rfl) (.t rfl) .here sz97 (T4 (by omega)) ?_
     refine J.o (X9 (T' := X7 b (0 + (k - 1) * 6)) (oix (.t rfl) (.t rfl) sl53 (by omega) (by omega)) (Z7 (by omega))) rfl ?_
     refine J.store (.t rfl) (.t rfl) .here sz97 (T4 (by simp; omega)) (J.nil (JQ.block_normal (JQ.then_normal (JC.region (J.M rfl rfl ?_)))))
     refine J.o (K4 (.t rfl) .is (w64 (by omega) (by omega))) rfl (J.A rfl rfl (J.nil ?_))
     exact JQ.round2 (i := k) (i2 := ys) (k - 1) (swp ys k (k - 1)) ⟨by omega, by omega, by rw [swp_len]; exact hys, by rw [← hw]; exact dnS_step (by omega)⟩ (by omega) (Q8 (X3 (.k .nil)) (Z3 ⟨.t rfl, .t rfl, .t rfl, .t rfl, .t rfl, .t rfl, .eq (.t rfl) (by congr 2 <;> omega), trivial⟩))
    ·try simp only [bsx] at hc7
     have hs110 := hc7
     refine JC.exit (JQ.then_exit (JQ.then_exit (JQ.block_exit (JQ.then_normal (JC.ret (JQ.then_ret ?_))))))
     exact (JQ.retL0 rfl (.head _) (K8 (by rw [hg, ← symF_B (f := g) hA hB hins, ← hw, show k - i = 0 by omega, dnS]))).1
  ·try simp only [bsx] at hc4
   have hs80 := hc4
   have hB : ¬ hi - md = 1 := by omega
   refine JC.skip (JQ.then_normal (JC.g (J.M rfl rfl (J.M rfl rfl ?_))))
   refine J.o (Z6 (.t rfl) (.t rfl) (w64 (by omega) (by omega))) rfl ?_
   refine J.o (K7 (.t rfl) un99 (by kernel_rfl) (wu64 (by omega) (by omega))) rfl ?_
   refine J.o (ot_shr (.t rfl) .is (by omega) w_half) rfl ?_
   refine J.o (K7 (.t rfl) un3 (by kernel_rfl) (w64 (by omega) (by omega))) rfl (J.A rfl rfl (J.e (JC.g (J.M rfl rfl (J.M rfl rfl ?_)))))
   refine J.o (Z6 (.t rfl) (.t rfl) (w64 (by omega) (by omega))) rfl (J.A rfl rfl (J.e (JC.g ?_)))
   refine J.a .is rfl ?_
   refine J.a .is rfl (J.e ?_)
   refine JC.join2 (α := Nat) (β := Nat) (fun s0 r0 => [(0, sIs b 0 (xs.length) c), (1, tIs (.int .i64 (lo : Int))), (2, tIs (.int .i64 (md : Int))), (3, tIs (.int .i64 (hi : Int))), (4, tFn 111 []), (18, tIs (.int .i64 ((((lo + hi) / 2 : Nat) : Int)))), (19, tIs (.int .i64 ((((lo + hi) / 2 : Nat) : Int) + (md : Int)))), (20, tIs (.int .i64 (s0 : Int))), (21, tIs (.int .i64 (r0 : Int)))]) (fun s0 r0 => [⟨b, 97, Y5 X5 xs c⟩]) (fun s0 r0 => (s0 = if ((lo + hi) / 2) < md then ((lo + hi) / 2) + md - hi else lo) ∧ (r0 = if ((lo + hi) / 2) < md then ((lo + hi) / 2) else md) ∧ s0 ≤ r0 ∧ lo ≤ s0 ∧ r0 ≤ md ∧ r0 ≤ ((lo + hi) / 2) ∧ ((lo + hi) / 2) + md ≤ hi + s0 ∧ (∀ c, s0 ≤ c → c < r0 → ((lo + hi) / 2) + md - 1 - c < hi ∧ lo ≤ ((lo + hi) / 2) + md - 1 - c ∧ c + 1 ≤ ((lo + hi) / 2) + md)) ?way1 ?on1
   case way1 =>
    refine (JC.g (J.M rfl rfl (J.M rfl rfl (J.o (ot_gtr (.t rfl) (.t rfl)) rfl (J.e ?_)))))
    refine JC.cond (.t rfl) (fun hc8 => ?_) (fun hc8 => ?_)
    ·try simp only [bsx] at hc8
     have hs140 := hc8
     refine (JC.g (J.M rfl rfl (J.M rfl rfl ?_)))
     refine J.o (K4 (.t rfl) (.t rfl) (w64 (by omega) (by omega))) rfl (J.A rfl rfl (J.e (JC.region (J.M rfl rfl (J.A rfl rfl (J.nil ?_))))))
     exact JQ.join2 (((lo + hi) / 2) + md - hi) ((lo + hi) / 2) ⟨by rw [if_pos (by omega)], by rw [if_pos (by omega)], by omega, by omega, by omega, by omega, by omega, fun c h1 h2 => by omega⟩ (Q8 (X3 (.k .nil)) (Z3 ⟨.t rfl, .t rfl, .t rfl, .t rfl, .t rfl, .t rfl, .t rfl, .eq (.t rfl) (by congr 2 <;> omega), .eq (.t rfl) (by first | rfl | (congr 3; omega) | (congr 2; omega)), trivial⟩))
    ·try simp only [bsx] at hc8
     have hs140 := hc8
     refine (JC.g (J.M rfl rfl (J.A rfl rfl (J.e (JC.region (J.M rfl rfl (J.A rfl rfl (J.nil ?_))))))))
     exact JQ.join2 lo md ⟨by rw [if_neg (by omega)], by rw [if_neg (by omega)], by omega, by omega, by omega, by omega, by omega, fun c h1 h2 => by omega⟩ (Q8 (X3 (.k .nil)) (Z3 ⟨.t rfl, .t rfl, .t rfl, .t rfl, .t rfl, .t rfl, .t rfl, .t rfl, .t rfl, trivial⟩))
   intro s0 r0 hj27
   obtain ⟨hs0, hr0, hsr, hls, hrm, hrmid, hse, hpc⟩ := hj27
   refine (JC.g (J.M rfl rfl ?_))
   refine J.o (K4 (.t rfl) .is (w64 (by omega) (by omega))) rfl (J.A rfl rfl (J.e (JC.seq (JC.block ?_))))
   refine JC.loop2 (α := Nat) (β := Nat) (fun s r => [(0, sIs b 0 (xs.length) c), (1, tIs (.int .i64 (lo : Int))), (2, tIs (.int .i64 (md : Int))), (3, tIs (.int .i64 (hi : Int))), (4, tFn 111 []), (18, tIs (.int .i64 ((((lo + hi) / 2 : Nat) : Int)))), (19, tIs (.int .i64 ((((lo + hi) / 2 : Nat) : Int) + (md : Int)))), (20, tIs (.int .i64 (s : Int))), (21, tIs (.int .i64 (r : Int))), (22, tIs (.int .i64 (((((lo + hi) / 2 : Nat) : Int) + (md : Int)) - 1)))]) (fun s r => [⟨b, 97, Y5 X5 xs c⟩]) (fun s r => s0 ≤ s ∧ s ≤ r ∧ r ≤ r0 ∧ bsr (cutP (((lo + hi) / 2) + md) xs) s r = bsr (cutP (((lo + hi) / 2) + md) xs) s0 r0) (fun s r => r - s) s0 r0 ⟨by omega, by omega, by omega, rfl⟩ ?lsub4 ?round4
   case lsub4 => exact Q8 (X3 (.k .nil)) (Z3 ⟨.t rfl, .t rfl, .t rfl, .t rfl, .t rfl, .t rfl, .t rfl, .t rfl, .t rfl, .t rfl, trivial⟩)
   intro s r hinv
   obtain ⟨h1, h2, h3, hv⟩ := hinv
   refine JC.seq (JC.g (J.M rfl rfl (J.M rfl rfl (J.o (Y6 (.t rfl) (.t rfl)) rfl (J.e ?_)))))
   refine JC.cond (.t rfl) (fun hc9 => ?_) (fun hc9 => ?_)
   ·try simp only [bsx] at hc9
    have hs151 := hc9
    have hpm := hpc ((s + r) / 2) (by omega) (by omega)
    refine JC.skip (JQ.then_normal (JC.block (JC.g (J.M rfl rfl (J.M rfl rfl ?_)))))
    refine J.o (Z6 (.t rfl) (.t rfl) (w64 (by omega) (by omega))) rfl ?_
    refine J.o (K7 (.t rfl) un99 (by kernel_rfl) (wu64 (by omega) (by omega))) rfl ?_
    refine J.o (ot_shr (.t rfl) .is (by omega) w_half) rfl ?_
    refine J.o (K7 (.t rfl) un3 (by kernel_rfl) (w64 (by omega) (by omega))) rfl (J.A rfl rfl (J.e (JC.seq ?_)))
    refine JC.draw (Γ' := ?g5) mo (by kernel_rfl) ?tw5 ?k5
    case tw5 =>
     refine TW.M rfl rfl (TW.M rfl rfl (TW.M rfl rfl (TW.M rfl rfl ?_)))
     refine TW.o (K4 (.t rfl) (.t rfl) (w64 (by omega) (by omega))) rfl ?_
     refine TW.o (X9 (T' := X7 b (0 + (((lo + hi) / 2) + md - 1 - (s + r) / 2) * 6)) (oix (.t rfl) (.t rfl) sl53 (by omega) (by omega)) (Z7 (by omega))) rfl (TW.o (oa (.t rfl) (.head _) ag97 (row_agg rfl (atT_some (by omega)))) rfl (TW.M rfl rfl (TW.M rfl rfl ?_)))
     refine TW.o (X9 (T' := X7 b (0 + ((s + r) / 2) * 6)) (oix (.t rfl) (.t rfl) sl53 (by omega) (by omega)) (Z7 (by omega))) rfl (TW.o (oa (.t rfl) (.head _) ag97 (row_agg rfl (atT_some (by omega)))) rfl ?_)
     refine TW.o (ot_callv (Us := []) fn111 (.t rfl) (cmpT_c (atT xs (((lo + hi) / 2) + md - 1 - (s + r) / 2)) (atT xs ((s + r) / 2)) ) (.cons (.t rfl) (.cons (.t rfl) .nil)) (fun _ => trivial)) rfl (TW.o (Y6 (.t rfl) .is) rfl (TW.o (ot_not (.t rfl)) rfl ?_))
     exact TW.nil
    refine JQ.then_normal ?_
    refine JC.cond (.t rfl) (fun hc10 => ?_) (fun hc10 => ?_)
    ·try simp only [bsx] at hc10
     have hs171 := hc10
     rw [cmpT_def] at hs171
     refine JC.region (J.M rfl rfl ?_)
     refine J.o (Z6 (.t rfl) .is (w64 (by omega) (by omega))) rfl (J.A rfl rfl (J.nil (JQ.block_normal ?_)))
     exact JQ.round2 (i := s) (i2 := r) ((s + r) / 2 + 1) r ⟨by omega, by omega, h3, by rw [← hv]; exact bsr_T (by omega) (by unfold cutP; rw [decide_eq_false hs171]; rfl)⟩ (by omega) (Q8 (X3 (.k .nil)) (Z3 ⟨.t rfl, .t rfl, .t rfl, .t rfl, .t rfl, .t rfl, .t rfl, .eq (.t rfl) (by congr 2 <;> omega), .t rfl, .t rfl, trivial⟩))
    ·try simp only [bsx] at hc10
     have hs171 := hc10
     rw [cmpT_def] at hs171
     refine JC.region (J.M rfl rfl (J.A rfl rfl (J.nil (JQ.block_normal ?_))))
     exact JQ.round2 (i := s) (i2 := r) s ((s + r) / 2) ⟨h1, by omega, by omega, by rw [← hv]; exact bsr_F (by omega) (by unfold cutP; rw [decide_eq_true hs171]; decide)⟩ (by omega) (Q8 (X3 (.k .nil)) (Z3 ⟨.t rfl, .t rfl, .t rfl, .t rfl, .t rfl, .t rfl, .t rfl, .t rfl, .eq (.t rfl) (by first | rfl | (congr 3; omega) | (congr 2; omega)), .t rfl, trivial⟩))
   ·try simp only [bsx] at hc9
    have hs151 := hc9
    have hcut : s = cutS lo md hi xs := by rw [cutS, ← hs0, ← hr0, ← hv, bsr_stop (by omega)]
    refine JC.exit (JQ.then_exit (JQ.then_exit (JQ.block_exit (JQ.then_normal (JC.g (J.M rfl rfl (J.M rfl rfl ?_)))))))
    refine J.o (K4 (.t rfl) (.t rfl) (w64 (by omega) (by omega))) rfl (J.A rfl rfl (J.e ?_))
    refine JC.join1 (α := List Tm) (fun ys => [(0, sIs b 0 (xs.length) c), (1, tIs (.int .i64 (lo : Int))), (2, tIs (.int .i64 (md : Int))), (3, tIs (.int .i64 (hi : Int))), (4, tFn 111 []), (18, tIs (.int .i64 ((((lo + hi) / 2 : Nat) : Int)))), (20, tIs (.int .i64 (s : Int))), (24, tIs (.int .i64 (((((lo + hi) / 2 : Nat) : Int) + (md : Int)) - (s : Int))))]) (fun ys => [⟨b, 97, Y5 X5 ys c⟩]) (fun ys => ys = if s < md ∧ md < (((lo + hi) / 2) + md - s) then rotT md s (((lo + hi) / 2) + md - s) xs else xs) ?way2 ?on2
    case way2 =>
     refine (JC.g (J.M rfl rfl (J.M rfl rfl (J.o (Y6 (.t rfl) (.t rfl)) rfl (J.M rfl rfl ?_)))))
     refine J.opg rfl rfl rfl (ltN rfl) (fun hg => Y0 (.t rfl)) rfl (ltN rfl) ?_
     refine J.opg rfl rfl rfl (ltN rfl) (fun hg => Y0 (.t rfl)) rfl (ltN rfl) ?_
     refine J.opg rfl rfl rfl (ltN rfl) (fun hg => Y6 (.iff hg (.t rfl)) (.iff hg (.t rfl))) rfl (ltN rfl) ?_
     refine J.o (R4 (.t rfl) (.t rfl) .is) rfl (J.e ?_)
     refine JC.cond (.t rfl) (fun hc11 => ?_) (fun hc11 => ?_)
     ·try simp only [bsx] at hc11
      have hs185 := hc11
      refine JC.region (J.M rfl rfl (J.M rfl rfl (J.M rfl rfl (J.M rfl rfl (J.M rfl rfl ?_)))))
      refine J.callL (R' := Y5 X5 (rotT md s (((lo + hi) / 2) + md - s) xs) c) (Us := []) (cap := []) fn136 (.func (fun _ => rfl)) (rotate_c b c s md (((lo + hi) / 2) + md - s) xs (by omega) (by omega)) (.cons (.t rfl) (.cons (.t rfl) (.cons (.t rfl) (.cons (.eq (.t rfl) (by congr 2 <;> omega)) (.cons (.t rfl) .nil))))) (fun _ => trivial) .here (ltN rfl) (J.nil ?_)
      exact JQ.join1 (rotT md s (((lo + hi) / 2) + md - s) xs) (by rw [if_pos (by omega)]) (Q8 (X3 (.keep (fun _ _ h => by first | exact h | simpa using h) .nil)) (Z3 ⟨.t rfl, .t rfl, .t rfl, .t rfl, .t rfl, .t rfl, .t rfl, .t rfl, trivial⟩))
     ·try simp only [bsx] at hc11
      have hs185 := hc11
      refine JC.skip ?_
      exact JQ.join1 xs (by rw [if_neg (by omega)]) (Q8 (X3 (.k .nil)) (Z3 ⟨.t rfl, .t rfl, .t rfl, .t rfl, .t rfl, .t rfl, .t rfl, .t rfl, trivial⟩))
    intro ys hj39
    have hy := hj39
    have hyl : ys.length = xs.length := by rw [hy]; split; exact rotF_len ..; rfl
    refine JC.join1 (α := List Tm) (fun zs => [(0, sIs b 0 (xs.length) c), (1, tIs (.int .i64 (lo : Int))), (3, tIs (.int .i64 (hi : Int))), (4, tFn 111 []), (18, tIs (.int .i64 ((((lo + hi) / 2 : Nat) : Int)))), (20, tIs (.int .i64 (s : Int))), (24, tIs (.int .i64 (((((lo + hi) / 2 : Nat) : Int) + (md : Int)) - (s : Int))))]) (fun zs => [⟨b, 97, Y5 X5 zs c⟩]) (fun zs => zs = if lo < s ∧ s < ((lo + hi) / 2) then symF g lo s ((lo + hi) / 2) ys else ys) ?way3 ?on3
    case way3 =>
     refine (JC.g (J.M rfl rfl (J.M rfl rfl (J.o (Y6 (.t rfl) (.t rfl)) rfl (J.M rfl rfl ?_)))))
     refine J.opg rfl rfl rfl (ltN rfl) (fun hg => Y0 (.t rfl)) rfl (ltN rfl) ?_
     refine J.opg rfl rfl rfl (ltN rfl) (fun hg => Y0 (.t rfl)) rfl (ltN rfl) ?_
     refine J.opg rfl rfl rfl (ltN rfl) (fun hg => Y6 (.iff hg (.t rfl)) (.iff hg (.t rfl))) rfl (ltN rfl) ?_
     refine J.o (R4 (.t rfl) (.t rfl) .is) rfl (J.e ?_)
     refine JC.cond (.t rfl) (fun hc12 => ?_) (fun hc12 => ?_)
     ·try simp only [bsx] at hc12
      have hs199 := hc12
      refine JC.region (J.M rfl rfl (J.M rfl rfl (J.M rfl rfl (J.M rfl rfl (J.M rfl rfl ?_)))))
      refine J.callL (R' := Y5 X5 (symF g lo s ((lo + hi) / 2) ys) c) (Us := []) (cap := []) fn130 (.func (fun _ => rfl)) (ih g (by omega) lo s ((lo + hi) / 2) ys (by omega) (by omega) (by omega)) (.cons (.eq (.t rfl) (by rw [hyl])) (.cons (.t rfl) (.cons (.t rfl) (.cons (.t rfl) (.cons (.t rfl) .nil))))) (fun _ => trivial) .here (ltN rfl) (J.nil ?_)
      exact JQ.join1 (symF g lo s ((lo + hi) / 2) ys) (by rw [if_pos (by omega)]) (Q8 (X3 (.keep (fun _ _ h => by first | exact h | simpa using h) .nil)) (Z3 ⟨.t rfl, .t rfl, .t rfl, .t rfl, .t rfl, .t rfl, .t rfl, trivial⟩))
     ·try simp only [bsx] at hc12
      have hs199 := hc12
      refine JC.skip ?_
      exact JQ.join1 ys (by rw [if_neg (by omega)]) (Q8 (X3 (.k .nil)) (Z3 ⟨.t rfl, .t rfl, .t rfl, .t rfl, .t rfl, .t rfl, .t rfl, trivial⟩))
    intro zs hj41
    have hz := hj41
    have hzl : zs.length = xs.length := by rw [hz]; split; rw [symF_len]; exact hyl; exact hyl
    have hfin := symF_C (f := g) hA hB hcut rfl hy hz
    refine (JC.g (J.M rfl rfl (J.M rfl rfl (J.o (Y6 (.t rfl) (.t rfl)) rfl (J.M rfl rfl ?_)))))
    refine J.opg rfl rfl rfl (ltN rfl) (fun hg => Y0 (.t rfl)) rfl (ltN rfl) ?_
    refine J.opg rfl rfl rfl (ltN rfl) (fun hg => Y0 (.t rfl)) rfl (ltN rfl) ?_
    refine J.opg rfl rfl rfl (ltN rfl) (fun hg => Y6 (.iff hg (.t rfl)) (.iff hg (.t rfl))) rfl (ltN rfl) ?_
    refine J.o (R4 (.t rfl) (.t rfl) .is) rfl (J.e ?_)
    refine JC.cond (.t rfl) (fun hc13 => ?_) (fun hc13 => ?_)
    ·try simp only [bsx] at hc13
     have hs213 := hc13
     refine JC.region (J.M rfl rfl (J.M rfl rfl (J.M rfl rfl (J.M rfl rfl (J.M rfl rfl ?_)))))
     refine J.callL (R' := Y5 X5 (symF g ((lo + hi) / 2) (((lo + hi) / 2) + md - s) hi zs) c) (Us := []) (cap := []) fn130 (.func (fun _ => rfl)) (ih g (by omega) ((lo + hi) / 2) (((lo + hi) / 2) + md - s) hi zs (by omega) (by omega) (by omega)) (.cons (.eq (.t rfl) (by rw [hzl])) (.cons (.t rfl) (.cons (.eq (.t rfl) (by congr 2 <;> omega)) (.cons (.t rfl) (.cons (.t rfl) .nil))))) (fun _ => trivial) .here (ltN rfl) (J.nil ?_)
     exact (JQ.retL0 rfl (.head _) (K8 (by rw [hg, ← hfin, if_pos (by omega)]))).2
    ·try simp only [bsx] at hc13
     have hs213 := hc13
     refine JC.skip ?_
     exact (JQ.retL0 rfl (.head _) (K8 (by rw [hg, ← hfin, if_neg (by omega)]))).2

theorem stableG_c (b c : Nat) (xs : List Tm) (hl : xs.length ≤ 4294967296) : CtrL Try.prog 122 [sIs b 0 (xs.length) c, tIs (.int .i64 (xs.length : Int)), tFn 111 []] b 97 (Y5 X5 xs c) (Y5 X5 (stT xs) c) K5 := by
 refine CtrL.of Try.func122 rfl Try.ntmps122 (Nat.le_of_ble_eq_true rfl) fun w0 M0 => (JC.g ?_)
 refine J.a .is rfl (J.e (JC.g (J.M rfl rfl ?_)))
 refine J.a .is rfl (J.A rfl rfl (J.e (JC.seq (JC.block ?_))))
 refine JC.loop3 (α := Nat) (β := Nat) (γ := List Tm) (fun a f ys => [(0, sIs b 0 (xs.length) c), (1, tIs (.int .i64 (xs.length : Int))), (2, tFn 111 []), (6, tIs (.int .i64 20)), (7, tIs (.int .i64 (a : Int))), (8, tIs (.int .i64 ((a : Int) + 20)))]) (fun a f ys => [⟨b, 97, Y5 X5 ys c⟩]) (fun a f ys => a ≤ xs.length ∧ ys.length = xs.length ∧ xs.length < a + f ∧ blF xs.length f a ys = blF xs.length (xs.length + 1) 0 xs) (fun a f ys => xs.length + 20 - a) 0 (xs.length + 1) xs ⟨by omega, rfl, by omega, rfl⟩ ?lsub0 ?round0
 case lsub0 => exact Q8 (X3 (.k .nil)) (Z3 ⟨.t rfl, .t rfl, .t rfl, .t rfl, .eq (.t rfl) (by rfl), .eq (.t rfl) (by rfl), trivial⟩)
 intro a f ys hinv
 obtain ⟨ha, hys, hf, hv⟩ := hinv
 refine JC.seq (JC.g (J.M rfl rfl (J.M rfl rfl (J.o (ot_leq (.t rfl) (.t rfl)) rfl (J.e ?_)))))
 refine JC.cond (.t rfl) (fun hc0 => ?_) (fun hc0 => ?_)
 ·try simp only [bsx] at hc0
  have hs13 := hc0
  refine JC.skip (JQ.then_normal (JC.block (JC.g (J.M rfl rfl (J.M rfl rfl (J.M rfl rfl (J.M rfl rfl ?_)))))))
  refine J.callL (R' := Y5 X5 (insT a (a + 20 - (a + 1)) (a + 1) ys) c) (Us := []) (cap := []) fn129 (.func (fun _ => rfl)) (insert_c b c a (a + 20) ys (by omega) (by omega) (by omega)) (.cons (.eq (.t rfl) (by rw [hys])) (.cons (.t rfl) (.cons (.eq (.t rfl) (by congr 2 <;> omega)) (.cons (.t rfl) .nil)))) (fun _ => trivial) .here (ltN rfl) (J.e (JC.g (J.M rfl rfl (J.A rfl rfl (J.e (JC.region (J.M rfl rfl (J.M rfl rfl ?_))))))))
  refine J.o (Z6 (.t rfl) (.t rfl) (w64 (by omega) (by omega))) rfl (J.A rfl rfl (J.nil (JQ.block_normal ?_)))
  exact JQ.round3 (i := a) (i2 := f) (i3 := ys) (a + 20) (f - 1) (insT a (a + 20 - (a + 1)) (a + 1) ys) ⟨by omega, by rw [insT_len]; exact hys, by omega, by rw [← hv]; exact blF_go (by omega) (by omega)⟩ (by omega) (Q8 (X3 (.keep (fun _ _ h => by first | exact h | simpa using h) .nil)) (Z3 ⟨.t rfl, .t rfl, .t rfl, .t rfl, .eq (.t rfl) (by congr 2 <;> omega), .eq (.t rfl) (by congr 2 <;> omega), trivial⟩))
 ·try simp only [bsx] at hc0
  have hs13 := hc0
  refine JC.exit (JQ.then_exit (JQ.then_exit (JQ.block_exit (JQ.then_normal (JC.g (J.M rfl rfl (J.M rfl rfl (J.M rfl rfl (J.M rfl rfl ?_)))))))))
  refine J.callL (R' := Y5 X5 (insT a (xs.length - (a + 1)) (a + 1) ys) c) (Us := []) (cap := []) fn129 (.func (fun _ => rfl)) (insert_c b c a xs.length ys (by omega) (by omega) (by omega)) (.cons (.eq (.t rfl) (by rw [hys])) (.cons (.t rfl) (.cons (.t rfl) (.cons (.t rfl) .nil)))) (fun _ => trivial) .here (ltN rfl) (J.e (JC.block ?_))
  refine JC.loop3 (α := Nat) (β := Nat) (γ := List Tm) (fun z f2 zs => [(0, sIs b 0 (xs.length) c), (1, tIs (.int .i64 (xs.length : Int))), (2, tFn 111 []), (6, tIs (.int .i64 (z : Int)))]) (fun z f2 zs => [⟨b, 97, Y5 X5 zs c⟩]) (fun z f2 zs => 20 ≤ z ∧ zs.length = xs.length ∧ (xs.length ≤ z ∨ xs.length < z + f2) ∧ mgF xs.length f2 z zs = stT xs) (fun z f2 zs => xs.length - z) 20 xs.length (insT a (xs.length - (a + 1)) (a + 1) ys) ⟨by omega, by rw [insT_len]; exact hys, by omega, by rw [stT, ← hv, ← blF_end (by omega) (by omega)]⟩ ?lsub1 ?round1
  case lsub1 => exact Q8 (X3 (.keep (fun _ _ h => by first | exact h | simpa using h) .nil)) (Z3 ⟨.t rfl, .t rfl, .t rfl, .eq (.t rfl) (by rfl), trivial⟩)
  intro z f2 zs hinv
  obtain ⟨hz, hzs, hf2, hv2⟩ := hinv
  refine JC.seq (JC.g (J.M rfl rfl (J.M rfl rfl (J.o (Y6 (.t rfl) (.t rfl)) rfl (J.e ?_)))))
  refine JC.cond (.t rfl) (fun hc1 => ?_) (fun hc1 => ?_)
  ·try simp only [bsx] at hc1
   have hs30 := hc1
   refine JC.skip (JQ.then_normal (JC.block (JC.g (J.M rfl rfl ?_))))
   refine J.o (ot_mul .is (.t rfl) (w64 (by omega) (by omega))) rfl ?_
   refine J.a .is rfl (J.A rfl rfl (J.e (JC.seq (JC.block ?_))))
   refine JC.loop3 (α := Nat) (β := Nat) (γ := List Tm) (fun a4 f4 us => [(0, sIs b 0 (xs.length) c), (1, tIs (.int .i64 (xs.length : Int))), (2, tFn 111 []), (6, tIs (.int .i64 (z : Int))), (7, tIs (.int .i64 (a4 : Int))), (8, tIs (.int .i64 ((a4 : Int) + 2 * (z : Int)))), (28, tIs (.int .i64 (z : Int))), (29, tIs (.int .i64 (xs.length : Int))), (30, tIs (.bool (decide ((z : Int) < (xs.length : Int))))), (31, tIs (.int .i64 (z : Int))), (32, tIs (.int .i64 (2 * (z : Int))))]) (fun a4 f4 us => [⟨b, 97, Y5 X5 us c⟩]) (fun a4 f4 us => a4 ≤ xs.length ∧ us.length = xs.length ∧ xs.length < a4 + f4 ∧ psF xs.length z f4 a4 us = psF xs.length z (xs.length + 1) 0 zs) (fun a4 f4 us => xs.length + 20 - a4) 0 (xs.length + 1) zs ⟨by omega, hzs, by omega, rfl⟩ ?lsub2 ?round2
   case lsub2 => exact Q8 (X3 (.k .nil)) (Z3 ⟨.t rfl, .t rfl, .t rfl, .t rfl, .eq (.t rfl) (by rfl), .eq (.t rfl) (by congr 2 <;> omega), .t rfl, .t rfl, .t rfl, .t rfl, .t rfl, trivial⟩)
   intro a4 f4 us hinv
   obtain ⟨ha4, hus, hf4, hv4⟩ := hinv
   refine JC.seq (JC.g (J.M rfl rfl (J.M rfl rfl (J.o (ot_leq (.t rfl) (.t rfl)) rfl (J.e ?_)))))
   refine JC.cond (.t rfl) (fun hc2 => ?_) (fun hc2 => ?_)
   ·try simp only [bsx] at hc2
    have hs35 := hc2
    refine JC.skip (JQ.then_normal (JC.block (JC.g (J.M rfl rfl (J.M rfl rfl (J.M rfl rfl (J.M rfl rfl ?_)))))))
    refine J.o (Z6 (.t rfl) (.t rfl) (w64 (by omega) (by omega))) rfl (J.M rfl rfl (J.M rfl rfl ?_))
    refine J.callL (R' := Y5 X5 (symF (2 * z) a4 (a4 + z) (a4 + 2 * z) us) c) (Us := []) (cap := []) fn130 (.func (fun _ => rfl)) (sym_c b c (2 * z) a4 (a4 + z) (a4 + 2 * z) us (by omega) (by omega) (by omega)) (.cons (.eq (.t rfl) (by rw [hus])) (.cons (.t rfl) (.cons (.eq (.t rfl) (by congr 2 <;> omega)) (.cons (.eq (.t rfl) (by congr 2 <;> omega)) (.cons (.t rfl) .nil))))) (fun _ => trivial) .here (ltN rfl) (J.e (JC.g (J.M rfl rfl (J.A rfl rfl (J.e (JC.region (J.M rfl rfl (J.M rfl rfl ?_))))))))
    refine J.o (ot_mul .is (.t rfl) (w64 (by omega) (by omega))) rfl ?_
    refine J.o (Z6 (.t rfl) (.t rfl) (w64 (by omega) (by omega))) rfl (J.A rfl rfl (J.nil (JQ.block_normal ?_)))
    exact JQ.round3 (i := a4) (i2 := f4) (i3 := us) (a4 + 2 * z) (f4 - 1) (symF (2 * z) a4 (a4 + z) (a4 + 2 * z) us) ⟨by omega, by rw [symF_len]; exact hus, by omega, by rw [← hv4]; exact psF_go (by omega) (by omega)⟩ (by omega) (Q8 (X3 (.keep (fun _ _ h => by first | exact h | simpa using h) .nil)) (Z3 ⟨.t rfl, .t rfl, .t rfl, .t rfl, .eq (.t rfl) (by congr 2 <;> omega), .eq (.t rfl) (by congr 2 <;> omega), .t rfl, .t rfl, .t rfl, .t rfl, .t rfl, trivial⟩))
   ·try simp only [bsx] at hc2
    have hs35 := hc2
    have hpe := psF_end (n := xs.length) (z := z) (f := f4) (a := a4) (xs := us) (by omega) (by omega)
    rw [hv4] at hpe
    refine JC.exit (JQ.then_exit (JQ.then_exit (JQ.block_exit (JQ.then_normal (JC.seq (JC.g (J.M rfl rfl (J.M rfl rfl ?_))))))))
    refine J.o (Z6 (.t rfl) (.t rfl) (w64 (by omega) (by omega))) rfl (J.A rfl rfl (J.e (JC.g (J.M rfl rfl (J.M rfl rfl (J.o (Y6 (.t rfl) (.t rfl)) rfl (J.e ?_)))))))
    refine JC.cond (.t rfl) (fun hc3 => ?_) (fun hc3 => ?_)
    ·try simp only [bsx] at hc3
     have hs54 := hc3
     refine JC.region (J.M rfl rfl (J.M rfl rfl (J.M rfl rfl (J.M rfl rfl (J.M rfl rfl ?_)))))
     refine J.callL (R' := Y5 X5 (symF (xs.length - a4) a4 (a4 + z) xs.length us) c) (Us := []) (cap := []) fn130 (.func (fun _ => rfl)) (sym_c b c (xs.length - a4) a4 (a4 + z) xs.length us (by omega) (by omega) (by omega)) (.cons (.eq (.t rfl) (by rw [hus])) (.cons (.t rfl) (.cons (.eq (.t rfl) (by congr 2 <;> omega)) (.cons (.t rfl) (.cons (.t rfl) .nil))))) (fun _ => trivial) .here (ltN rfl) (J.e (JC.region (J.M rfl rfl ?_)))
     refine J.o (ot_mul (.t rfl) .is (w64 (by omega) (by omega))) rfl (J.A rfl rfl (J.nil (JQ.block_normal ?_)))
     exact JQ.round3 (i := z) (i2 := f2) (i3 := zs) (z * 2) (f2 - 1) (symF (xs.length - a4) a4 (a4 + z) xs.length us) ⟨by omega, by rw [symF_len]; exact hus, by omega, by rw [← hv2, show symF (xs.length - a4) a4 (a4 + z) xs.length us = psF xs.length z (xs.length + 1) 0 zs by (rw [← hpe, if_pos (by omega)])]; exact mgF_go (by omega) (by omega)⟩ (by omega) (Q8 (X3 (.keep (fun _ _ h => by first | exact h | simpa using h) .nil)) (Z3 ⟨.t rfl, .t rfl, .t rfl, .eq (.t rfl) (by congr 2 <;> omega), trivial⟩))
    ·try simp only [bsx] at hc3
     have hs54 := hc3
     refine JC.skip (JQ.then_normal (JC.region (J.M rfl rfl ?_)))
     refine J.o (ot_mul (.t rfl) .is (w64 (by omega) (by omega))) rfl (J.A rfl rfl (J.nil (JQ.block_normal ?_)))
     exact JQ.round3 (i := z) (i2 := f2) (i3 := zs) (z * 2) (f2 - 1) us ⟨by omega, hus, by omega, by rw [← hv2, show us = psF xs.length z (xs.length + 1) 0 zs by (rw [← hpe, if_neg (by omega)])]; exact mgF_go (by omega) (by omega)⟩ (by omega) (Q8 (X3 (.k .nil)) (Z3 ⟨.t rfl, .t rfl, .t rfl, .eq (.t rfl) (by congr 2 <;> omega), trivial⟩))
  ·try simp only [bsx] at hc1
   have hs30 := hc1
   refine JC.exit (JQ.then_exit (JQ.then_exit (JQ.block_exit ?_)))
   exact (JQ.retL0 rfl (.head _) (K8 (by rw [← hv2]; exact mgF_end (by omega)))).2

theorem sortG_c (b c : Nat) (xs : List Tm) (hl : xs.length ≤ 4294967296) : CtrL Try.prog 110 [sIs b 0 (xs.length) c, tFn 111 []] b 97 (Y5 X5 xs c) (Y5 X5 (stT xs) c) K5 := by
 refine CtrL.of Try.func110 rfl Try.ntmps110 (Nat.le_of_ble_eq_true rfl) fun w0 M0 => (JC.region (J.M rfl rfl (J.M rfl rfl ?_)))
 refine J.o (T8 (.t rfl) R3 rfl) rfl (J.M rfl rfl ?_)
 refine J.callL (R' := Y5 X5 (stT xs) c) (Us := []) (cap := []) fn122 (.func (fun _ => rfl)) (stableG_c b c xs (by omega)) (.cons (.t rfl) (.cons (.t rfl) (.cons (.t rfl) .nil))) (fun _ => trivial) .here (ltN rfl) (J.nil ?_)
 exact (JQ.retL0 rfl (.head _) (fun _ _ h => h)).2

theorem normSG_c {B : Nat} (ts : List Tm) (hl : ts.length ≤ 4294967295) (hd : ∀ t ∈ ts, U7 t.coef.abs) (hz : ∀ t ∈ ts, t.coef.abs.length ≤ B) (hb : B ≤ 1000000000000) : Ctr Try.prog 93 [tSl X5 ts] (tSl X5 (Q4 ts)) := by
 have hkl := keepT_len ts
 have hsl := stT_len (Q7 ts)
 have hm : ∀ t ∈ stT (Q7 ts), t ∈ ts := fun t h => (List.mem_filter.1 (stT_mem t h)).1
 refine Ctr.of Try.func93 rfl Try.ntmps93 (Nat.le_of_ble_eq_true rfl) fun w0 M0 => (JC.g ?_)
 refine J.o (Y2 (.nil (E := X5))) rfl (J.e (JC.g ?_))
 refine J.a .is rfl (J.e (JC.seq (JC.g (J.M rfl rfl (J.o (Y8 (.t rfl) R3 rfl) rfl ?_)))))
 refine J.m .is rfl (J.e (JC.block ?_))
 refine JC.loop4 (α := Bool) (β := Nat) (γ := Nat) (δ := Nat) (fun e k b c => bif e then [(2, tSl X5 ([])), (3, tIs (.slice none 0 0)), (9, tSl X5 ts), (10, tIs (.int .i64 (((ts).length : Int)))), (11, tIs (.int .i64 (k : Int)))] else [(2, tSl X5 ([])), (3, sIs b 0 ((Q7 (ts.take k)).length) c), (9, tSl X5 ts), (10, tIs (.int .i64 (((ts).length : Int)))), (11, tIs (.int .i64 (k : Int)))]) (fun e k b c => bif e then [] else [⟨b, 97, Y5 X5 (Q7 (ts.take k)) c⟩]) (fun e k b c => k ≤ ts.length ∧ (e = true → Q7 (ts.take k) = [])) (fun e k b c => ts.length - k) true 0 0 0 ⟨by omega, fun _ => rfl⟩ ?lsub0 ?round0
 case lsub0 => exact Q8 (X3 .nil) (Z3 ⟨.t rfl, .t rfl, .t rfl, .t rfl, .eq (.t rfl) (by first | rfl | (congr 3; omega) | (congr 2; omega)), trivial⟩)
 intro e k b c hinv
 rcases e with _ | _
 ·change JC _ _ _ [(2, tSl X5 ([])), (3, sIs b 0 ((Q7 (ts.take k)).length) c), (9, tSl X5 ts), (10, tIs (.int .i64 (((ts).length : Int)))), (11, tIs (.int .i64 (k : Int)))] [⟨b, 97, Y5 X5 (Q7 (ts.take k)) c⟩]
  obtain ⟨hk, he⟩ := hinv
  have hkk := keepT_len (ts.take k)
  rw [List.length_take] at hkk
  refine (JC.g (J.o (Y6 (.t rfl) (.t rfl)) rfl (J.e (JC.seq ?_))))
  refine JC.cond (.t rfl) (fun hc0 => ?_) (fun hc0 => ?_)
  ·try simp only [bsx] at hc0
   have hs12 := hc0
   refine JC.skip (JQ.then_normal (JC.seq (JC.block (JC.g ?_))))
   refine J.o (ixo (z := atT ts k) (.t rfl) (.t rfl) R3 (by omega) (atT_at (by omega) (by omega))) rfl (J.o (lda (.t rfl) ag97 V0) rfl ?_)
   refine J.alloc (R := cTs [tIs (.bool false), tSl X8 ([]), tIs (.int .i64 0), tIs (.int .i64 0), tIs (.int .i64 0), tIs (.int .i64 0)]) zr97 (fun _ => ⟨rfl, rfl, Q9 _ _, rfl, rfl, rfl, rfl, rfl, rfl, rfl, rfl, rfl, trivial⟩) (ltN rfl) fun b5 => ?_
   refine J.store (.t rfl) (.eq (.t rfl) (K2 (Ts := [tIs (.bool ((atT ts k).coef.neg)), tSl X8 ((atT ts k).coef.abs), tIs (.int .i64 (((atT ts k).exp).a)), tIs (.int .i64 (((atT ts k).exp).b)), tIs (.int .i64 (((atT ts k).exp).c)), tIs (.int .i64 (((atT ts k).exp).d))]) rfl)) .here sz97 (Z4 (Ts' := [tIs (.bool ((atT ts k).coef.neg)), tSl X8 ((atT ts k).coef.abs), tIs (.int .i64 (((atT ts k).exp).a)), tIs (.int .i64 (((atT ts k).exp).b)), tIs (.int .i64 (((atT ts k).exp).c)), tIs (.int .i64 (((atT ts k).exp).d))]) (o := 0) rfl) (J.e (JC.seq ?_))
   refine JC.weak (sub_freezeP (R' := cEnc X5 (atT ts k)) [5] ⟨rfl, trivial⟩ .here (cTs_F (f := tmT) (x := atT ts k) rfl rfl)) (JC.region (J.o (ofp (R' := cDrop (cEnc X5 (atT ts k)) 2) (.t rfl) fd97_1 (fun _ _ h => cDrop_mk h)) rfl ?_))
   refine J.o (ot_sliceA (.t rfl) ar4_95 tm_exp) rfl ?_
   refine J.o (oc fn109 (min_c ((atT ts k).exp.list) (by simp [Mo.list])) (.cons (.t rfl) .nil)) rfl (J.o (ot_geq (.t rfl) .is) rfl (J.e ?_))
   refine JC.cond (.t rfl) (fun hc1 => ?_) (fun hc1 => ?_)
   ·try simp only [bsx] at hc1
    have hs18 := hc1
    refine JC.region (J.M rfl rfl (J.o (lda (.t rfl) ag97 V0) rfl ?_))
    refine J.o (K6 (E := X5) (zs := [atT ts k]) R3 (.cons (.t rfl) .nil) rfl zr97 rfl (by decide) (by decide)) rfl ?_
    refine J.append (E := X5) (xs := Q7 (ts.take k)) (ys := [atT ts k]) (.t rfl) rfl (.t rfl) R3 rfl zr97 rfl .here (by simp <;> omega) (by simp <;> omega) (ltN rfl) fun b22 c22 => (J.A rfl rfl (J.nil (JQ.block_normal (JQ.then_normal (JC.region ?_)))))
    refine J.o (Z6 (.t rfl) .is (w64 (by omega) (by omega))) rfl (J.M rfl rfl (J.nil ?_))
    have hyes := keepT_yes (show k < ts.length by omega) (okT_iff.2 hs18)
    exact JQ.round4 (i := false) (i2 := k) (i3 := b) (i4 := c) false (k + 1) b22 c22 ⟨by omega, fun h => by cases h⟩ (by omega) (Q8 (X3 (.keep (K8 hyes) .nil)) (Z3 ⟨.t rfl, .eq (.t rfl) (by rw [hyes]), .t rfl, .t rfl, .eq (.t rfl) (by first | rfl | (congr 3; omega) | (congr 2; omega)), trivial⟩))
   ·try simp only [bsx] at hc1
    have hs18 := hc1
    refine JC.skip (JQ.block_normal (JQ.then_normal (JC.region ?_)))
    refine J.o (Z6 (.t rfl) .is (w64 (by omega) (by omega))) rfl (J.M rfl rfl (J.nil ?_))
    have hno := keepT_no (show k < ts.length by omega) (fun h => hs18 (okT_iff.1 h))
    exact JQ.round4 (i := false) (i2 := k) (i3 := b) (i4 := c) false (k + 1) b c ⟨by omega, fun h => by cases h⟩ (by omega) (Q8 (X3 (.keep (K8 hno) .nil)) (Z3 ⟨.t rfl, .eq (.t rfl) (by rw [hno]), .t rfl, .t rfl, .eq (.t rfl) (by first | rfl | (congr 3; omega) | (congr 2; omega)), trivial⟩))
  ·try simp only [bsx] at hc0
   have hs12 := hc0
   have hkt : Q7 (ts.take k) = Q7 ts := by rw [List.take_of_length_le (by omega)]
   refine JC.exit (JQ.then_exit (JQ.then_exit (JQ.block_exit (JQ.then_normal (JC.g (J.M rfl rfl ?_))))))
   refine J.callL (R' := Y5 X5 (stT (Q7 (ts.take k))) c) (Us := []) (cap := []) fn110 (.func (fun _ => rfl)) (sortG_c b c (Q7 (ts.take k)) (by omega)) (.cons (.t rfl) (.cons (.func (fun _ => rfl)) .nil)) (fun _ => trivial) .here (ltN rfl) (J.e (JC.seq ?_))
   refine JC.weak (U9 (E := X5) (xs := stT (Q7 (ts.take k))) (n := (Q7 (ts.take k)).length) (c := c) [24, 3] ⟨rfl, rfl, trivial⟩ .here (by rw [stT_len]) (by omega)) (JC.region ?_)
   refine J.a .is rfl (J.e (JC.seq (JC.g ?_)))
   refine J.a .is rfl (J.e (JC.block ?_))
   refine JC.loop5 (α := Bool) (β := Nat) (γ := List Tm) (δ := Nat) (ε := Nat) (fun e i O b c => bif e then [(2, tSl X5 ([])), (3, tSl X5 ((stT (Q7 ts)))), (6, tIs (.slice none 0 0)), (7, tIs (.int .i64 (i : Int)))] else [(2, tSl X5 ([])), (3, tSl X5 ((stT (Q7 ts)))), (6, sIs b 0 (O.length) c), (7, tIs (.int .i64 (i : Int)))]) (fun e i O b c => bif e then [] else [⟨b, 97, Y5 X5 O c⟩]) (fun e i O b c => i ≤ (stT (Q7 ts)).length ∧ O ++ W0 ((stT (Q7 ts)).drop i) = W0 (stT (Q7 ts)) ∧ O.length ≤ i ∧ (e = true → O = [])) (fun e i O b c => (stT (Q7 ts)).length - i) true 0 ([]) 0 0 ⟨by omega, by simp, by simp, fun _ => rfl⟩ ?lsub1 ?round1
   case lsub1 => exact Q8 (X3 .nil) (Z3 ⟨.t rfl, .eq (.t rfl) (by rw [hkt]), .t rfl, .eq (.t rfl) (by first | rfl | (congr 3; omega) | (congr 2; omega)), trivial⟩)
   intro e i O b c hinv
   rcases e with _ | _
   ·change JC _ _ _ [(2, tSl X5 ([])), (3, tSl X5 ((stT (Q7 ts)))), (6, sIs b 0 (O.length) c), (7, tIs (.int .i64 (i : Int)))] [⟨b, 97, Y5 X5 O c⟩]
    obtain ⟨hi, hO, hOl, hOe⟩ := hinv
    refine JC.seq (JC.g (J.M rfl rfl (J.M rfl rfl (J.o (Y8 (.t rfl) R3 rfl) rfl (J.o (Y6 (.t rfl) (.t rfl)) rfl (J.e ?_))))))
    refine JC.cond (.t rfl) (fun hc2 => ?_) (fun hc2 => ?_)
    ·try simp only [bsx] at hc2
     have hs29 := hc2
     refine JC.skip (JQ.then_normal (JC.block (JC.g (J.M rfl rfl (J.M rfl rfl ?_)))))
     refine J.o (ixo (z := atT (stT (Q7 ts)) i) (.t rfl) (.t rfl) R3 (by omega) (atT_at (by omega) (by omega))) rfl (J.o (ofp (R' := cDrop (cEnc X5 (atT (stT (Q7 ts)) i)) 2) (.t rfl) fd97_1 (fun _ _ h => cDrop_mk h)) rfl (J.o (lda (.t rfl) ag95 (ldFV (g := moT) (y := (atT (stT (Q7 ts)) i).exp) rfl rfl)) rfl ?_))
     refine J.o (X9 (T' := tV X5 (Tm.mk (Z.mk false ([])) ((atT (stT (Q7 ts)) i).exp))) (V7 (Ts := [tIs (.bool false), tSl X8 ([]), tIs (.int .i64 0), tIs (.int .i64 0), tIs (.int .i64 0), tIs (.int .i64 0)]) pl97 (fun _ => ⟨rfl, rfl, Q9 _ _, rfl, rfl, rfl, rfl, rfl, rfl, rfl, rfl, rfl, trivial⟩) ((.agg (off := 2) rfl (.eq (.t rfl) (K2 (Ts := [tIs (.int .i64 (((atT (stT (Q7 ts)) i).exp).a)), tIs (.int .i64 (((atT (stT (Q7 ts)) i).exp).b)), tIs (.int .i64 (((atT (stT (Q7 ts)) i).exp).c)), tIs (.int .i64 (((atT (stT (Q7 ts)) i).exp).d))]) rfl)) (Ts' := [tIs (.bool false), tSl X8 ([]), tIs (.int .i64 (((atT (stT (Q7 ts)) i).exp).a)), tIs (.int .i64 (((atT (stT (Q7 ts)) i).exp).b)), tIs (.int .i64 (((atT (stT (Q7 ts)) i).exp).c)), tIs (.int .i64 (((atT (stT (Q7 ts)) i).exp).d))]) rfl rfl .nil)) rfl) (tV_F' rfl)) rfl ?_
     refine J.alloc (R := cTs [tIs (.bool false), tSl X8 ([]), tIs (.int .i64 0), tIs (.int .i64 0), tIs (.int .i64 0), tIs (.int .i64 0)]) zr97 (fun _ => ⟨rfl, rfl, Q9 _ _, rfl, rfl, rfl, rfl, rfl, rfl, rfl, rfl, rfl, trivial⟩) (ltN rfl) fun b8 => ?_
     refine J.store (.t rfl) (.eq (.t rfl) (K2 (Ts := [tIs (.bool false), tSl X8 ([]), tIs (.int .i64 (((atT (stT (Q7 ts)) i).exp).a)), tIs (.int .i64 (((atT (stT (Q7 ts)) i).exp).b)), tIs (.int .i64 (((atT (stT (Q7 ts)) i).exp).c)), tIs (.int .i64 (((atT (stT (Q7 ts)) i).exp).d))]) rfl)) .here sz97 (Z4 (Ts' := [tIs (.bool false), tSl X8 ([]), tIs (.int .i64 (((atT (stT (Q7 ts)) i).exp).a)), tIs (.int .i64 (((atT (stT (Q7 ts)) i).exp).b)), tIs (.int .i64 (((atT (stT (Q7 ts)) i).exp).c)), tIs (.int .i64 (((atT (stT (Q7 ts)) i).exp).d))]) (o := 0) rfl) (J.e (JC.seq (JC.block ?_)))
     refine JC.loop2 (α := Nat) (β := Int) (fun j q => [(2, tSl X5 ([])), (3, tSl X5 ((stT (Q7 ts)))), (6, sIs b 0 (O.length) c), (7, tIs (.int .i64 (j : Int))), (8, X7 b8 0), (26, tIs (.int .i64 (i : Int))), (27, tSl X5 ((stT (Q7 ts)))), (28, tIs (.int .i64 ((((stT (Q7 ts))).length : Int)))), (29, tIs (.bool (decide ((i : Int) < (((stT (Q7 ts))).length : Int))))), (30, tSl X5 ((stT (Q7 ts)))), (31, tIs (.int .i64 (i : Int))), (32, tPtr (cEnc X5 (atT (stT (Q7 ts)) i))), (33, tPtr (cDrop (cEnc X5 (atT (stT (Q7 ts)) i)) 2)), (34, tV encMo ((atT (stT (Q7 ts)) i).exp)), (35, tV X5 (Tm.mk (Z.mk false ([])) ((atT (stT (Q7 ts)) i).exp)))]) (fun j q => [⟨b8, 97, cTs [tIs (.bool ((ofI q).neg)), tSl X8 ((ofI q).abs), tIs (.int .i64 (((atT (stT (Q7 ts)) i).exp).a)), tIs (.int .i64 (((atT (stT (Q7 ts)) i).exp).b)), tIs (.int .i64 (((atT (stT (Q7 ts)) i).exp).c)), tIs (.int .i64 (((atT (stT (Q7 ts)) i).exp).d))]⟩, ⟨b, 97, Y5 X5 O c⟩]) (fun j q => i ≤ j ∧ j ≤ (stT (Q7 ts)).length ∧ U8 (atT (stT (Q7 ts)) i).exp q ((stT (Q7 ts)).drop j) = U8 (atT (stT (Q7 ts)) i).exp 0 ((stT (Q7 ts)).drop i) ∧ q.natAbs ≤ j * B32 ^ B) (fun j q => (stT (Q7 ts)).length - j) i 0 ⟨by omega, by omega, rfl, by simp⟩ ?lsub2 ?round2
     case lsub2 => exact Q8 (X3 (.keep (fun _ _ h => by rw [ofI_zero]; exact h) (.k .nil))) (Z3 ⟨.t rfl, .t rfl, .t rfl, .t rfl, .t rfl, .t rfl, .t rfl, .t rfl, .t rfl, .t rfl, .t rfl, .t rfl, .t rfl, .t rfl, .t rfl, trivial⟩)
     intro j q hinv
     obtain ⟨hij, hjl, hrun, hq⟩ := hinv
     have hqf := sum_fit hq (by omega)
     have hqf2 : (ofI q).abs.length ≤ B + 1 := hqf
     refine JC.seq (JC.seq ?_)
     refine JC.draw (Γ' := ?g1) mo (by kernel_rfl) ?tw1 ?k1
     case tw1 =>
      refine TW.M rfl rfl (TW.M rfl rfl (TW.o (Y8 (.t rfl) R3 rfl) rfl (TW.o (Y6 (.t rfl) (.t rfl)) rfl (TW.M rfl rfl ?_))))
      refine TW.opg rfl rfl rfl (ltN rfl) (fun hg => Y0 (.t rfl)) rfl (ltN rfl) ?_
      refine TW.opg rfl rfl rfl (ltN rfl) (fun hg => Y0 (.t rfl)) rfl (ltN rfl) ?_
      refine TW.opg rfl rfl rfl (ltN rfl) (fun hg => (by have hg' := hg; (try simp only [bsx] at hg'); exact ixo (z := atT (stT (Q7 ts)) j) (.iff hg (.t rfl)) (.iff hg (.t rfl)) R3 (by omega) (atT_at (by omega) (by omega)))) rfl (ltN rfl) ?_
      refine TW.opg rfl rfl rfl (ltN rfl) (fun hg => ofp (R' := cDrop (cEnc X5 (atT (stT (Q7 ts)) j)) 2) (.iff hg (.t rfl)) fd97_1 (fun _ _ h => cDrop_mk h)) rfl (ltN rfl) ?_
      refine TW.opg rfl rfl rfl (ltN rfl) (fun hg => lda (.iff hg (.t rfl)) ag95 (ldFV (g := moT) (y := (atT (stT (Q7 ts)) j).exp) rfl rfl)) rfl (ltN rfl) ?_
      refine TW.opg rfl rfl rfl (ltN rfl) (fun hg => ofa (.t rfl) fd97_1) rfl (ltN rfl) ?_
      refine TW.opg rfl rfl rfl (ltN rfl) (fun hg => oa (.iff hg (.t rfl)) (.head _) ag95 (Q6 (g := moT) (y := ((atT (stT (Q7 ts)) i).exp)) rfl rfl)) rfl (ltN rfl) ?_
      refine TW.opg rfl rfl rfl (ltN rfl) (fun hg => ot_eqA (.iff hg (.t rfl)) (.iff hg (.t rfl)) ar4_95) rfl (ltN rfl) ?_
      refine TW.o (R4 (.t rfl) (.t rfl) .is) rfl ?_
      exact TW.nil
     refine JQ.then_normal ?_
     refine JC.cond (.t rfl) (fun hc3 => ?_) (fun hc3 => ?_)
     ·try simp only [bsx] at hc3
      have hs49 := hc3
      have hmj : atT (stT (Q7 ts)) j ∈ ts := hm _ (atT_mem (by omega))
      have hzj := hz _ hmj
      refine JC.skip (JQ.then_normal (JC.block (JC.seq ?_)))
      refine JC.drawAt (Γ' := ?g2) 9 mo (by kernel_rfl) ?tw2 ?k2
      case tw2 =>
       refine TW.o (ofa (.t rfl) fd97_0) rfl (TW.o (oa (.t rfl) (.head _) ag25 (Q6 (g := zT) (y := (ofI q)) rfl rfl)) rfl (TW.M rfl rfl (TW.M rfl rfl ?_)))
       refine TW.o (ixo (z := atT (stT (Q7 ts)) j) (.t rfl) (.t rfl) R3 (by omega) (atT_at (by omega) (by omega))) rfl (TW.o (ofp (.t rfl) fd97_0 (fun _ _ h => h)) rfl (TW.o (lda (.t rfl) ag25 (ldFV0 (g := zT) (y := (atT (stT (Q7 ts)) j).coef) rfl rfl)) rfl ?_))
       refine TW.o (X9 (T' := tV R9 (ofI (q + X4 (atT (stT (Q7 ts)) j).coef))) (oc fn96 (intAdd_c (ofI q) ((atT (stT (Q7 ts)) j).coef) (by omega) (by omega)) (.cons (.t rfl) (.cons (.t rfl) .nil))) (by rw [Y9])) rfl (TW.o (ofa (.t rfl) fd97_0) rfl ?_)
       exact TW.nil
      refine J.store (.t rfl) (.eq (.t rfl) (K2 (Ts := (iT (ofI (q + X4 (atT (stT (Q7 ts)) j).coef)))) rfl)) .here sz25 (Z4 (Ts' := [tIs (.bool ((ofI (q + X4 (atT (stT (Q7 ts)) j).coef)).neg)), tSl X8 ((ofI (q + X4 (atT (stT (Q7 ts)) j).coef)).abs), tIs (.int .i64 (((atT (stT (Q7 ts)) i).exp).a)), tIs (.int .i64 (((atT (stT (Q7 ts)) i).exp).b)), tIs (.int .i64 (((atT (stT (Q7 ts)) i).exp).c)), tIs (.int .i64 (((atT (stT (Q7 ts)) i).exp).d))]) (o := 0) rfl) (J.e (JC.region (J.M rfl rfl ?_)))
      refine J.o (Z6 (.t rfl) .is (w64 (by omega) (by omega))) rfl (J.A rfl rfl (J.nil (JQ.block_normal ?_)))
      exact JQ.round2 (i := j) (i2 := q) (j + 1) (q + X4 (atT (stT (Q7 ts)) j).coef) ⟨by omega, by omega, by rw [← hrun]; exact sumRun_step (by omega) hs49.2, sum_next hq (hd _ hmj) (hz _ hmj)⟩ (by omega) (Q8 (X3 (.k (.k .nil))) (Z3 ⟨.t rfl, .t rfl, .t rfl, .eq (.t rfl) (by first | rfl | (congr 3; omega) | (congr 2; omega)), .t rfl, .t rfl, .t rfl, .t rfl, .t rfl, .t rfl, .t rfl, .t rfl, .t rfl, .t rfl, .t rfl, trivial⟩))
     ·try simp only [bsx] at hc3
      have hs49 := hc3
      have hst := sumRun_stop (c := q) (show ¬ j < (stT (Q7 ts)).length ∨ ¬ (atT (stT (Q7 ts)) j).exp = (atT (stT (Q7 ts)) i).exp from hs49.imp (fun h => by omega) id)
      rw [hrun] at hst
      have hlt : i < j := by rcases Nat.lt_or_eq_of_le hij with h | h; exact h; subst h; rcases hs49 with q | q; omega; exact absurd rfl q
      refine JC.exit (JQ.then_exit (JQ.then_exit (JQ.block_exit (JQ.then_normal (JC.g (J.o (ofa (.t rfl) fd97_0) rfl (J.o (oa (.t rfl) (.head _) ag25 (Q6 (g := zT) (y := (ofI q)) rfl rfl)) rfl ?_)))))))
      refine J.o (X9 (T' := tIs (.int .i64 (sgn q))) (oc fn35 (intSign_c (ofI q) (by omega)) (.cons (.t rfl) .nil)) (by rw [Y9])) rfl (J.o (ot_neq (.t rfl) .is) rfl (J.e ?_))
      refine JC.cond (.t rfl) (fun hc4 => ?_) (fun hc4 => ?_)
      ·try simp only [bsx] at hc4
       have hs64 := hc4
       refine JC.region (J.M rfl rfl (J.o (oa (.t rfl) (.head _) ag97 (Q6 (g := tmT) (y := (Tm.mk (ofI q) ((atT (stT (Q7 ts)) i).exp))) rfl rfl)) rfl ?_))
       refine J.o (K6 (E := X5) (zs := [Tm.mk (ofI q) ((atT (stT (Q7 ts)) i).exp)]) R3 (.cons (.t rfl) .nil) rfl zr97 rfl (by decide) (by decide)) rfl ?_
       refine J.append (E := X5) (xs := O) (ys := [Tm.mk (ofI q) ((atT (stT (Q7 ts)) i).exp)]) (.t rfl) rfl (.t rfl) R3 rfl zr97 rfl (.there .here) (by simp <;> omega) (by simp <;> omega) (ltN rfl) fun b68 c68 => (J.A rfl rfl (J.nil (JQ.block_normal ?_)))
       have hq0 : ¬ q = 0 := fun h => hs64 (by rw [h]; rfl)
       exact JQ.round5 (i := false) (i2 := i) (i3 := O) (i4 := b) (i5 := c) false j (O ++ [Tm.mk (ofI q) ((atT (stT (Q7 ts)) i).exp)]) b68 c68 ⟨hjl, merge_yes (by omega) hO hst hq0, by simp; omega, fun h => by cases h⟩ (by omega) (Q8 (X3 (.keep (fun _ _ h => by first | exact h | simpa using h) (.drop .nil))) (Z3 ⟨.t rfl, .t rfl, .eq (.t rfl) (by first | rfl | (congr 3; omega) | (congr 2; omega)), .t rfl, trivial⟩))
      ·try simp only [bsx] at hc4
       have hs64 := hc4
       refine JC.skip (JQ.block_normal ?_)
       have hq0 : q = 0 := by rcases N0 q with h | h | h <;> omega
       exact JQ.round5 (i := false) (i2 := i) (i3 := O) (i4 := b) (i5 := c) false j O b c ⟨hjl, merge_no (by omega) hO hst hq0, by omega, fun h => by cases h⟩ (by omega) (Q8 (X3 (.drop (.k .nil))) (Z3 ⟨.t rfl, .t rfl, .t rfl, .t rfl, trivial⟩))
    ·try simp only [bsx] at hc2
     have hs29 := hc2
     refine JC.exit (JQ.then_exit (JQ.then_exit (JQ.block_exit (JQ.then_normal (JC.seq ?_)))))
     refine JC.weak (U9 (E := X5) (xs := O) (n := O.length) (c := c) [6] ⟨rfl, trivial⟩ .here rfl (by omega)) (JC.region (J.M rfl rfl ?_))
     refine J.o (oc fn113 (clip_c O (by omega)) (.cons (.t rfl) .nil)) rfl (J.A rfl rfl (J.e (JC.ret ?_)))
     exact JQ.ret1 rfl (.tmp (.eq (.t rfl) (by rw [merge_end (by omega) hO mergeT_nil, normS_st])))
   ·change JC _ _ _ [(2, tSl X5 ([])), (3, tSl X5 ((stT (Q7 ts)))), (6, tIs (.slice none 0 0)), (7, tIs (.int .i64 (i : Int)))] []
    obtain ⟨hi, hO, hOl, hOe⟩ := hinv
    refine JC.seq (JC.g (J.M rfl rfl (J.M rfl rfl (J.o (Y8 (.t rfl) R3 rfl) rfl (J.o (Y6 (.t rfl) (.t rfl)) rfl (J.e ?_))))))
    refine JC.cond (.t rfl) (fun hc5 => ?_) (fun hc5 => ?_)
    ·try simp only [bsx] at hc5
     have hs29 := hc5
     refine JC.skip (JQ.then_normal (JC.block (JC.g (J.M rfl rfl (J.M rfl rfl ?_)))))
     refine J.o (ixo (z := atT (stT (Q7 ts)) i) (.t rfl) (.t rfl) R3 (by omega) (atT_at (by omega) (by omega))) rfl (J.o (ofp (R' := cDrop (cEnc X5 (atT (stT (Q7 ts)) i)) 2) (.t rfl) fd97_1 (fun _ _ h => cDrop_mk h)) rfl (J.o (lda (.t rfl) ag95 (ldFV (g := moT) (y := (atT (stT (Q7 ts)) i).exp) rfl rfl)) rfl ?_))
     refine J.o (X9 (T' := tV X5 (Tm.mk (Z.mk false ([])) ((atT (stT (Q7 ts)) i).exp))) (V7 (Ts := [tIs (.bool false), tSl X8 ([]), tIs (.int .i64 0), tIs (.int .i64 0), tIs (.int .i64 0), tIs (.int .i64 0)]) pl97 (fun _ => ⟨rfl, rfl, Q9 _ _, rfl, rfl, rfl, rfl, rfl, rfl, rfl, rfl, rfl, trivial⟩) ((.agg (off := 2) rfl (.eq (.t rfl) (K2 (Ts := [tIs (.int .i64 (((atT (stT (Q7 ts)) i).exp).a)), tIs (.int .i64 (((atT (stT (Q7 ts)) i).exp).b)), tIs (.int .i64 (((atT (stT (Q7 ts)) i).exp).c)), tIs (.int .i64 (((atT (stT (Q7 ts)) i).exp).d))]) rfl)) (Ts' := [tIs (.bool false), tSl X8 ([]), tIs (.int .i64 (((atT (stT (Q7 ts)) i).exp).a)), tIs (.int .i64 (((atT (stT (Q7 ts)) i).exp).b)), tIs (.int .i64 (((atT (stT (Q7 ts)) i).exp).c)), tIs (.int .i64 (((atT (stT (Q7 ts)) i).exp).d))]) rfl rfl .nil)) rfl) (tV_F' rfl)) rfl ?_
     refine J.alloc (R := cTs [tIs (.bool false), tSl X8 ([]), tIs (.int .i64 0), tIs (.int .i64 0), tIs (.int .i64 0), tIs (.int .i64 0)]) zr97 (fun _ => ⟨rfl, rfl, Q9 _ _, rfl, rfl, rfl, rfl, rfl, rfl, rfl, rfl, rfl, trivial⟩) (ltN rfl) fun b8 => ?_
     refine J.store (.t rfl) (.eq (.t rfl) (K2 (Ts := [tIs (.bool false), tSl X8 ([]), tIs (.int .i64 (((atT (stT (Q7 ts)) i).exp).a)), tIs (.int .i64 (((atT (stT (Q7 ts)) i).exp).b)), tIs (.int .i64 (((atT (stT (Q7 ts)) i).exp).c)), tIs (.int .i64 (((atT (stT (Q7 ts)) i).exp).d))]) rfl)) .here sz97 (Z4 (Ts' := [tIs (.bool false), tSl X8 ([]), tIs (.int .i64 (((atT (stT (Q7 ts)) i).exp).a)), tIs (.int .i64 (((atT (stT (Q7 ts)) i).exp).b)), tIs (.int .i64 (((atT (stT (Q7 ts)) i).exp).c)), tIs (.int .i64 (((atT (stT (Q7 ts)) i).exp).d))]) (o := 0) rfl) (J.e (JC.seq (JC.block ?_)))
     refine JC.loop2 (α := Nat) (β := Int) (fun j q => [(2, tSl X5 ([])), (3, tSl X5 ((stT (Q7 ts)))), (6, tIs (.slice none 0 0)), (7, tIs (.int .i64 (j : Int))), (8, X7 b8 0), (26, tIs (.int .i64 (i : Int))), (27, tSl X5 ((stT (Q7 ts)))), (28, tIs (.int .i64 ((((stT (Q7 ts))).length : Int)))), (29, tIs (.bool (decide ((i : Int) < (((stT (Q7 ts))).length : Int))))), (30, tSl X5 ((stT (Q7 ts)))), (31, tIs (.int .i64 (i : Int))), (32, tPtr (cEnc X5 (atT (stT (Q7 ts)) i))), (33, tPtr (cDrop (cEnc X5 (atT (stT (Q7 ts)) i)) 2)), (34, tV encMo ((atT (stT (Q7 ts)) i).exp)), (35, tV X5 (Tm.mk (Z.mk false ([])) ((atT (stT (Q7 ts)) i).exp)))]) (fun j q => [⟨b8, 97, cTs [tIs (.bool ((ofI q).neg)), tSl X8 ((ofI q).abs), tIs (.int .i64 (((atT (stT (Q7 ts)) i).exp).a)), tIs (.int .i64 (((atT (stT (Q7 ts)) i).exp).b)), tIs (.int .i64 (((atT (stT (Q7 ts)) i).exp).c)), tIs (.int .i64 (((atT (stT (Q7 ts)) i).exp).d))]⟩]) (fun j q => i ≤ j ∧ j ≤ (stT (Q7 ts)).length ∧ U8 (atT (stT (Q7 ts)) i).exp q ((stT (Q7 ts)).drop j) = U8 (atT (stT (Q7 ts)) i).exp 0 ((stT (Q7 ts)).drop i) ∧ q.natAbs ≤ j * B32 ^ B) (fun j q => (stT (Q7 ts)).length - j) i 0 ⟨by omega, by omega, rfl, by simp⟩ ?lsub3 ?round3
     case lsub3 => exact Q8 (X3 (.keep (fun _ _ h => by rw [ofI_zero]; exact h) .nil)) (Z3 ⟨.t rfl, .t rfl, .t rfl, .t rfl, .t rfl, .t rfl, .t rfl, .t rfl, .t rfl, .t rfl, .t rfl, .t rfl, .t rfl, .t rfl, .t rfl, trivial⟩)
     intro j q hinv
     obtain ⟨hij, hjl, hrun, hq⟩ := hinv
     have hqf := sum_fit hq (by omega)
     have hqf2 : (ofI q).abs.length ≤ B + 1 := hqf
     refine JC.seq (JC.seq ?_)
     refine JC.draw (Γ' := ?g3) mo (by kernel_rfl) ?tw3 ?k3
     case tw3 =>
      refine TW.M rfl rfl (TW.M rfl rfl (TW.o (Y8 (.t rfl) R3 rfl) rfl (TW.o (Y6 (.t rfl) (.t rfl)) rfl (TW.M rfl rfl ?_))))
      refine TW.opg rfl rfl rfl (ltN rfl) (fun hg => Y0 (.t rfl)) rfl (ltN rfl) ?_
      refine TW.opg rfl rfl rfl (ltN rfl) (fun hg => Y0 (.t rfl)) rfl (ltN rfl) ?_
      refine TW.opg rfl rfl rfl (ltN rfl) (fun hg => (by have hg' := hg; (try simp only [bsx] at hg'); exact ixo (z := atT (stT (Q7 ts)) j) (.iff hg (.t rfl)) (.iff hg (.t rfl)) R3 (by omega) (atT_at (by omega) (by omega)))) rfl (ltN rfl) ?_
      refine TW.opg rfl rfl rfl (ltN rfl) (fun hg => ofp (R' := cDrop (cEnc X5 (atT (stT (Q7 ts)) j)) 2) (.iff hg (.t rfl)) fd97_1 (fun _ _ h => cDrop_mk h)) rfl (ltN rfl) ?_
      refine TW.opg rfl rfl rfl (ltN rfl) (fun hg => lda (.iff hg (.t rfl)) ag95 (ldFV (g := moT) (y := (atT (stT (Q7 ts)) j).exp) rfl rfl)) rfl (ltN rfl) ?_
      refine TW.opg rfl rfl rfl (ltN rfl) (fun hg => ofa (.t rfl) fd97_1) rfl (ltN rfl) ?_
      refine TW.opg rfl rfl rfl (ltN rfl) (fun hg => oa (.iff hg (.t rfl)) (.head _) ag95 (Q6 (g := moT) (y := ((atT (stT (Q7 ts)) i).exp)) rfl rfl)) rfl (ltN rfl) ?_
      refine TW.opg rfl rfl rfl (ltN rfl) (fun hg => ot_eqA (.iff hg (.t rfl)) (.iff hg (.t rfl)) ar4_95) rfl (ltN rfl) ?_
      refine TW.o (R4 (.t rfl) (.t rfl) .is) rfl ?_
      exact TW.nil
     refine JQ.then_normal ?_
     refine JC.cond (.t rfl) (fun hc6 => ?_) (fun hc6 => ?_)
     ·try simp only [bsx] at hc6
      have hs49 := hc6
      have hmj : atT (stT (Q7 ts)) j ∈ ts := hm _ (atT_mem (by omega))
      have hzj := hz _ hmj
      refine JC.skip (JQ.then_normal (JC.block (JC.seq ?_)))
      refine JC.drawAt (Γ' := ?g4) 9 mo (by kernel_rfl) ?tw4 ?k4
      case tw4 =>
       refine TW.o (ofa (.t rfl) fd97_0) rfl (TW.o (oa (.t rfl) (.head _) ag25 (Q6 (g := zT) (y := (ofI q)) rfl rfl)) rfl (TW.M rfl rfl (TW.M rfl rfl ?_)))
       refine TW.o (ixo (z := atT (stT (Q7 ts)) j) (.t rfl) (.t rfl) R3 (by omega) (atT_at (by omega) (by omega))) rfl (TW.o (ofp (.t rfl) fd97_0 (fun _ _ h => h)) rfl (TW.o (lda (.t rfl) ag25 (ldFV0 (g := zT) (y := (atT (stT (Q7 ts)) j).coef) rfl rfl)) rfl ?_))
       refine TW.o (X9 (T' := tV R9 (ofI (q + X4 (atT (stT (Q7 ts)) j).coef))) (oc fn96 (intAdd_c (ofI q) ((atT (stT (Q7 ts)) j).coef) (by omega) (by omega)) (.cons (.t rfl) (.cons (.t rfl) .nil))) (by rw [Y9])) rfl (TW.o (ofa (.t rfl) fd97_0) rfl ?_)
       exact TW.nil
      refine J.store (.t rfl) (.eq (.t rfl) (K2 (Ts := (iT (ofI (q + X4 (atT (stT (Q7 ts)) j).coef)))) rfl)) .here sz25 (Z4 (Ts' := [tIs (.bool ((ofI (q + X4 (atT (stT (Q7 ts)) j).coef)).neg)), tSl X8 ((ofI (q + X4 (atT (stT (Q7 ts)) j).coef)).abs), tIs (.int .i64 (((atT (stT (Q7 ts)) i).exp).a)), tIs (.int .i64 (((atT (stT (Q7 ts)) i).exp).b)), tIs (.int .i64 (((atT (stT (Q7 ts)) i).exp).c)), tIs (.int .i64 (((atT (stT (Q7 ts)) i).exp).d))]) (o := 0) rfl) (J.e (JC.region (J.M rfl rfl ?_)))
      refine J.o (Z6 (.t rfl) .is (w64 (by omega) (by omega))) rfl (J.A rfl rfl (J.nil (JQ.block_normal ?_)))
      exact JQ.round2 (i := j) (i2 := q) (j + 1) (q + X4 (atT (stT (Q7 ts)) j).coef) ⟨by omega, by omega, by rw [← hrun]; exact sumRun_step (by omega) hs49.2, sum_next hq (hd _ hmj) (hz _ hmj)⟩ (by omega) (Q8 (X3 (.k .nil)) (Z3 ⟨.t rfl, .t rfl, .t rfl, .eq (.t rfl) (by first | rfl | (congr 3; omega) | (congr 2; omega)), .t rfl, .t rfl, .t rfl, .t rfl, .t rfl, .t rfl, .t rfl, .t rfl, .t rfl, .t rfl, .t rfl, trivial⟩))
     ·try simp only [bsx] at hc6
      have hs49 := hc6
      have hst := sumRun_stop (c := q) (show ¬ j < (stT (Q7 ts)).length ∨ ¬ (atT (stT (Q7 ts)) j).exp = (atT (stT (Q7 ts)) i).exp from hs49.imp (fun h => by omega) id)
      rw [hrun] at hst
      have hlt : i < j := by rcases Nat.lt_or_eq_of_le hij with h | h; exact h; subst h; rcases hs49 with q | q; omega; exact absurd rfl q
      refine JC.exit (JQ.then_exit (JQ.then_exit (JQ.block_exit (JQ.then_normal (JC.g (J.o (ofa (.t rfl) fd97_0) rfl (J.o (oa (.t rfl) (.head _) ag25 (Q6 (g := zT) (y := (ofI q)) rfl rfl)) rfl ?_)))))))
      refine J.o (X9 (T' := tIs (.int .i64 (sgn q))) (oc fn35 (intSign_c (ofI q) (by omega)) (.cons (.t rfl) .nil)) (by rw [Y9])) rfl (J.o (ot_neq (.t rfl) .is) rfl (J.e ?_))
      refine JC.cond (.t rfl) (fun hc7 => ?_) (fun hc7 => ?_)
      ·try simp only [bsx] at hc7
       have hs64 := hc7
       refine JC.region (J.M rfl rfl (J.o (oa (.t rfl) (.head _) ag97 (Q6 (g := tmT) (y := (Tm.mk (ofI q) ((atT (stT (Q7 ts)) i).exp))) rfl rfl)) rfl ?_))
       refine J.o (K6 (E := X5) (zs := [Tm.mk (ofI q) ((atT (stT (Q7 ts)) i).exp)]) R3 (.cons (.t rfl) .nil) rfl zr97 rfl (by decide) (by decide)) rfl ?_
       refine J.append0 (E := X5) (ys := [Tm.mk (ofI q) ((atT (stT (Q7 ts)) i).exp)]) (.sub (.t rfl) nil_z) (.t rfl) (by simp) R3 rfl zr97 rfl (by simp <;> omega) (by simp <;> omega) (ltN rfl) fun b68 c68 => (J.A rfl rfl (J.nil (JQ.block_normal ?_)))
       have hq0 : ¬ q = 0 := fun h => hs64 (by rw [h]; rfl)
       have hO0 := hOe rfl
       exact JQ.round5 (i := true) (i2 := i) (i3 := O) (i4 := b) (i5 := c) false j (O ++ [Tm.mk (ofI q) ((atT (stT (Q7 ts)) i).exp)]) b68 c68 ⟨hjl, merge_yes (by omega) hO hst hq0, by simp; omega, fun h => by cases h⟩ (by omega) (Q8 (X3 (.keep (K8 (by rw [hO0]; rfl)) (.drop .nil))) (Z3 ⟨.t rfl, .t rfl, .eq (.t rfl) (by rw [hO0]; rfl), .t rfl, trivial⟩))
      ·try simp only [bsx] at hc7
       have hs64 := hc7
       refine JC.skip (JQ.block_normal ?_)
       have hq0 : q = 0 := by rcases N0 q with h | h | h <;> omega
       exact JQ.round5 (i := true) (i2 := i) (i3 := O) (i4 := b) (i5 := c) true j O 0 0 ⟨hjl, merge_no (by omega) hO hst hq0, by omega, fun _ => hOe rfl⟩ (by omega) (Q8 (X3 (.drop .nil)) (Z3 ⟨.t rfl, .t rfl, .t rfl, .t rfl, trivial⟩))
    ·try simp only [bsx] at hc5
     have hs29 := hc5
     refine JC.exit (JQ.then_exit (JQ.then_exit (JQ.block_exit (JQ.then_normal (JC.g (J.M rfl rfl ?_))))))
     refine J.o (oc fn113 (clip_c ([]) (by simp)) (.cons (.sub (.t rfl) nil_sl) .nil)) rfl (J.A rfl rfl (J.e (JC.ret ?_)))
     exact JQ.ret1 rfl (.tmp (.eq (.t rfl) (by rw [← normS_st, ← merge_end (by omega) hO mergeT_nil, hOe rfl])))
 ·change JC _ _ _ [(2, tSl X5 ([])), (3, tIs (.slice none 0 0)), (9, tSl X5 ts), (10, tIs (.int .i64 (((ts).length : Int)))), (11, tIs (.int .i64 (k : Int)))] []
  obtain ⟨hk, he⟩ := hinv
  have hkk := keepT_len (ts.take k)
  rw [List.length_take] at hkk
  refine (JC.g (J.o (Y6 (.t rfl) (.t rfl)) rfl (J.e (JC.seq ?_))))
  refine JC.cond (.t rfl) (fun hc8 => ?_) (fun hc8 => ?_)
  ·try simp only [bsx] at hc8
   have hs12 := hc8
   refine JC.skip (JQ.then_normal (JC.seq (JC.block (JC.g ?_))))
   refine J.o (ixo (z := atT ts k) (.t rfl) (.t rfl) R3 (by omega) (atT_at (by omega) (by omega))) rfl (J.o (lda (.t rfl) ag97 V0) rfl ?_)
   refine J.alloc (R := cTs [tIs (.bool false), tSl X8 ([]), tIs (.int .i64 0), tIs (.int .i64 0), tIs (.int .i64 0), tIs (.int .i64 0)]) zr97 (fun _ => ⟨rfl, rfl, Q9 _ _, rfl, rfl, rfl, rfl, rfl, rfl, rfl, rfl, rfl, trivial⟩) (ltN rfl) fun b5 => ?_
   refine J.store (.t rfl) (.eq (.t rfl) (K2 (Ts := [tIs (.bool ((atT ts k).coef.neg)), tSl X8 ((atT ts k).coef.abs), tIs (.int .i64 (((atT ts k).exp).a)), tIs (.int .i64 (((atT ts k).exp).b)), tIs (.int .i64 (((atT ts k).exp).c)), tIs (.int .i64 (((atT ts k).exp).d))]) rfl)) .here sz97 (Z4 (Ts' := [tIs (.bool ((atT ts k).coef.neg)), tSl X8 ((atT ts k).coef.abs), tIs (.int .i64 (((atT ts k).exp).a)), tIs (.int .i64 (((atT ts k).exp).b)), tIs (.int .i64 (((atT ts k).exp).c)), tIs (.int .i64 (((atT ts k).exp).d))]) (o := 0) rfl) (J.e (JC.seq ?_))
   refine JC.weak (sub_freezeP (R' := cEnc X5 (atT ts k)) [5] ⟨rfl, trivial⟩ .here (cTs_F (f := tmT) (x := atT ts k) rfl rfl)) (JC.region (J.o (ofp (R' := cDrop (cEnc X5 (atT ts k)) 2) (.t rfl) fd97_1 (fun _ _ h => cDrop_mk h)) rfl ?_))
   refine J.o (ot_sliceA (.t rfl) ar4_95 tm_exp) rfl ?_
   refine J.o (oc fn109 (min_c ((atT ts k).exp.list) (by simp [Mo.list])) (.cons (.t rfl) .nil)) rfl (J.o (ot_geq (.t rfl) .is) rfl (J.e ?_))
   refine JC.cond (.t rfl) (fun hc9 => ?_) (fun hc9 => ?_)
   ·try simp only [bsx] at hc9
    have hs18 := hc9
    refine JC.region (J.M rfl rfl (J.o (lda (.t rfl) ag97 V0) rfl ?_))
    refine J.o (K6 (E := X5) (zs := [atT ts k]) R3 (.cons (.t rfl) .nil) rfl zr97 rfl (by decide) (by decide)) rfl ?_
    refine J.append0 (E := X5) (ys := [atT ts k]) (.sub (.t rfl) nil_z) (.t rfl) (by simp) R3 rfl zr97 rfl (by simp <;> omega) (by simp <;> omega) (ltN rfl) fun b22 c22 => (J.A rfl rfl (J.nil (JQ.block_normal (JQ.then_normal (JC.region ?_)))))
    refine J.o (Z6 (.t rfl) .is (w64 (by omega) (by omega))) rfl (J.M rfl rfl (J.nil ?_))
    have hyes := keepT_yes (show k < ts.length by omega) (okT_iff.2 hs18)
    rw [he rfl, List.nil_append] at hyes
    exact JQ.round4 (i := true) (i2 := k) (i3 := b) (i4 := c) false (k + 1) b22 c22 ⟨by omega, fun h => by cases h⟩ (by omega) (Q8 (X3 (.keep (K8 hyes) .nil)) (Z3 ⟨.t rfl, .eq (.t rfl) (by rw [hyes]), .t rfl, .t rfl, .eq (.t rfl) (by first | rfl | (congr 3; omega) | (congr 2; omega)), trivial⟩))
   ·try simp only [bsx] at hc9
    have hs18 := hc9
    refine JC.skip (JQ.block_normal (JQ.then_normal (JC.region ?_)))
    refine J.o (Z6 (.t rfl) .is (w64 (by omega) (by omega))) rfl (J.M rfl rfl (J.nil ?_))
    have hno := keepT_no (show k < ts.length by omega) (fun h => hs18 (okT_iff.1 h))
    exact JQ.round4 (i := true) (i2 := k) (i3 := b) (i4 := c) true (k + 1) 0 0 ⟨by omega, fun _ => hno ▸ he rfl⟩ (by omega) (Q8 (X3 .nil) (Z3 ⟨.t rfl, .t rfl, .t rfl, .t rfl, .eq (.t rfl) (by first | rfl | (congr 3; omega) | (congr 2; omega)), trivial⟩))
  ·try simp only [bsx] at hc8
   have hs12 := hc8
   have hkt : Q7 (ts.take k) = Q7 ts := by rw [List.take_of_length_le (by omega)]
   refine JC.exit (JQ.then_exit (JQ.then_exit (JQ.block_exit (JQ.then_normal (JC.g (J.M rfl rfl ?_))))))
   refine J.o (oc fn110 (sort0_c  ) (.cons (.t rfl) (.cons (.func (fun _ => rfl)) .nil))) rfl (J.e (JC.g ?_))
   refine J.a .is rfl (J.e (JC.seq (JC.g ?_)))
   refine J.a .is rfl (J.e (JC.block ?_))
   refine JC.loop (ι := Nat) (fun i => [(2, tSl X5 ([])), (3, tIs (.slice none 0 0)), (6, tIs (.slice none 0 0)), (7, tIs (.int .i64 0))]) (fun i => []) (fun i => i = 0) (fun i => i) 0 (by omega) ?lsub4 ?round4
   case lsub4 => exact Q8 (X3 .nil) (Z3 ⟨.t rfl, .t rfl, .t rfl, .t rfl, trivial⟩)
   intro i hinv
   refine JC.seq (JC.g (J.M rfl rfl (J.M rfl rfl ?_)))
   refine J.o (ot_len_nil (.t rfl) R3 rfl) rfl (J.o (Y6 (.t rfl) (.t rfl)) rfl (J.e ?_))
   refine JC.cond_false (.eq (.t rfl) (by rfl)) ?_
   refine JC.exit (JQ.then_exit (JQ.then_exit (JQ.block_exit (JQ.then_normal (JC.g (J.M rfl rfl ?_))))))
   refine J.o (oc fn113 (clip_c ([]) (by simp)) (.cons (.sub (.t rfl) nil_sl) .nil)) rfl (J.A rfl rfl (J.e (JC.ret ?_)))
   exact JQ.ret1 rfl (.tmp (.eq (.t rfl) (by rw [← normS_st, ← hkt, he rfl]; exact congrArg _ mergeT_nil.symm)))

theorem normOG_c {B : Nat} (ts : List Tm) (hl : ts.length ≤ 4294967295) (hd : ∀ t ∈ ts, U7 t.coef.abs) (hz : ∀ t ∈ ts, t.coef.abs.length ≤ B) (hb : B ≤ 1000000000000) (hne : Q4 ts ≠ []) : CtrO Try.prog 93 [tSl X5 ts] 97 ((Q4 ts).length) ((Q4 ts).length) (fun cap => Y5 X5 (Q4 ts) cap) := by
 have hkl := keepT_len ts
 have hsl := stT_len (Q7 ts)
 have hm : ∀ t ∈ stT (Q7 ts), t ∈ ts := fun t h => (List.mem_filter.1 (stT_mem t h)).1
 refine CtrO.of Try.func93 rfl Try.ntmps93 (Nat.le_of_ble_eq_true rfl) fun w0 M0 => (JC.g ?_)
 refine J.o (Y2 (.nil (E := X5))) rfl (J.e (JC.g ?_))
 refine J.a .is rfl (J.e (JC.seq (JC.g (J.M rfl rfl (J.o (Y8 (.t rfl) R3 rfl) rfl ?_)))))
 refine J.m .is rfl (J.e (JC.block ?_))
 refine JC.loop4 (α := Bool) (β := Nat) (γ := Nat) (δ := Nat) (fun e k b c => bif e then [(2, tSl X5 ([])), (3, tIs (.slice none 0 0)), (9, tSl X5 ts), (10, tIs (.int .i64 (((ts).length : Int)))), (11, tIs (.int .i64 (k : Int)))] else [(2, tSl X5 ([])), (3, sIs b 0 ((Q7 (ts.take k)).length) c), (9, tSl X5 ts), (10, tIs (.int .i64 (((ts).length : Int)))), (11, tIs (.int .i64 (k : Int)))]) (fun e k b c => bif e then [] else [⟨b, 97, Y5 X5 (Q7 (ts.take k)) c⟩]) (fun e k b c => k ≤ ts.length ∧ (e = true → Q7 (ts.take k) = [])) (fun e k b c => ts.length - k) true 0 0 0 ⟨by omega, fun _ => rfl⟩ ?lsub0 ?round0
 case lsub0 => exact Q8 (X3 .nil) (Z3 ⟨.t rfl, .t rfl, .t rfl, .t rfl, .eq (.t rfl) (by first | rfl | (congr 3; omega) | (congr 2; omega)), trivial⟩)
 intro e k b c hinv
 rcases e with _ | _
 ·change JC _ _ _ [(2, tSl X5 ([])), (3, sIs b 0 ((Q7 (ts.take k)).length) c), (9, tSl X5 ts), (10, tIs (.int .i64 (((ts).length : Int)))), (11, tIs (.int .i64 (k : Int)))] [⟨b, 97, Y5 X5 (Q7 (ts.take k)) c⟩]
  obtain ⟨hk, he⟩ := hinv
  have hkk := keepT_len (ts.take k)
  rw [List.length_take] at hkk
  refine (JC.g (J.o (Y6 (.t rfl) (.t rfl)) rfl (J.e (JC.seq ?_))))
  refine JC.cond (.t rfl) (fun hc0 => ?_) (fun hc0 => ?_)
  ·try simp only [bsx] at hc0
   have hs12 := hc0
   refine JC.skip (JQ.then_normal (JC.seq (JC.block (JC.g ?_))))
   refine J.o (ixo (z := atT ts k) (.t rfl) (.t rfl) R3 (by omega) (atT_at (by omega) (by omega))) rfl (J.o (lda (.t rfl) ag97 V0) rfl ?_)
   refine J.alloc (R := cTs [tIs (.bool false), tSl X8 ([]), tIs (.int .i64 0), tIs (.int .i64 0), tIs (.int .i64 0), tIs (.int .i64 0)]) zr97 (fun _ => ⟨rfl, rfl, Q9 _ _, rfl, rfl, rfl, rfl, rfl, rfl, rfl, rfl, rfl, trivial⟩) (ltN rfl) fun b5 => ?_
   refine J.store (.t rfl) (.eq (.t rfl) (K2 (Ts := [tIs (.bool ((atT ts k).coef.neg)), tSl X8 ((atT ts k).coef.abs), tIs (.int .i64 (((atT ts k).exp).a)), tIs (.int .i64 (((atT ts k).exp).b)), tIs (.int .i64 (((atT ts k).exp).c)), tIs (.int .i64 (((atT ts k).exp).d))]) rfl)) .here sz97 (Z4 (Ts' := [tIs (.bool ((atT ts k).coef.neg)), tSl X8 ((atT ts k).coef.abs), tIs (.int .i64 (((atT ts k).exp).a)), tIs (.int .i64 (((atT ts k).exp).b)), tIs (.int .i64 (((atT ts k).exp).c)), tIs (.int .i64 (((atT ts k).exp).d))]) (o := 0) rfl) (J.e (JC.seq ?_))
   refine JC.weak (sub_freezeP (R' := cEnc X5 (atT ts k)) [5] ⟨rfl, trivial⟩ .here (cTs_F (f := tmT) (x := atT ts k) rfl rfl)) (JC.region (J.o (ofp (R' := cDrop (cEnc X5 (atT ts k)) 2) (.t rfl) fd97_1 (fun _ _ h => cDrop_mk h)) rfl ?_))
   refine J.o (ot_sliceA (.t rfl) ar4_95 tm_exp) rfl ?_
   refine J.o (oc fn109 (min_c ((atT ts k).exp.list) (by simp [Mo.list])) (.cons (.t rfl) .nil)) rfl (J.o (ot_geq (.t rfl) .is) rfl (J.e ?_))
   refine JC.cond (.t rfl) (fun hc1 => ?_) (fun hc1 => ?_)
   ·try simp only [bsx] at hc1
    have hs18 := hc1
    refine JC.region (J.M rfl rfl (J.o (lda (.t rfl) ag97 V0) rfl ?_))
    refine J.o (K6 (E := X5) (zs := [atT ts k]) R3 (.cons (.t rfl) .nil) rfl zr97 rfl (by decide) (by decide)) rfl ?_
    refine J.append (E := X5) (xs := Q7 (ts.take k)) (ys := [atT ts k]) (.t rfl) rfl (.t rfl) R3 rfl zr97 rfl .here (by simp <;> omega) (by simp <;> omega) (ltN rfl) fun b22 c22 => (J.A rfl rfl (J.nil (JQ.block_normal (JQ.then_normal (JC.region ?_)))))
    refine J.o (Z6 (.t rfl) .is (w64 (by omega) (by omega))) rfl (J.M rfl rfl (J.nil ?_))
    have hyes := keepT_yes (show k < ts.length by omega) (okT_iff.2 hs18)
    exact JQ.round4 (i := false) (i2 := k) (i3 := b) (i4 := c) false (k + 1) b22 c22 ⟨by omega, fun h => by cases h⟩ (by omega) (Q8 (X3 (.keep (K8 hyes) .nil)) (Z3 ⟨.t rfl, .eq (.t rfl) (by rw [hyes]), .t rfl, .t rfl, .eq (.t rfl) (by first | rfl | (congr 3; omega) | (congr 2; omega)), trivial⟩))
   ·try simp only [bsx] at hc1
    have hs18 := hc1
    refine JC.skip (JQ.block_normal (JQ.then_normal (JC.region ?_)))
    refine J.o (Z6 (.t rfl) .is (w64 (by omega) (by omega))) rfl (J.M rfl rfl (J.nil ?_))
    have hno := keepT_no (show k < ts.length by omega) (fun h => hs18 (okT_iff.1 h))
    exact JQ.round4 (i := false) (i2 := k) (i3 := b) (i4 := c) false (k + 1) b c ⟨by omega, fun h => by cases h⟩ (by omega) (Q8 (X3 (.keep (K8 hno) .nil)) (Z3 ⟨.t rfl, .eq (.t rfl) (by rw [hno]), .t rfl, .t rfl, .eq (.t rfl) (by first | rfl | (congr 3; omega) | (congr 2; omega)), trivial⟩))
  ·try simp only [bsx] at hc0
   have hs12 := hc0
   have hkt : Q7 (ts.take k) = Q7 ts := by rw [List.take_of_length_le (by omega)]
   refine JC.exit (JQ.then_exit (JQ.then_exit (JQ.block_exit (JQ.then_normal (JC.g (J.M rfl rfl ?_))))))
   refine J.callL (R' := Y5 X5 (stT (Q7 (ts.take k))) c) (Us := []) (cap := []) fn110 (.func (fun _ => rfl)) (sortG_c b c (Q7 (ts.take k)) (by omega)) (.cons (.t rfl) (.cons (.func (fun _ => rfl)) .nil)) (fun _ => trivial) .here (ltN rfl) (J.e (JC.seq ?_))
   refine JC.weak (U9 (E := X5) (xs := stT (Q7 (ts.take k))) (n := (Q7 (ts.take k)).length) (c := c) [24, 3] ⟨rfl, rfl, trivial⟩ .here (by rw [stT_len]) (by omega)) (JC.region ?_)
   refine J.a .is rfl (J.e (JC.seq (JC.g ?_)))
   refine J.a .is rfl (J.e (JC.block ?_))
   refine JC.loop5 (α := Bool) (β := Nat) (γ := List Tm) (δ := Nat) (ε := Nat) (fun e i O b c => bif e then [(2, tSl X5 ([])), (3, tSl X5 ((stT (Q7 ts)))), (6, tIs (.slice none 0 0)), (7, tIs (.int .i64 (i : Int)))] else [(2, tSl X5 ([])), (3, tSl X5 ((stT (Q7 ts)))), (6, sIs b 0 (O.length) c), (7, tIs (.int .i64 (i : Int)))]) (fun e i O b c => bif e then [] else [⟨b, 97, Y5 X5 O c⟩]) (fun e i O b c => i ≤ (stT (Q7 ts)).length ∧ O ++ W0 ((stT (Q7 ts)).drop i) = W0 (stT (Q7 ts)) ∧ O.length ≤ i ∧ (e = true → O = [])) (fun e i O b c => (stT (Q7 ts)).length - i) true 0 ([]) 0 0 ⟨by omega, by simp, by simp, fun _ => rfl⟩ ?lsub1 ?round1
   case lsub1 => exact Q8 (X3 .nil) (Z3 ⟨.t rfl, .eq (.t rfl) (by rw [hkt]), .t rfl, .eq (.t rfl) (by first | rfl | (congr 3; omega) | (congr 2; omega)), trivial⟩)
   intro e i O b c hinv
   rcases e with _ | _
   ·change JC _ _ _ [(2, tSl X5 ([])), (3, tSl X5 ((stT (Q7 ts)))), (6, sIs b 0 (O.length) c), (7, tIs (.int .i64 (i : Int)))] [⟨b, 97, Y5 X5 O c⟩]
    obtain ⟨hi, hO, hOl, hOe⟩ := hinv
    refine JC.seq (JC.g (J.M rfl rfl (J.M rfl rfl (J.o (Y8 (.t rfl) R3 rfl) rfl (J.o (Y6 (.t rfl) (.t rfl)) rfl (J.e ?_))))))
    refine JC.cond (.t rfl) (fun hc2 => ?_) (fun hc2 => ?_)
    ·try simp only [bsx] at hc2
     have hs29 := hc2
     refine JC.skip (JQ.then_normal (JC.block (JC.g (J.M rfl rfl (J.M rfl rfl ?_)))))
     refine J.o (ixo (z := atT (stT (Q7 ts)) i) (.t rfl) (.t rfl) R3 (by omega) (atT_at (by omega) (by omega))) rfl (J.o (ofp (R' := cDrop (cEnc X5 (atT (stT (Q7 ts)) i)) 2) (.t rfl) fd97_1 (fun _ _ h => cDrop_mk h)) rfl (J.o (lda (.t rfl) ag95 (ldFV (g := moT) (y := (atT (stT (Q7 ts)) i).exp) rfl rfl)) rfl ?_))
     refine J.o (X9 (T' := tV X5 (Tm.mk (Z.mk false ([])) ((atT (stT (Q7 ts)) i).exp))) (V7 (Ts := [tIs (.bool false), tSl X8 ([]), tIs (.int .i64 0), tIs (.int .i64 0), tIs (.int .i64 0), tIs (.int .i64 0)]) pl97 (fun _ => ⟨rfl, rfl, Q9 _ _, rfl, rfl, rfl, rfl, rfl, rfl, rfl, rfl, rfl, trivial⟩) ((.agg (off := 2) rfl (.eq (.t rfl) (K2 (Ts := [tIs (.int .i64 (((atT (stT (Q7 ts)) i).exp).a)), tIs (.int .i64 (((atT (stT (Q7 ts)) i).exp).b)), tIs (.int .i64 (((atT (stT (Q7 ts)) i).exp).c)), tIs (.int .i64 (((atT (stT (Q7 ts)) i).exp).d))]) rfl)) (Ts' := [tIs (.bool false), tSl X8 ([]), tIs (.int .i64 (((atT (stT (Q7 ts)) i).exp).a)), tIs (.int .i64 (((atT (stT (Q7 ts)) i).exp).b)), tIs (.int .i64 (((atT (stT (Q7 ts)) i).exp).c)), tIs (.int .i64 (((atT (stT (Q7 ts)) i).exp).d))]) rfl rfl .nil)) rfl) (tV_F' rfl)) rfl ?_
     refine J.alloc (R := cTs [tIs (.bool false), tSl X8 ([]), tIs (.int .i64 0), tIs (.int .i64 0), tIs (.int .i64 0), tIs (.int .i64 0)]) zr97 (fun _ => ⟨rfl, rfl, Q9 _ _, rfl, rfl, rfl, rfl, rfl, rfl, rfl, rfl, rfl, trivial⟩) (ltN rfl) fun b8 => ?_
     refine J.store (.t rfl) (.eq (.t rfl) (K2 (Ts := [tIs (.bool false), tSl X8 ([]), tIs (.int .i64 (((atT (stT (Q7 ts)) i).exp).a)), tIs (.int .i64 (((atT (stT (Q7 ts)) i).exp).b)), tIs (.int .i64 (((atT (stT (Q7 ts)) i).exp).c)), tIs (.int .i64 (((atT (stT (Q7 ts)) i).exp).d))]) rfl)) .here sz97 (Z4 (Ts' := [tIs (.bool false), tSl X8 ([]), tIs (.int .i64 (((atT (stT (Q7 ts)) i).exp).a)), tIs (.int .i64 (((atT (stT (Q7 ts)) i).exp).b)), tIs (.int .i64 (((atT (stT (Q7 ts)) i).exp).c)), tIs (.int .i64 (((atT (stT (Q7 ts)) i).exp).d))]) (o := 0) rfl) (J.e (JC.seq (JC.block ?_)))
     refine JC.loop2 (α := Nat) (β := Int) (fun j q => [(2, tSl X5 ([])), (3, tSl X5 ((stT (Q7 ts)))), (6, sIs b 0 (O.length) c), (7, tIs (.int .i64 (j : Int))), (8, X7 b8 0), (26, tIs (.int .i64 (i : Int))), (27, tSl X5 ((stT (Q7 ts)))), (28, tIs (.int .i64 ((((stT (Q7 ts))).length : Int)))), (29, tIs (.bool (decide ((i : Int) < (((stT (Q7 ts))).length : Int))))), (30, tSl X5 ((stT (Q7 ts)))), (31, tIs (.int .i64 (i : Int))), (32, tPtr (cEnc X5 (atT (stT (Q7 ts)) i))), (33, tPtr (cDrop (cEnc X5 (atT (stT (Q7 ts)) i)) 2)), (34, tV encMo ((atT (stT (Q7 ts)) i).exp)), (35, tV X5 (Tm.mk (Z.mk false ([])) ((atT (stT (Q7 ts)) i).exp)))]) (fun j q => [⟨b8, 97, cTs [tIs (.bool ((ofI q).neg)), tSl X8 ((ofI q).abs), tIs (.int .i64 (((atT (stT (Q7 ts)) i).exp).a)), tIs (.int .i64 (((atT (stT (Q7 ts)) i).exp).b)), tIs (.int .i64 (((atT (stT (Q7 ts)) i).exp).c)), tIs (.int .i64 (((atT (stT (Q7 ts)) i).exp).d))]⟩, ⟨b, 97, Y5 X5 O c⟩]) (fun j q => i ≤ j ∧ j ≤ (stT (Q7 ts)).length ∧ U8 (atT (stT (Q7 ts)) i).exp q ((stT (Q7 ts)).drop j) = U8 (atT (stT (Q7 ts)) i).exp 0 ((stT (Q7 ts)).drop i) ∧ q.natAbs ≤ j * B32 ^ B) (fun j q => (stT (Q7 ts)).length - j) i 0 ⟨by omega, by omega, rfl, by simp⟩ ?lsub2 ?round2
     case lsub2 => exact Q8 (X3 (.keep (fun _ _ h => by rw [ofI_zero]; exact h) (.k .nil))) (Z3 ⟨.t rfl, .t rfl, .t rfl, .t rfl, .t rfl, .t rfl, .t rfl, .t rfl, .t rfl, .t rfl, .t rfl, .t rfl, .t rfl, .t rfl, .t rfl, trivial⟩)
     intro j q hinv
     obtain ⟨hij, hjl, hrun, hq⟩ := hinv
     have hqf := sum_fit hq (by omega)
     have hqf2 : (ofI q).abs.length ≤ B + 1 := hqf
     refine JC.seq (JC.seq ?_)
     refine JC.draw (Γ' := ?g1) mo (by kernel_rfl) ?tw1 ?k1
     case tw1 =>
      refine TW.M rfl rfl (TW.M rfl rfl (TW.o (Y8 (.t rfl) R3 rfl) rfl (TW.o (Y6 (.t rfl) (.t rfl)) rfl (TW.M rfl rfl ?_))))
      refine TW.opg rfl rfl rfl (ltN rfl) (fun hg => Y0 (.t rfl)) rfl (ltN rfl) ?_
      refine TW.opg rfl rfl rfl (ltN rfl) (fun hg => Y0 (.t rfl)) rfl (ltN rfl) ?_
      refine TW.opg rfl rfl rfl (ltN rfl) (fun hg => (by have hg' := hg; (try simp only [bsx] at hg'); exact ixo (z := atT (stT (Q7 ts)) j) (.iff hg (.t rfl)) (.iff hg (.t rfl)) R3 (by omega) (atT_at (by omega) (by omega)))) rfl (ltN rfl) ?_
      refine TW.opg rfl rfl rfl (ltN rfl) (fun hg => ofp (R' := cDrop (cEnc X5 (atT (stT (Q7 ts)) j)) 2) (.iff hg (.t rfl)) fd97_1 (fun _ _ h => cDrop_mk h)) rfl (ltN rfl) ?_
      refine TW.opg rfl rfl rfl (ltN rfl) (fun hg => lda (.iff hg (.t rfl)) ag95 (ldFV (g := moT) (y := (atT (stT (Q7 ts)) j).exp) rfl rfl)) rfl (ltN rfl) ?_
      refine TW.opg rfl rfl rfl (ltN rfl) (fun hg => ofa (.t rfl) fd97_1) rfl (ltN rfl) ?_
      refine TW.opg rfl rfl rfl (ltN rfl) (fun hg => oa (.iff hg (.t rfl)) (.head _) ag95 (Q6 (g := moT) (y := ((atT (stT (Q7 ts)) i).exp)) rfl rfl)) rfl (ltN rfl) ?_
      refine TW.opg rfl rfl rfl (ltN rfl) (fun hg => ot_eqA (.iff hg (.t rfl)) (.iff hg (.t rfl)) ar4_95) rfl (ltN rfl) ?_
      refine TW.o (R4 (.t rfl) (.t rfl) .is) rfl ?_
      exact TW.nil
     refine JQ.then_normal ?_
     refine JC.cond (.t rfl) (fun hc3 => ?_) (fun hc3 => ?_)
     ·try simp only [bsx] at hc3
      have hs49 := hc3
      have hmj : atT (stT (Q7 ts)) j ∈ ts := hm _ (atT_mem (by omega))
      have hzj := hz _ hmj
      refine JC.skip (JQ.then_normal (JC.block (JC.seq ?_)))
      refine JC.drawAt (Γ' := ?g2) 9 mo (by kernel_rfl) ?tw2 ?k2
      case tw2 =>
       refine TW.o (ofa (.t rfl) fd97_0) rfl (TW.o (oa (.t rfl) (.head _) ag25 (Q6 (g := zT) (y := (ofI q)) rfl rfl)) rfl (TW.M rfl rfl (TW.M rfl rfl ?_)))
       refine TW.o (ixo (z := atT (stT (Q7 ts)) j) (.t rfl) (.t rfl) R3 (by omega) (atT_at (by omega) (by omega))) rfl (TW.o (ofp (.t rfl) fd97_0 (fun _ _ h => h)) rfl (TW.o (lda (.t rfl) ag25 (ldFV0 (g := zT) (y := (atT (stT (Q7 ts)) j).coef) rfl rfl)) rfl ?_))
       refine TW.o (X9 (T' := tV R9 (ofI (q + X4 (atT (stT (Q7 ts)) j).coef))) (oc fn96 (intAdd_c (ofI q) ((atT (stT (Q7 ts)) j).coef) (by omega) (by omega)) (.cons (.t rfl) (.cons (.t rfl) .nil))) (by rw [Y9])) rfl (TW.o (ofa (.t rfl) fd97_0) rfl ?_)
       exact TW.nil
      refine J.store (.t rfl) (.eq (.t rfl) (K2 (Ts := (iT (ofI (q + X4 (atT (stT (Q7 ts)) j).coef)))) rfl)) .here sz25 (Z4 (Ts' := [tIs (.bool ((ofI (q + X4 (atT (stT (Q7 ts)) j).coef)).neg)), tSl X8 ((ofI (q + X4 (atT (stT (Q7 ts)) j).coef)).abs), tIs (.int .i64 (((atT (stT (Q7 ts)) i).exp).a)), tIs (.int .i64 (((atT (stT (Q7 ts)) i).exp).b)), tIs (.int .i64 (((atT (stT (Q7 ts)) i).exp).c)), tIs (.int .i64 (((atT (stT (Q7 ts)) i).exp).d))]) (o := 0) rfl) (J.e (JC.region (J.M rfl rfl ?_)))
      refine J.o (Z6 (.t rfl) .is (w64 (by omega) (by omega))) rfl (J.A rfl rfl (J.nil (JQ.block_normal ?_)))
      exact JQ.round2 (i := j) (i2 := q) (j + 1) (q + X4 (atT (stT (Q7 ts)) j).coef) ⟨by omega, by omega, by rw [← hrun]; exact sumRun_step (by omega) hs49.2, sum_next hq (hd _ hmj) (hz _ hmj)⟩ (by omega) (Q8 (X3 (.k (.k .nil))) (Z3 ⟨.t rfl, .t rfl, .t rfl, .eq (.t rfl) (by first | rfl | (congr 3; omega) | (congr 2; omega)), .t rfl, .t rfl, .t rfl, .t rfl, .t rfl, .t rfl, .t rfl, .t rfl, .t rfl, .t rfl, .t rfl, trivial⟩))
     ·try simp only [bsx] at hc3
      have hs49 := hc3
      have hst := sumRun_stop (c := q) (show ¬ j < (stT (Q7 ts)).length ∨ ¬ (atT (stT (Q7 ts)) j).exp = (atT (stT (Q7 ts)) i).exp from hs49.imp (fun h => by omega) id)
      rw [hrun] at hst
      have hlt : i < j := by rcases Nat.lt_or_eq_of_le hij with h | h; exact h; subst h; rcases hs49 with q | q; omega; exact absurd rfl q
      refine JC.exit (JQ.then_exit (JQ.then_exit (JQ.block_exit (JQ.then_normal (JC.g (J.o (ofa (.t rfl) fd97_0) rfl (J.o (oa (.t rfl) (.head _) ag25 (Q6 (g := zT) (y := (ofI q)) rfl rfl)) rfl ?_)))))))
      refine J.o (X9 (T' := tIs (.int .i64 (sgn q))) (oc fn35 (intSign_c (ofI q) (by omega)) (.cons (.t rfl) .nil)) (by rw [Y9])) rfl (J.o (ot_neq (.t rfl) .is) rfl (J.e ?_))
      refine JC.cond (.t rfl) (fun hc4 => ?_) (fun hc4 => ?_)
      ·try simp only [bsx] at hc4
       have hs64 := hc4
       refine JC.region (J.M rfl rfl (J.o (oa (.t rfl) (.head _) ag97 (Q6 (g := tmT) (y := (Tm.mk (ofI q) ((atT (stT (Q7 ts)) i).exp))) rfl rfl)) rfl ?_))
       refine J.o (K6 (E := X5) (zs := [Tm.mk (ofI q) ((atT (stT (Q7 ts)) i).exp)]) R3 (.cons (.t rfl) .nil) rfl zr97 rfl (by decide) (by decide)) rfl ?_
       refine J.append (E := X5) (xs := O) (ys := [Tm.mk (ofI q) ((atT (stT (Q7 ts)) i).exp)]) (.t rfl) rfl (.t rfl) R3 rfl zr97 rfl (.there .here) (by simp <;> omega) (by simp <;> omega) (ltN rfl) fun b68 c68 => (J.A rfl rfl (J.nil (JQ.block_normal ?_)))
       have hq0 : ¬ q = 0 := fun h => hs64 (by rw [h]; rfl)
       exact JQ.round5 (i := false) (i2 := i) (i3 := O) (i4 := b) (i5 := c) false j (O ++ [Tm.mk (ofI q) ((atT (stT (Q7 ts)) i).exp)]) b68 c68 ⟨hjl, merge_yes (by omega) hO hst hq0, by simp; omega, fun h => by cases h⟩ (by omega) (Q8 (X3 (.keep (fun _ _ h => by first | exact h | simpa using h) (.drop .nil))) (Z3 ⟨.t rfl, .t rfl, .eq (.t rfl) (by first | rfl | (congr 3; omega) | (congr 2; omega)), .t rfl, trivial⟩))
      ·try simp only [bsx] at hc4
       have hs64 := hc4
       refine JC.skip (JQ.block_normal ?_)
       have hq0 : q = 0 := by rcases N0 q with h | h | h <;> omega
       exact JQ.round5 (i := false) (i2 := i) (i3 := O) (i4 := b) (i5 := c) false j O b c ⟨hjl, merge_no (by omega) hO hst hq0, by omega, fun h => by cases h⟩ (by omega) (Q8 (X3 (.drop (.k .nil))) (Z3 ⟨.t rfl, .t rfl, .t rfl, .t rfl, trivial⟩))
    ·try simp only [bsx] at hc2
     have hs29 := hc2
     refine JC.exit (JQ.then_exit (JQ.then_exit (JQ.block_exit (JQ.then_normal (JC.seq ?_)))))
     refine JC.rowcap (.head _) fun hcap => (JC.region (J.M rfl rfl ?_))
     refine J.o (oc fn113 (clipO_c b O.length c hcap) (.cons (.t rfl) .nil)) rfl (J.A rfl rfl (J.e (JC.ret ?_)))
     exact JQ.retO (b := b) (cap := c) (n := (Q4 ts).length) (cp := (Q4 ts).length) (R := fun cap => Y5 X5 (Q4 ts) cap) rfl ((show O = Q4 ts from (merge_end (by omega) hO mergeT_nil).trans (normS_st ts)) ▸ .head _) (.eq (.t rfl) (by rw [show O = Q4 ts from (merge_end (by omega) hO mergeT_nil).trans (normS_st ts)]))
   ·change JC _ _ _ [(2, tSl X5 ([])), (3, tSl X5 ((stT (Q7 ts)))), (6, tIs (.slice none 0 0)), (7, tIs (.int .i64 (i : Int)))] []
    obtain ⟨hi, hO, hOl, hOe⟩ := hinv
    refine JC.seq (JC.g (J.M rfl rfl (J.M rfl rfl (J.o (Y8 (.t rfl) R3 rfl) rfl (J.o (Y6 (.t rfl) (.t rfl)) rfl (J.e ?_))))))
    refine JC.cond (.t rfl) (fun hc5 => ?_) (fun hc5 => ?_)
    ·try simp only [bsx] at hc5
     have hs29 := hc5
     refine JC.skip (JQ.then_normal (JC.block (JC.g (J.M rfl rfl (J.M rfl rfl ?_)))))
     refine J.o (ixo (z := atT (stT (Q7 ts)) i) (.t rfl) (.t rfl) R3 (by omega) (atT_at (by omega) (by omega))) rfl (J.o (ofp (R' := cDrop (cEnc X5 (atT (stT (Q7 ts)) i)) 2) (.t rfl) fd97_1 (fun _ _ h => cDrop_mk h)) rfl (J.o (lda (.t rfl) ag95 (ldFV (g := moT) (y := (atT (stT (Q7 ts)) i).exp) rfl rfl)) rfl ?_))
     refine J.o (X9 (T' := tV X5 (Tm.mk (Z.mk false ([])) ((atT (stT (Q7 ts)) i).exp))) (V7 (Ts := [tIs (.bool false), tSl X8 ([]), tIs (.int .i64 0), tIs (.int .i64 0), tIs (.int .i64 0), tIs (.int .i64 0)]) pl97 (fun _ => ⟨rfl, rfl, Q9 _ _, rfl, rfl, rfl, rfl, rfl, rfl, rfl, rfl, rfl, trivial⟩) ((.agg (off := 2) rfl (.eq (.t rfl) (K2 (Ts := [tIs (.int .i64 (((atT (stT (Q7 ts)) i).exp).a)), tIs (.int .i64 (((atT (stT (Q7 ts)) i).exp).b)), tIs (.int .i64 (((atT (stT (Q7 ts)) i).exp).c)), tIs (.int .i64 (((atT (stT (Q7 ts)) i).exp).d))]) rfl)) (Ts' := [tIs (.bool false), tSl X8 ([]), tIs (.int .i64 (((atT (stT (Q7 ts)) i).exp).a)), tIs (.int .i64 (((atT (stT (Q7 ts)) i).exp).b)), tIs (.int .i64 (((atT (stT (Q7 ts)) i).exp).c)), tIs (.int .i64 (((atT (stT (Q7 ts)) i).exp).d))]) rfl rfl .nil)) rfl) (tV_F' rfl)) rfl ?_
     refine J.alloc (R := cTs [tIs (.bool false), tSl X8 ([]), tIs (.int .i64 0), tIs (.int .i64 0), tIs (.int .i64 0), tIs (.int .i64 0)]) zr97 (fun _ => ⟨rfl, rfl, Q9 _ _, rfl, rfl, rfl, rfl, rfl, rfl, rfl, rfl, rfl, trivial⟩) (ltN rfl) fun b8 => ?_
     refine J.store (.t rfl) (.eq (.t rfl) (K2 (Ts := [tIs (.bool false), tSl X8 ([]), tIs (.int .i64 (((atT (stT (Q7 ts)) i).exp).a)), tIs (.int .i64 (((atT (stT (Q7 ts)) i).exp).b)), tIs (.int .i64 (((atT (stT (Q7 ts)) i).exp).c)), tIs (.int .i64 (((atT (stT (Q7 ts)) i).exp).d))]) rfl)) .here sz97 (Z4 (Ts' := [tIs (.bool false), tSl X8 ([]), tIs (.int .i64 (((atT (stT (Q7 ts)) i).exp).a)), tIs (.int .i64 (((atT (stT (Q7 ts)) i).exp).b)), tIs (.int .i64 (((atT (stT (Q7 ts)) i).exp).c)), tIs (.int .i64 (((atT (stT (Q7 ts)) i).exp).d))]) (o := 0) rfl) (J.e (JC.seq (JC.block ?_)))
     refine JC.loop2 (α := Nat) (β := Int) (fun j q => [(2, tSl X5 ([])), (3, tSl X5 ((stT (Q7 ts)))), (6, tIs (.slice none 0 0)), (7, tIs (.int .i64 (j : Int))), (8, X7 b8 0), (26, tIs (.int .i64 (i : Int))), (27, tSl X5 ((stT (Q7 ts)))), (28, tIs (.int .i64 ((((stT (Q7 ts))).length : Int)))), (29, tIs (.bool (decide ((i : Int) < (((stT (Q7 ts))).length : Int))))), (30, tSl X5 ((stT (Q7 ts)))), (31, tIs (.int .i64 (i : Int))), (32, tPtr (cEnc X5 (atT (stT (Q7 ts)) i))), (33, tPtr (cDrop (cEnc X5 (atT (stT (Q7 ts)) i)) 2)), (34, tV encMo ((atT (stT (Q7 ts)) i).exp)), (35, tV X5 (Tm.mk (Z.mk false ([])) ((atT (stT (Q7 ts)) i).exp)))]) (fun j q => [⟨b8, 97, cTs [tIs (.bool ((ofI q).neg)), tSl X8 ((ofI q).abs), tIs (.int .i64 (((atT (stT (Q7 ts)) i).exp).a)), tIs (.int .i64 (((atT (stT (Q7 ts)) i).exp).b)), tIs (.int .i64 (((atT (stT (Q7 ts)) i).exp).c)), tIs (.int .i64 (((atT (stT (Q7 ts)) i).exp).d))]⟩]) (fun j q => i ≤ j ∧ j ≤ (stT (Q7 ts)).length ∧ U8 (atT (stT (Q7 ts)) i).exp q ((stT (Q7 ts)).drop j) = U8 (atT (stT (Q7 ts)) i).exp 0 ((stT (Q7 ts)).drop i) ∧ q.natAbs ≤ j * B32 ^ B) (fun j q => (stT (Q7 ts)).length - j) i 0 ⟨by omega, by omega, rfl, by simp⟩ ?lsub3 ?round3
     case lsub3 => exact Q8 (X3 (.keep (fun _ _ h => by rw [ofI_zero]; exact h) .nil)) (Z3 ⟨.t rfl, .t rfl, .t rfl, .t rfl, .t rfl, .t rfl, .t rfl, .t rfl, .t rfl, .t rfl, .t rfl, .t rfl, .t rfl, .t rfl, .t rfl, trivial⟩)
     intro j q hinv
     obtain ⟨hij, hjl, hrun, hq⟩ := hinv
     have hqf := sum_fit hq (by omega)
     have hqf2 : (ofI q).abs.length ≤ B + 1 := hqf
     refine JC.seq (JC.seq ?_)
     refine JC.draw (Γ' := ?g3) mo (by kernel_rfl) ?tw3 ?k3
     case tw3 =>
      refine TW.M rfl rfl (TW.M rfl rfl (TW.o (Y8 (.t rfl) R3 rfl) rfl (TW.o (Y6 (.t rfl) (.t rfl)) rfl (TW.M rfl rfl ?_))))
      refine TW.opg rfl rfl rfl (ltN rfl) (fun hg => Y0 (.t rfl)) rfl (ltN rfl) ?_
      refine TW.opg rfl rfl rfl (ltN rfl) (fun hg => Y0 (.t rfl)) rfl (ltN rfl) ?_
      refine TW.opg rfl rfl rfl (ltN rfl) (fun hg => (by have hg' := hg; (try simp only [bsx] at hg'); exact ixo (z := atT (stT (Q7 ts)) j) (.iff hg (.t rfl)) (.iff hg (.t rfl)) R3 (by omega) (atT_at (by omega) (by omega)))) rfl (ltN rfl) ?_
      refine TW.opg rfl rfl rfl (ltN rfl) (fun hg => ofp (R' := cDrop (cEnc X5 (atT (stT (Q7 ts)) j)) 2) (.iff hg (.t rfl)) fd97_1 (fun _ _ h => cDrop_mk h)) rfl (ltN rfl) ?_
      refine TW.opg rfl rfl rfl (ltN rfl) (fun hg => lda (.iff hg (.t rfl)) ag95 (ldFV (g := moT) (y := (atT (stT (Q7 ts)) j).exp) rfl rfl)) rfl (ltN rfl) ?_
      refine TW.opg rfl rfl rfl (ltN rfl) (fun hg => ofa (.t rfl) fd97_1) rfl (ltN rfl) ?_
      refine TW.opg rfl rfl rfl (ltN rfl) (fun hg => oa (.iff hg (.t rfl)) (.head _) ag95 (Q6 (g := moT) (y := ((atT (stT (Q7 ts)) i).exp)) rfl rfl)) rfl (ltN rfl) ?_
      refine TW.opg rfl rfl rfl (ltN rfl) (fun hg => ot_eqA (.iff hg (.t rfl)) (.iff hg (.t rfl)) ar4_95) rfl (ltN rfl) ?_
      refine TW.o (R4 (.t rfl) (.t rfl) .is) rfl ?_
      exact TW.nil
     refine JQ.then_normal ?_
     refine JC.cond (.t rfl) (fun hc6 => ?_) (fun hc6 => ?_)
     ·try simp only [bsx] at hc6
      have hs49 := hc6
      have hmj : atT (stT (Q7 ts)) j ∈ ts := hm _ (atT_mem (by omega))
      have hzj := hz _ hmj
      refine JC.skip (JQ.then_normal (JC.block (JC.seq ?_)))
      refine JC.drawAt (Γ' := ?g4) 9 mo (by kernel_rfl) ?tw4 ?k4
      case tw4 =>
       refine TW.o (ofa (.t rfl) fd97_0) rfl (TW.o (oa (.t rfl) (.head _) ag25 (Q6 (g := zT) (y := (ofI q)) rfl rfl)) rfl (TW.M rfl rfl (TW.M rfl rfl ?_)))
       refine TW.o (ixo (z := atT (stT (Q7 ts)) j) (.t rfl) (.t rfl) R3 (by omega) (atT_at (by omega) (by omega))) rfl (TW.o (ofp (.t rfl) fd97_0 (fun _ _ h => h)) rfl (TW.o (lda (.t rfl) ag25 (ldFV0 (g := zT) (y := (atT (stT (Q7 ts)) j).coef) rfl rfl)) rfl ?_))
       refine TW.o (X9 (T' := tV R9 (ofI (q + X4 (atT (stT (Q7 ts)) j).coef))) (oc fn96 (intAdd_c (ofI q) ((atT (stT (Q7 ts)) j).coef) (by omega) (by omega)) (.cons (.t rfl) (.cons (.t rfl) .nil))) (by rw [Y9])) rfl (TW.o (ofa (.t rfl) fd97_0) rfl ?_)
       exact TW.nil
      refine J.store (.t rfl) (.eq (.t rfl) (K2 (Ts := (iT (ofI (q + X4 (atT (stT (Q7 ts)) j).coef)))) rfl)) .here sz25 (Z4 (Ts' := [tIs (.bool ((ofI (q + X4 (atT (stT (Q7 ts)) j).coef)).neg)), tSl X8 ((ofI (q + X4 (atT (stT (Q7 ts)) j).coef)).abs), tIs (.int .i64 (((atT (stT (Q7 ts)) i).exp).a)), tIs (.int .i64 (((atT (stT (Q7 ts)) i).exp).b)), tIs (.int .i64 (((atT (stT (Q7 ts)) i).exp).c)), tIs (.int .i64 (((atT (stT (Q7 ts)) i).exp).d))]) (o := 0) rfl) (J.e (JC.region (J.M rfl rfl ?_)))
      refine J.o (Z6 (.t rfl) .is (w64 (by omega) (by omega))) rfl (J.A rfl rfl (J.nil (JQ.block_normal ?_)))
      exact JQ.round2 (i := j) (i2 := q) (j + 1) (q + X4 (atT (stT (Q7 ts)) j).coef) ⟨by omega, by omega, by rw [← hrun]; exact sumRun_step (by omega) hs49.2, sum_next hq (hd _ hmj) (hz _ hmj)⟩ (by omega) (Q8 (X3 (.k .nil)) (Z3 ⟨.t rfl, .t rfl, .t rfl, .eq (.t rfl) (by first | rfl | (congr 3; omega) | (congr 2; omega)), .t rfl, .t rfl, .t rfl, .t rfl, .t rfl, .t rfl, .t rfl, .t rfl, .t rfl, .t rfl, .t rfl, trivial⟩))
     ·try simp only [bsx] at hc6
      have hs49 := hc6
      have hst := sumRun_stop (c := q) (show ¬ j < (stT (Q7 ts)).length ∨ ¬ (atT (stT (Q7 ts)) j).exp = (atT (stT (Q7 ts)) i).exp from hs49.imp (fun h => by omega) id)
      rw [hrun] at hst
      have hlt : i < j := by rcases Nat.lt_or_eq_of_le hij with h | h; exact h; subst h; rcases hs49 with q | q; omega; exact absurd rfl q
      refine JC.exit (JQ.then_exit (JQ.then_exit (JQ.block_exit (JQ.then_normal (JC.g (J.o (ofa (.t rfl) fd97_0) rfl (J.o (oa (.t rfl) (.head _) ag25 (Q6 (g := zT) (y := (ofI q)) rfl rfl)) rfl ?_)))))))
      refine J.o (X9 (T' := tIs (.int .i64 (sgn q))) (oc fn35 (intSign_c (ofI q) (by omega)) (.cons (.t rfl) .nil)) (by rw [Y9])) rfl (J.o (ot_neq (.t rfl) .is) rfl (J.e ?_))
      refine JC.cond (.t rfl) (fun hc7 => ?_) (fun hc7 => ?_)
      ·try simp only [bsx] at hc7
       have hs64 := hc7
       refine JC.region (J.M rfl rfl (J.o (oa (.t rfl) (.head _) ag97 (Q6 (g := tmT) (y := (Tm.mk (ofI q) ((atT (stT (Q7 ts)) i).exp))) rfl rfl)) rfl ?_))
       refine J.o (K6 (E := X5) (zs := [Tm.mk (ofI q) ((atT (stT (Q7 ts)) i).exp)]) R3 (.cons (.t rfl) .nil) rfl zr97 rfl (by decide) (by decide)) rfl ?_
       refine J.append0 (E := X5) (ys := [Tm.mk (ofI q) ((atT (stT (Q7 ts)) i).exp)]) (.sub (.t rfl) nil_z) (.t rfl) (by simp) R3 rfl zr97 rfl (by simp <;> omega) (by simp <;> omega) (ltN rfl) fun b68 c68 => (J.A rfl rfl (J.nil (JQ.block_normal ?_)))
       have hq0 : ¬ q = 0 := fun h => hs64 (by rw [h]; rfl)
       have hO0 := hOe rfl
       exact JQ.round5 (i := true) (i2 := i) (i3 := O) (i4 := b) (i5 := c) false j (O ++ [Tm.mk (ofI q) ((atT (stT (Q7 ts)) i).exp)]) b68 c68 ⟨hjl, merge_yes (by omega) hO hst hq0, by simp; omega, fun h => by cases h⟩ (by omega) (Q8 (X3 (.keep (K8 (by rw [hO0]; rfl)) (.drop .nil))) (Z3 ⟨.t rfl, .t rfl, .eq (.t rfl) (by rw [hO0]; rfl), .t rfl, trivial⟩))
      ·try simp only [bsx] at hc7
       have hs64 := hc7
       refine JC.skip (JQ.block_normal ?_)
       have hq0 : q = 0 := by rcases N0 q with h | h | h <;> omega
       exact JQ.round5 (i := true) (i2 := i) (i3 := O) (i4 := b) (i5 := c) true j O 0 0 ⟨hjl, merge_no (by omega) hO hst hq0, by omega, fun _ => hOe rfl⟩ (by omega) (Q8 (X3 (.drop .nil)) (Z3 ⟨.t rfl, .t rfl, .t rfl, .t rfl, trivial⟩))
    ·try simp only [bsx] at hc5
     have hs29 := hc5
     refine JC.exit (JQ.then_exit (JQ.then_exit (JQ.block_exit (JQ.then_normal (JC.g (J.M rfl rfl ?_))))))
     refine J.o (oc fn113 (clip_c ([]) (by simp)) (.cons (.sub (.t rfl) nil_sl) .nil)) rfl (J.A rfl rfl (J.e (JC.ret ?_)))
     exact absurd (show Q4 ts = [] by rw [← normS_st, ← merge_end (by omega) hO mergeT_nil, hOe rfl]) hne
 ·change JC _ _ _ [(2, tSl X5 ([])), (3, tIs (.slice none 0 0)), (9, tSl X5 ts), (10, tIs (.int .i64 (((ts).length : Int)))), (11, tIs (.int .i64 (k : Int)))] []
  obtain ⟨hk, he⟩ := hinv
  have hkk := keepT_len (ts.take k)
  rw [List.length_take] at hkk
  refine (JC.g (J.o (Y6 (.t rfl) (.t rfl)) rfl (J.e (JC.seq ?_))))
  refine JC.cond (.t rfl) (fun hc8 => ?_) (fun hc8 => ?_)
  ·try simp only [bsx] at hc8
   have hs12 := hc8
   refine JC.skip (JQ.then_normal (JC.seq (JC.block (JC.g ?_))))
   refine J.o (ixo (z := atT ts k) (.t rfl) (.t rfl) R3 (by omega) (atT_at (by omega) (by omega))) rfl (J.o (lda (.t rfl) ag97 V0) rfl ?_)
   refine J.alloc (R := cTs [tIs (.bool false), tSl X8 ([]), tIs (.int .i64 0), tIs (.int .i64 0), tIs (.int .i64 0), tIs (.int .i64 0)]) zr97 (fun _ => ⟨rfl, rfl, Q9 _ _, rfl, rfl, rfl, rfl, rfl, rfl, rfl, rfl, rfl, trivial⟩) (ltN rfl) fun b5 => ?_
   refine J.store (.t rfl) (.eq (.t rfl) (K2 (Ts := [tIs (.bool ((atT ts k).coef.neg)), tSl X8 ((atT ts k).coef.abs), tIs (.int .i64 (((atT ts k).exp).a)), tIs (.int .i64 (((atT ts k).exp).b)), tIs (.int .i64 (((atT ts k).exp).c)), tIs (.int .i64 (((atT ts k).exp).d))]) rfl)) .here sz97 (Z4 (Ts' := [tIs (.bool ((atT ts k).coef.neg)), tSl X8 ((atT ts k).coef.abs), tIs (.int .i64 (((atT ts k).exp).a)), tIs (.int .i64 (((atT ts k).exp).b)), tIs (.int .i64 (((atT ts k).exp).c)), tIs (.int .i64 (((atT ts k).exp).d))]) (o := 0) rfl) (J.e (JC.seq ?_))
   refine JC.weak (sub_freezeP (R' := cEnc X5 (atT ts k)) [5] ⟨rfl, trivial⟩ .here (cTs_F (f := tmT) (x := atT ts k) rfl rfl)) (JC.region (J.o (ofp (R' := cDrop (cEnc X5 (atT ts k)) 2) (.t rfl) fd97_1 (fun _ _ h => cDrop_mk h)) rfl ?_))
   refine J.o (ot_sliceA (.t rfl) ar4_95 tm_exp) rfl ?_
   refine J.o (oc fn109 (min_c ((atT ts k).exp.list) (by simp [Mo.list])) (.cons (.t rfl) .nil)) rfl (J.o (ot_geq (.t rfl) .is) rfl (J.e ?_))
   refine JC.cond (.t rfl) (fun hc9 => ?_) (fun hc9 => ?_)
   ·try simp only [bsx] at hc9
    have hs18 := hc9
    refine JC.region (J.M rfl rfl (J.o (lda (.t rfl) ag97 V0) rfl ?_))
    refine J.o (K6 (E := X5) (zs := [atT ts k]) R3 (.cons (.t rfl) .nil) rfl zr97 rfl (by decide) (by decide)) rfl ?_
    refine J.append0 (E := X5) (ys := [atT ts k]) (.sub (.t rfl) nil_z) (.t rfl) (by simp) R3 rfl zr97 rfl (by simp <;> omega) (by simp <;> omega) (ltN rfl) fun b22 c22 => (J.A rfl rfl (J.nil (JQ.block_normal (JQ.then_normal (JC.region ?_)))))
    refine J.o (Z6 (.t rfl) .is (w64 (by omega) (by omega))) rfl (J.M rfl rfl (J.nil ?_))
    have hyes := keepT_yes (show k < ts.length by omega) (okT_iff.2 hs18)
    rw [he rfl, List.nil_append] at hyes
    exact JQ.round4 (i := true) (i2 := k) (i3 := b) (i4 := c) false (k + 1) b22 c22 ⟨by omega, fun h => by cases h⟩ (by omega) (Q8 (X3 (.keep (K8 hyes) .nil)) (Z3 ⟨.t rfl, .eq (.t rfl) (by rw [hyes]), .t rfl, .t rfl, .eq (.t rfl) (by first | rfl | (congr 3; omega) | (congr 2; omega)), trivial⟩))
   ·try simp only [bsx] at hc9
    have hs18 := hc9
    refine JC.skip (JQ.block_normal (JQ.then_normal (JC.region ?_)))
    refine J.o (Z6 (.t rfl) .is (w64 (by omega) (by omega))) rfl (J.M rfl rfl (J.nil ?_))
    have hno := keepT_no (show k < ts.length by omega) (fun h => hs18 (okT_iff.1 h))
    exact JQ.round4 (i := true) (i2 := k) (i3 := b) (i4 := c) true (k + 1) 0 0 ⟨by omega, fun _ => hno ▸ he rfl⟩ (by omega) (Q8 (X3 .nil) (Z3 ⟨.t rfl, .t rfl, .t rfl, .t rfl, .eq (.t rfl) (by first | rfl | (congr 3; omega) | (congr 2; omega)), trivial⟩))
  ·try simp only [bsx] at hc8
   have hs12 := hc8
   have hkt : Q7 (ts.take k) = Q7 ts := by rw [List.take_of_length_le (by omega)]
   refine JC.exit (JQ.then_exit (JQ.then_exit (JQ.block_exit (JQ.then_normal (JC.g (J.M rfl rfl ?_))))))
   refine J.o (oc fn110 (sort0_c  ) (.cons (.t rfl) (.cons (.func (fun _ => rfl)) .nil))) rfl (J.e (JC.g ?_))
   refine J.a .is rfl (J.e (JC.seq (JC.g ?_)))
   refine J.a .is rfl (J.e (JC.block ?_))
   refine JC.loop (ι := Nat) (fun i => [(2, tSl X5 ([])), (3, tIs (.slice none 0 0)), (6, tIs (.slice none 0 0)), (7, tIs (.int .i64 0))]) (fun i => []) (fun i => i = 0) (fun i => i) 0 (by omega) ?lsub4 ?round4
   case lsub4 => exact Q8 (X3 .nil) (Z3 ⟨.t rfl, .t rfl, .t rfl, .t rfl, trivial⟩)
   intro i hinv
   refine JC.seq (JC.g (J.M rfl rfl (J.M rfl rfl ?_)))
   refine J.o (ot_len_nil (.t rfl) R3 rfl) rfl (J.o (Y6 (.t rfl) (.t rfl)) rfl (J.e ?_))
   refine JC.cond_false (.eq (.t rfl) (by rfl)) ?_
   refine JC.exit (JQ.then_exit (JQ.then_exit (JQ.block_exit (JQ.then_normal (JC.g (J.M rfl rfl ?_))))))
   refine J.o (oc fn113 (clip_c ([]) (by simp)) (.cons (.sub (.t rfl) nil_sl) .nil)) rfl (J.A rfl rfl (J.e (JC.ret ?_)))
   exact absurd (show Q4 ts = [] by rw [← normS_st, ← hkt, he rfl]; exact mergeT_nil) hne

theorem normLG_c {B : Nat} (pb pc pq : Nat) (ts : List Tm) (hl : ts.length ≤ 4294967295) (hd : ∀ t ∈ ts, U7 t.coef.abs) (hz : ∀ t ∈ ts, t.coef.abs.length ≤ B) (hb : B ≤ 1000000000000) : CtrL Try.prog 93 [sIs pb 0 (ts.length) pc] pb 97 (Y5 X5 ts pq) (Y5 X5 ts pq) (tSl X5 (Q4 ts)) := by
 have hkl := keepT_len ts
 have hsl := stT_len (Q7 ts)
 have hm : ∀ t ∈ stT (Q7 ts), t ∈ ts := fun t h => (List.mem_filter.1 (stT_mem t h)).1
 refine CtrL.of Try.func93 rfl Try.ntmps93 (Nat.le_of_ble_eq_true rfl) fun w0 M0 => (JC.g ?_)
 refine J.o (Y2 (.nil (E := X5))) rfl (J.e (JC.g ?_))
 refine J.a .is rfl (J.e (JC.seq (JC.g (J.M rfl rfl ?_))))
 refine J.o (T8 (.t rfl) R3 rfl) rfl ?_
 refine J.m .is rfl (J.e (JC.block ?_))
 refine JC.loop4 (α := Bool) (β := Nat) (γ := Nat) (δ := Nat) (fun e k b c => bif e then [(2, tSl X5 ([])), (3, tIs (.slice none 0 0)), (9, sIs pb 0 (ts.length) pc), (10, tIs (.int .i64 (((ts.length : Nat) : Int)))), (11, tIs (.int .i64 (k : Int)))] else [(2, tSl X5 ([])), (3, sIs b 0 ((Q7 (ts.take k)).length) c), (9, sIs pb 0 (ts.length) pc), (10, tIs (.int .i64 (((ts.length : Nat) : Int)))), (11, tIs (.int .i64 (k : Int)))]) (fun e k b c => bif e then [⟨pb, 97, Y5 X5 ts pq⟩] else [⟨b, 97, Y5 X5 (Q7 (ts.take k)) c⟩, ⟨pb, 97, Y5 X5 ts pq⟩]) (fun e k b c => k ≤ ts.length ∧ (e = true → Q7 (ts.take k) = [])) (fun e k b c => ts.length - k) true 0 0 0 ⟨by omega, fun _ => rfl⟩ ?lsub0 ?round0
 case lsub0 => exact Q8 (X3 (.k .nil)) (Z3 ⟨.t rfl, .t rfl, .t rfl, .t rfl, .eq (.t rfl) (by first | rfl | (congr 3; omega) | (congr 2; omega)), trivial⟩)
 intro e k b c hinv
 rcases e with _ | _
 ·change JC _ _ _ [(2, tSl X5 ([])), (3, sIs b 0 ((Q7 (ts.take k)).length) c), (9, sIs pb 0 (ts.length) pc), (10, tIs (.int .i64 (((ts.length : Nat) : Int)))), (11, tIs (.int .i64 (k : Int)))] [⟨b, 97, Y5 X5 (Q7 (ts.take k)) c⟩, ⟨pb, 97, Y5 X5 ts pq⟩]
  obtain ⟨hk, he⟩ := hinv
  have hkk := keepT_len (ts.take k)
  rw [List.length_take] at hkk
  refine (JC.g (J.o (Y6 (.t rfl) (.t rfl)) rfl (J.e (JC.seq ?_))))
  refine JC.cond (.t rfl) (fun hc0 => ?_) (fun hc0 => ?_)
  ·try simp only [bsx] at hc0
   have hs12 := hc0
   refine JC.skip (JQ.then_normal (JC.seq (JC.block (JC.g ?_))))
   refine J.o (X9 (T' := X7 pb (0 + k * 6)) (oix (.t rfl) (.t rfl) R3 (by omega) (by omega)) (Z7 (by omega))) rfl (J.o (oa (.t rfl) (.tail _ (.head _)) ag97 (row_agg rfl (atT_some (by omega)))) rfl ?_)
   refine J.alloc (R := cTs [tIs (.bool false), tSl X8 ([]), tIs (.int .i64 0), tIs (.int .i64 0), tIs (.int .i64 0), tIs (.int .i64 0)]) zr97 (fun _ => ⟨rfl, rfl, Q9 _ _, rfl, rfl, rfl, rfl, rfl, rfl, rfl, rfl, rfl, trivial⟩) (ltN rfl) fun b5 => ?_
   refine J.store (.t rfl) (.eq (.t rfl) (K2 (Ts := [tIs (.bool ((atT ts k).coef.neg)), tSl X8 ((atT ts k).coef.abs), tIs (.int .i64 (((atT ts k).exp).a)), tIs (.int .i64 (((atT ts k).exp).b)), tIs (.int .i64 (((atT ts k).exp).c)), tIs (.int .i64 (((atT ts k).exp).d))]) rfl)) .here sz97 (Z4 (Ts' := [tIs (.bool ((atT ts k).coef.neg)), tSl X8 ((atT ts k).coef.abs), tIs (.int .i64 (((atT ts k).exp).a)), tIs (.int .i64 (((atT ts k).exp).b)), tIs (.int .i64 (((atT ts k).exp).c)), tIs (.int .i64 (((atT ts k).exp).d))]) (o := 0) rfl) (J.e (JC.seq ?_))
   refine JC.weak (sub_freezeP (R' := cEnc X5 (atT ts k)) [5] ⟨rfl, trivial⟩ .here (cTs_F (f := tmT) (x := atT ts k) rfl rfl)) (JC.region (J.o (ofp (R' := cDrop (cEnc X5 (atT ts k)) 2) (.t rfl) fd97_1 (fun _ _ h => cDrop_mk h)) rfl ?_))
   refine J.o (ot_sliceA (.t rfl) ar4_95 tm_exp) rfl ?_
   refine J.o (oc fn109 (min_c ((atT ts k).exp.list) (by simp [Mo.list])) (.cons (.t rfl) .nil)) rfl (J.o (ot_geq (.t rfl) .is) rfl (J.e ?_))
   refine JC.cond (.t rfl) (fun hc1 => ?_) (fun hc1 => ?_)
   ·try simp only [bsx] at hc1
    have hs18 := hc1
    refine JC.region (J.M rfl rfl (J.o (lda (.t rfl) ag97 V0) rfl ?_))
    refine J.o (K6 (E := X5) (zs := [atT ts k]) R3 (.cons (.t rfl) .nil) rfl zr97 rfl (by decide) (by decide)) rfl ?_
    refine J.append (E := X5) (xs := Q7 (ts.take k)) (ys := [atT ts k]) (.t rfl) rfl (.t rfl) R3 rfl zr97 rfl .here (by simp <;> omega) (by simp <;> omega) (ltN rfl) fun b22 c22 => (J.A rfl rfl (J.nil (JQ.block_normal (JQ.then_normal (JC.region ?_)))))
    refine J.o (Z6 (.t rfl) .is (w64 (by omega) (by omega))) rfl (J.M rfl rfl (J.nil ?_))
    have hyes := keepT_yes (show k < ts.length by omega) (okT_iff.2 hs18)
    exact JQ.round4 (i := false) (i2 := k) (i3 := b) (i4 := c) false (k + 1) b22 c22 ⟨by omega, fun h => by cases h⟩ (by omega) (Q8 (X3 (.keep (K8 hyes) (.k .nil))) (Z3 ⟨.t rfl, .eq (.t rfl) (by rw [hyes]), .t rfl, .t rfl, .eq (.t rfl) (by first | rfl | (congr 3; omega) | (congr 2; omega)), trivial⟩))
   ·try simp only [bsx] at hc1
    have hs18 := hc1
    refine JC.skip (JQ.block_normal (JQ.then_normal (JC.region ?_)))
    refine J.o (Z6 (.t rfl) .is (w64 (by omega) (by omega))) rfl (J.M rfl rfl (J.nil ?_))
    have hno := keepT_no (show k < ts.length by omega) (fun h => hs18 (okT_iff.1 h))
    exact JQ.round4 (i := false) (i2 := k) (i3 := b) (i4 := c) false (k + 1) b c ⟨by omega, fun h => by cases h⟩ (by omega) (Q8 (X3 (.keep (K8 hno) (.k .nil))) (Z3 ⟨.t rfl, .eq (.t rfl) (by rw [hno]), .t rfl, .t rfl, .eq (.t rfl) (by first | rfl | (congr 3; omega) | (congr 2; omega)), trivial⟩))
  ·try simp only [bsx] at hc0
   have hs12 := hc0
   have hkt : Q7 (ts.take k) = Q7 ts := by rw [List.take_of_length_le (by omega)]
   refine JC.exit (JQ.then_exit (JQ.then_exit (JQ.block_exit (JQ.then_normal (JC.g (J.M rfl rfl ?_))))))
   refine J.callL (R' := Y5 X5 (stT (Q7 (ts.take k))) c) (Us := []) (cap := []) fn110 (.func (fun _ => rfl)) (sortG_c b c (Q7 (ts.take k)) (by omega)) (.cons (.t rfl) (.cons (.func (fun _ => rfl)) .nil)) (fun _ => trivial) .here (ltN rfl) (J.e (JC.seq ?_))
   refine JC.weak (U9 (E := X5) (xs := stT (Q7 (ts.take k))) (n := (Q7 (ts.take k)).length) (c := c) [24, 3] ⟨rfl, rfl, trivial⟩ .here (by rw [stT_len]) (by omega)) (JC.region ?_)
   refine J.a .is rfl (J.e (JC.seq (JC.g ?_)))
   refine J.a .is rfl (J.e (JC.block ?_))
   refine JC.loop5 (α := Bool) (β := Nat) (γ := List Tm) (δ := Nat) (ε := Nat) (fun e i O b c => bif e then [(2, tSl X5 ([])), (3, tSl X5 ((stT (Q7 ts)))), (6, tIs (.slice none 0 0)), (7, tIs (.int .i64 (i : Int)))] else [(2, tSl X5 ([])), (3, tSl X5 ((stT (Q7 ts)))), (6, sIs b 0 (O.length) c), (7, tIs (.int .i64 (i : Int)))]) (fun e i O b c => bif e then [⟨pb, 97, Y5 X5 ts pq⟩] else [⟨b, 97, Y5 X5 O c⟩, ⟨pb, 97, Y5 X5 ts pq⟩]) (fun e i O b c => i ≤ (stT (Q7 ts)).length ∧ O ++ W0 ((stT (Q7 ts)).drop i) = W0 (stT (Q7 ts)) ∧ O.length ≤ i ∧ (e = true → O = [])) (fun e i O b c => (stT (Q7 ts)).length - i) true 0 ([]) 0 0 ⟨by omega, by simp, by simp, fun _ => rfl⟩ ?lsub1 ?round1
   case lsub1 => exact Q8 (X3 (.k .nil)) (Z3 ⟨.t rfl, .eq (.t rfl) (by rw [hkt]), .t rfl, .eq (.t rfl) (by first | rfl | (congr 3; omega) | (congr 2; omega)), trivial⟩)
   intro e i O b c hinv
   rcases e with _ | _
   ·change JC _ _ _ [(2, tSl X5 ([])), (3, tSl X5 ((stT (Q7 ts)))), (6, sIs b 0 (O.length) c), (7, tIs (.int .i64 (i : Int)))] [⟨b, 97, Y5 X5 O c⟩, ⟨pb, 97, Y5 X5 ts pq⟩]
    obtain ⟨hi, hO, hOl, hOe⟩ := hinv
    refine JC.seq (JC.g (J.M rfl rfl (J.M rfl rfl (J.o (Y8 (.t rfl) R3 rfl) rfl (J.o (Y6 (.t rfl) (.t rfl)) rfl (J.e ?_))))))
    refine JC.cond (.t rfl) (fun hc2 => ?_) (fun hc2 => ?_)
    ·try simp only [bsx] at hc2
     have hs29 := hc2
     refine JC.skip (JQ.then_normal (JC.block (JC.g (J.M rfl rfl (J.M rfl rfl ?_)))))
     refine J.o (ixo (z := atT (stT (Q7 ts)) i) (.t rfl) (.t rfl) R3 (by omega) (atT_at (by omega) (by omega))) rfl (J.o (ofp (R' := cDrop (cEnc X5 (atT (stT (Q7 ts)) i)) 2) (.t rfl) fd97_1 (fun _ _ h => cDrop_mk h)) rfl (J.o (lda (.t rfl) ag95 (ldFV (g := moT) (y := (atT (stT (Q7 ts)) i).exp) rfl rfl)) rfl ?_))
     refine J.o (X9 (T' := tV X5 (Tm.mk (Z.mk false ([])) ((atT (stT (Q7 ts)) i).exp))) (V7 (Ts := [tIs (.bool false), tSl X8 ([]), tIs (.int .i64 0), tIs (.int .i64 0), tIs (.int .i64 0), tIs (.int .i64 0)]) pl97 (fun _ => ⟨rfl, rfl, Q9 _ _, rfl, rfl, rfl, rfl, rfl, rfl, rfl, rfl, rfl, trivial⟩) ((.agg (off := 2) rfl (.eq (.t rfl) (K2 (Ts := [tIs (.int .i64 (((atT (stT (Q7 ts)) i).exp).a)), tIs (.int .i64 (((atT (stT (Q7 ts)) i).exp).b)), tIs (.int .i64 (((atT (stT (Q7 ts)) i).exp).c)), tIs (.int .i64 (((atT (stT (Q7 ts)) i).exp).d))]) rfl)) (Ts' := [tIs (.bool false), tSl X8 ([]), tIs (.int .i64 (((atT (stT (Q7 ts)) i).exp).a)), tIs (.int .i64 (((atT (stT (Q7 ts)) i).exp).b)), tIs (.int .i64 (((atT (stT (Q7 ts)) i).exp).c)), tIs (.int .i64 (((atT (stT (Q7 ts)) i).exp).d))]) rfl rfl .nil)) rfl) (tV_F' rfl)) rfl ?_
     refine J.alloc (R := cTs [tIs (.bool false), tSl X8 ([]), tIs (.int .i64 0), tIs (.int .i64 0), tIs (.int .i64 0), tIs (.int .i64 0)]) zr97 (fun _ => ⟨rfl, rfl, Q9 _ _, rfl, rfl, rfl, rfl, rfl, rfl, rfl, rfl, rfl, trivial⟩) (ltN rfl) fun b8 => ?_
     refine J.store (.t rfl) (.eq (.t rfl) (K2 (Ts := [tIs (.bool false), tSl X8 ([]), tIs (.int .i64 (((atT (stT (Q7 ts)) i).exp).a)), tIs (.int .i64 (((atT (stT (Q7 ts)) i).exp).b)), tIs (.int .i64 (((atT (stT (Q7 ts)) i).exp).c)), tIs (.int .i64 (((atT (stT (Q7 ts)) i).exp).d))]) rfl)) .here sz97 (Z4 (Ts' := [tIs (.bool false), tSl X8 ([]), tIs (.int .i64 (((atT (stT (Q7 ts)) i).exp).a)), tIs (.int .i64 (((atT (stT (Q7 ts)) i).exp).b)), tIs (.int .i64 (((atT (stT (Q7 ts)) i).exp).c)), tIs (.int .i64 (((atT (stT (Q7 ts)) i).exp).d))]) (o := 0) rfl) (J.e (JC.seq (JC.block ?_)))
     refine JC.loop2 (α := Nat) (β := Int) (fun j q => [(2, tSl X5 ([])), (3, tSl X5 ((stT (Q7 ts)))), (6, sIs b 0 (O.length) c), (7, tIs (.int .i64 (j : Int))), (8, X7 b8 0), (26, tIs (.int .i64 (i : Int))), (27, tSl X5 ((stT (Q7 ts)))), (28, tIs (.int .i64 ((((stT (Q7 ts))).length : Int)))), (29, tIs (.bool (decide ((i : Int) < (((stT (Q7 ts))).length : Int))))), (30, tSl X5 ((stT (Q7 ts)))), (31, tIs (.int .i64 (i : Int))), (32, tPtr (cEnc X5 (atT (stT (Q7 ts)) i))), (33, tPtr (cDrop (cEnc X5 (atT (stT (Q7 ts)) i)) 2)), (34, tV encMo ((atT (stT (Q7 ts)) i).exp)), (35, tV X5 (Tm.mk (Z.mk false ([])) ((atT (stT (Q7 ts)) i).exp)))]) (fun j q => [⟨b8, 97, cTs [tIs (.bool ((ofI q).neg)), tSl X8 ((ofI q).abs), tIs (.int .i64 (((atT (stT (Q7 ts)) i).exp).a)), tIs (.int .i64 (((atT (stT (Q7 ts)) i).exp).b)), tIs (.int .i64 (((atT (stT (Q7 ts)) i).exp).c)), tIs (.int .i64 (((atT (stT (Q7 ts)) i).exp).d))]⟩, ⟨b, 97, Y5 X5 O c⟩, ⟨pb, 97, Y5 X5 ts pq⟩]) (fun j q => i ≤ j ∧ j ≤ (stT (Q7 ts)).length ∧ U8 (atT (stT (Q7 ts)) i).exp q ((stT (Q7 ts)).drop j) = U8 (atT (stT (Q7 ts)) i).exp 0 ((stT (Q7 ts)).drop i) ∧ q.natAbs ≤ j * B32 ^ B) (fun j q => (stT (Q7 ts)).length - j) i 0 ⟨by omega, by omega, rfl, by simp⟩ ?lsub2 ?round2
     case lsub2 => exact Q8 (X3 (.keep (fun _ _ h => by rw [ofI_zero]; exact h) (.k (.k .nil)))) (Z3 ⟨.t rfl, .t rfl, .t rfl, .t rfl, .t rfl, .t rfl, .t rfl, .t rfl, .t rfl, .t rfl, .t rfl, .t rfl, .t rfl, .t rfl, .t rfl, trivial⟩)
     intro j q hinv
     obtain ⟨hij, hjl, hrun, hq⟩ := hinv
     have hqf := sum_fit hq (by omega)
     have hqf2 : (ofI q).abs.length ≤ B + 1 := hqf
     refine JC.seq (JC.seq ?_)
     refine JC.draw (Γ' := ?g1) mo (by kernel_rfl) ?tw1 ?k1
     case tw1 =>
      refine TW.M rfl rfl (TW.M rfl rfl (TW.o (Y8 (.t rfl) R3 rfl) rfl (TW.o (Y6 (.t rfl) (.t rfl)) rfl (TW.M rfl rfl ?_))))
      refine TW.opg rfl rfl rfl (ltN rfl) (fun hg => Y0 (.t rfl)) rfl (ltN rfl) ?_
      refine TW.opg rfl rfl rfl (ltN rfl) (fun hg => Y0 (.t rfl)) rfl (ltN rfl) ?_
      refine TW.opg rfl rfl rfl (ltN rfl) (fun hg => (by have hg' := hg; (try simp only [bsx] at hg'); exact ixo (z := atT (stT (Q7 ts)) j) (.iff hg (.t rfl)) (.iff hg (.t rfl)) R3 (by omega) (atT_at (by omega) (by omega)))) rfl (ltN rfl) ?_
      refine TW.opg rfl rfl rfl (ltN rfl) (fun hg => ofp (R' := cDrop (cEnc X5 (atT (stT (Q7 ts)) j)) 2) (.iff hg (.t rfl)) fd97_1 (fun _ _ h => cDrop_mk h)) rfl (ltN rfl) ?_
      refine TW.opg rfl rfl rfl (ltN rfl) (fun hg => lda (.iff hg (.t rfl)) ag95 (ldFV (g := moT) (y := (atT (stT (Q7 ts)) j).exp) rfl rfl)) rfl (ltN rfl) ?_
      refine TW.opg rfl rfl rfl (ltN rfl) (fun hg => ofa (.t rfl) fd97_1) rfl (ltN rfl) ?_
      refine TW.opg rfl rfl rfl (ltN rfl) (fun hg => oa (.iff hg (.t rfl)) (.head _) ag95 (Q6 (g := moT) (y := ((atT (stT (Q7 ts)) i).exp)) rfl rfl)) rfl (ltN rfl) ?_
      refine TW.opg rfl rfl rfl (ltN rfl) (fun hg => ot_eqA (.iff hg (.t rfl)) (.iff hg (.t rfl)) ar4_95) rfl (ltN rfl) ?_
      refine TW.o (R4 (.t rfl) (.t rfl) .is) rfl ?_
      exact TW.nil
     refine JQ.then_normal ?_
     refine JC.cond (.t rfl) (fun hc3 => ?_) (fun hc3 => ?_)
     ·try simp only [bsx] at hc3
      have hs49 := hc3
      have hmj : atT (stT (Q7 ts)) j ∈ ts := hm _ (atT_mem (by omega))
      have hzj := hz _ hmj
      refine JC.skip (JQ.then_normal (JC.block (JC.seq ?_)))
      refine JC.drawAt (Γ' := ?g2) 9 mo (by kernel_rfl) ?tw2 ?k2
      case tw2 =>
       refine TW.o (ofa (.t rfl) fd97_0) rfl (TW.o (oa (.t rfl) (.head _) ag25 (Q6 (g := zT) (y := (ofI q)) rfl rfl)) rfl (TW.M rfl rfl (TW.M rfl rfl ?_)))
       refine TW.o (ixo (z := atT (stT (Q7 ts)) j) (.t rfl) (.t rfl) R3 (by omega) (atT_at (by omega) (by omega))) rfl (TW.o (ofp (.t rfl) fd97_0 (fun _ _ h => h)) rfl (TW.o (lda (.t rfl) ag25 (ldFV0 (g := zT) (y := (atT (stT (Q7 ts)) j).coef) rfl rfl)) rfl ?_))
       refine TW.o (X9 (T' := tV R9 (ofI (q + X4 (atT (stT (Q7 ts)) j).coef))) (oc fn96 (intAdd_c (ofI q) ((atT (stT (Q7 ts)) j).coef) (by omega) (by omega)) (.cons (.t rfl) (.cons (.t rfl) .nil))) (by rw [Y9])) rfl (TW.o (ofa (.t rfl) fd97_0) rfl ?_)
       exact TW.nil
      refine J.store (.t rfl) (.eq (.t rfl) (K2 (Ts := (iT (ofI (q + X4 (atT (stT (Q7 ts)) j).coef)))) rfl)) .here sz25 (Z4 (Ts' := [tIs (.bool ((ofI (q + X4 (atT (stT (Q7 ts)) j).coef)).neg)), tSl X8 ((ofI (q + X4 (atT (stT (Q7 ts)) j).coef)).abs), tIs (.int .i64 (((atT (stT (Q7 ts)) i).exp).a)), tIs (.int .i64 (((atT (stT (Q7 ts)) i).exp).b)), tIs (.int .i64 (((atT (stT (Q7 ts)) i).exp).c)), tIs (.int .i64 (((atT (stT (Q7 ts)) i).exp).d))]) (o := 0) rfl) (J.e (JC.region (J.M rfl rfl ?_)))
      refine J.o (Z6 (.t rfl) .is (w64 (by omega) (by omega))) rfl (J.A rfl rfl (J.nil (JQ.block_normal ?_)))
      exact JQ.round2 (i := j) (i2 := q) (j + 1) (q + X4 (atT (stT (Q7 ts)) j).coef) ⟨by omega, by omega, by rw [← hrun]; exact sumRun_step (by omega) hs49.2, sum_next hq (hd _ hmj) (hz _ hmj)⟩ (by omega) (Q8 (X3 (.k (.k (.k .nil)))) (Z3 ⟨.t rfl, .t rfl, .t rfl, .eq (.t rfl) (by first | rfl | (congr 3; omega) | (congr 2; omega)), .t rfl, .t rfl, .t rfl, .t rfl, .t rfl, .t rfl, .t rfl, .t rfl, .t rfl, .t rfl, .t rfl, trivial⟩))
     ·try simp only [bsx] at hc3
      have hs49 := hc3
      have hst := sumRun_stop (c := q) (show ¬ j < (stT (Q7 ts)).length ∨ ¬ (atT (stT (Q7 ts)) j).exp = (atT (stT (Q7 ts)) i).exp from hs49.imp (fun h => by omega) id)
      rw [hrun] at hst
      have hlt : i < j := by rcases Nat.lt_or_eq_of_le hij with h | h; exact h; subst h; rcases hs49 with q | q; omega; exact absurd rfl q
      refine JC.exit (JQ.then_exit (JQ.then_exit (JQ.block_exit (JQ.then_normal (JC.g (J.o (ofa (.t rfl) fd97_0) rfl (J.o (oa (.t rfl) (.head _) ag25 (Q6 (g := zT) (y := (ofI q)) rfl rfl)) rfl ?_)))))))
      refine J.o (X9 (T' := tIs (.int .i64 (sgn q))) (oc fn35 (intSign_c (ofI q) (by omega)) (.cons (.t rfl) .nil)) (by rw [Y9])) rfl (J.o (ot_neq (.t rfl) .is) rfl (J.e ?_))
      refine JC.cond (.t rfl) (fun hc4 => ?_) (fun hc4 => ?_)
      ·try simp only [bsx] at hc4
       have hs64 := hc4
       refine JC.region (J.M rfl rfl (J.o (oa (.t rfl) (.head _) ag97 (Q6 (g := tmT) (y := (Tm.mk (ofI q) ((atT (stT (Q7 ts)) i).exp))) rfl rfl)) rfl ?_))
       refine J.o (K6 (E := X5) (zs := [Tm.mk (ofI q) ((atT (stT (Q7 ts)) i).exp)]) R3 (.cons (.t rfl) .nil) rfl zr97 rfl (by decide) (by decide)) rfl ?_
       refine J.append (E := X5) (xs := O) (ys := [Tm.mk (ofI q) ((atT (stT (Q7 ts)) i).exp)]) (.t rfl) rfl (.t rfl) R3 rfl zr97 rfl (.there .here) (by simp <;> omega) (by simp <;> omega) (ltN rfl) fun b68 c68 => (J.A rfl rfl (J.nil (JQ.block_normal ?_)))
       have hq0 : ¬ q = 0 := fun h => hs64 (by rw [h]; rfl)
       exact JQ.round5 (i := false) (i2 := i) (i3 := O) (i4 := b) (i5 := c) false j (O ++ [Tm.mk (ofI q) ((atT (stT (Q7 ts)) i).exp)]) b68 c68 ⟨hjl, merge_yes (by omega) hO hst hq0, by simp; omega, fun h => by cases h⟩ (by omega) (Q8 (X3 (.keep (fun _ _ h => by first | exact h | simpa using h) (.drop (.k .nil)))) (Z3 ⟨.t rfl, .t rfl, .eq (.t rfl) (by first | rfl | (congr 3; omega) | (congr 2; omega)), .t rfl, trivial⟩))
      ·try simp only [bsx] at hc4
       have hs64 := hc4
       refine JC.skip (JQ.block_normal ?_)
       have hq0 : q = 0 := by rcases N0 q with h | h | h <;> omega
       exact JQ.round5 (i := false) (i2 := i) (i3 := O) (i4 := b) (i5 := c) false j O b c ⟨hjl, merge_no (by omega) hO hst hq0, by omega, fun h => by cases h⟩ (by omega) (Q8 (X3 (.drop (.k (.k .nil)))) (Z3 ⟨.t rfl, .t rfl, .t rfl, .t rfl, trivial⟩))
    ·try simp only [bsx] at hc2
     have hs29 := hc2
     refine JC.exit (JQ.then_exit (JQ.then_exit (JQ.block_exit (JQ.then_normal (JC.seq ?_)))))
     refine JC.weak (U9 (E := X5) (xs := O) (n := O.length) (c := c) [6] ⟨rfl, trivial⟩ .here rfl (by omega)) (JC.region (J.M rfl rfl ?_))
     refine J.o (oc fn113 (clip_c O (by omega)) (.cons (.t rfl) .nil)) rfl (J.A rfl rfl (J.e (JC.ret ?_)))
     exact (JQ.retL1 rfl (.head _) (fun _ _ h => h) (.eq (.t rfl) (by rw [merge_end (by omega) hO mergeT_nil, normS_st]))).1
   ·change JC _ _ _ [(2, tSl X5 ([])), (3, tSl X5 ((stT (Q7 ts)))), (6, tIs (.slice none 0 0)), (7, tIs (.int .i64 (i : Int)))] [⟨pb, 97, Y5 X5 ts pq⟩]
    obtain ⟨hi, hO, hOl, hOe⟩ := hinv
    refine JC.seq (JC.g (J.M rfl rfl (J.M rfl rfl (J.o (Y8 (.t rfl) R3 rfl) rfl (J.o (Y6 (.t rfl) (.t rfl)) rfl (J.e ?_))))))
    refine JC.cond (.t rfl) (fun hc5 => ?_) (fun hc5 => ?_)
    ·try simp only [bsx] at hc5
     have hs29 := hc5
     refine JC.skip (JQ.then_normal (JC.block (JC.g (J.M rfl rfl (J.M rfl rfl ?_)))))
     refine J.o (ixo (z := atT (stT (Q7 ts)) i) (.t rfl) (.t rfl) R3 (by omega) (atT_at (by omega) (by omega))) rfl (J.o (ofp (R' := cDrop (cEnc X5 (atT (stT (Q7 ts)) i)) 2) (.t rfl) fd97_1 (fun _ _ h => cDrop_mk h)) rfl (J.o (lda (.t rfl) ag95 (ldFV (g := moT) (y := (atT (stT (Q7 ts)) i).exp) rfl rfl)) rfl ?_))
     refine J.o (X9 (T' := tV X5 (Tm.mk (Z.mk false ([])) ((atT (stT (Q7 ts)) i).exp))) (V7 (Ts := [tIs (.bool false), tSl X8 ([]), tIs (.int .i64 0), tIs (.int .i64 0), tIs (.int .i64 0), tIs (.int .i64 0)]) pl97 (fun _ => ⟨rfl, rfl, Q9 _ _, rfl, rfl, rfl, rfl, rfl, rfl, rfl, rfl, rfl, trivial⟩) ((.agg (off := 2) rfl (.eq (.t rfl) (K2 (Ts := [tIs (.int .i64 (((atT (stT (Q7 ts)) i).exp).a)), tIs (.int .i64 (((atT (stT (Q7 ts)) i).exp).b)), tIs (.int .i64 (((atT (stT (Q7 ts)) i).exp).c)), tIs (.int .i64 (((atT (stT (Q7 ts)) i).exp).d))]) rfl)) (Ts' := [tIs (.bool false), tSl X8 ([]), tIs (.int .i64 (((atT (stT (Q7 ts)) i).exp).a)), tIs (.int .i64 (((atT (stT (Q7 ts)) i).exp).b)), tIs (.int .i64 (((atT (stT (Q7 ts)) i).exp).c)), tIs (.int .i64 (((atT (stT (Q7 ts)) i).exp).d))]) rfl rfl .nil)) rfl) (tV_F' rfl)) rfl ?_
     refine J.alloc (R := cTs [tIs (.bool false), tSl X8 ([]), tIs (.int .i64 0), tIs (.int .i64 0), tIs (.int .i64 0), tIs (.int .i64 0)]) zr97 (fun _ => ⟨rfl, rfl, Q9 _ _, rfl, rfl, rfl, rfl, rfl, rfl, rfl, rfl, rfl, trivial⟩) (ltN rfl) fun b8 => ?_
     refine J.store (.t rfl) (.eq (.t rfl) (K2 (Ts := [tIs (.bool false), tSl X8 ([]), tIs (.int .i64 (((atT (stT (Q7 ts)) i).exp).a)), tIs (.int .i64 (((atT (stT (Q7 ts)) i).exp).b)), tIs (.int .i64 (((atT (stT (Q7 ts)) i).exp).c)), tIs (.int .i64 (((atT (stT (Q7 ts)) i).exp).d))]) rfl)) .here sz97 (Z4 (Ts' := [tIs (.bool false), tSl X8 ([]), tIs (.int .i64 (((atT (stT (Q7 ts)) i).exp).a)), tIs (.int .i64 (((atT (stT (Q7 ts)) i).exp).b)), tIs (.int .i64 (((atT (stT (Q7 ts)) i).exp).c)), tIs (.int .i64 (((atT (stT (Q7 ts)) i).exp).d))]) (o := 0) rfl) (J.e (JC.seq (JC.block ?_)))
     refine JC.loop2 (α := Nat) (β := Int) (fun j q => [(2, tSl X5 ([])), (3, tSl X5 ((stT (Q7 ts)))), (6, tIs (.slice none 0 0)), (7, tIs (.int .i64 (j : Int))), (8, X7 b8 0), (26, tIs (.int .i64 (i : Int))), (27, tSl X5 ((stT (Q7 ts)))), (28, tIs (.int .i64 ((((stT (Q7 ts))).length : Int)))), (29, tIs (.bool (decide ((i : Int) < (((stT (Q7 ts))).length : Int))))), (30, tSl X5 ((stT (Q7 ts)))), (31, tIs (.int .i64 (i : Int))), (32, tPtr (cEnc X5 (atT (stT (Q7 ts)) i))), (33, tPtr (cDrop (cEnc X5 (atT (stT (Q7 ts)) i)) 2)), (34, tV encMo ((atT (stT (Q7 ts)) i).exp)), (35, tV X5 (Tm.mk (Z.mk false ([])) ((atT (stT (Q7 ts)) i).exp)))]) (fun j q => [⟨b8, 97, cTs [tIs (.bool ((ofI q).neg)), tSl X8 ((ofI q).abs), tIs (.int .i64 (((atT (stT (Q7 ts)) i).exp).a)), tIs (.int .i64 (((atT (stT (Q7 ts)) i).exp).b)), tIs (.int .i64 (((atT (stT (Q7 ts)) i).exp).c)), tIs (.int .i64 (((atT (stT (Q7 ts)) i).exp).d))]⟩, ⟨pb, 97, Y5 X5 ts pq⟩]) (fun j q => i ≤ j ∧ j ≤ (stT (Q7 ts)).length ∧ U8 (atT (stT (Q7 ts)) i).exp q ((stT (Q7 ts)).drop j) = U8 (atT (stT (Q7 ts)) i).exp 0 ((stT (Q7 ts)).drop i) ∧ q.natAbs ≤ j * B32 ^ B) (fun j q => (stT (Q7 ts)).length - j) i 0 ⟨by omega, by omega, rfl, by simp⟩ ?lsub3 ?round3
     case lsub3 => exact Q8 (X3 (.keep (fun _ _ h => by rw [ofI_zero]; exact h) (.k .nil))) (Z3 ⟨.t rfl, .t rfl, .t rfl, .t rfl, .t rfl, .t rfl, .t rfl, .t rfl, .t rfl, .t rfl, .t rfl, .t rfl, .t rfl, .t rfl, .t rfl, trivial⟩)
     intro j q hinv
     obtain ⟨hij, hjl, hrun, hq⟩ := hinv
     have hqf := sum_fit hq (by omega)
     have hqf2 : (ofI q).abs.length ≤ B + 1 := hqf
     refine JC.seq (JC.seq ?_)
     refine JC.draw (Γ' := ?g3) mo (by kernel_rfl) ?tw3 ?k3
     case tw3 =>
      refine TW.M rfl rfl (TW.M rfl rfl (TW.o (Y8 (.t rfl) R3 rfl) rfl (TW.o (Y6 (.t rfl) (.t rfl)) rfl (TW.M rfl rfl ?_))))
      refine TW.opg rfl rfl rfl (ltN rfl) (fun hg => Y0 (.t rfl)) rfl (ltN rfl) ?_
      refine TW.opg rfl rfl rfl (ltN rfl) (fun hg => Y0 (.t rfl)) rfl (ltN rfl) ?_
      refine TW.opg rfl rfl rfl (ltN rfl) (fun hg => (by have hg' := hg; (try simp only [bsx] at hg'); exact ixo (z := atT (stT (Q7 ts)) j) (.iff hg (.t rfl)) (.iff hg (.t rfl)) R3 (by omega) (atT_at (by omega) (by omega)))) rfl (ltN rfl) ?_
      refine TW.opg rfl rfl rfl (ltN rfl) (fun hg => ofp (R' := cDrop (cEnc X5 (atT (stT (Q7 ts)) j)) 2) (.iff hg (.t rfl)) fd97_1 (fun _ _ h => cDrop_mk h)) rfl (ltN rfl) ?_
      refine TW.opg rfl rfl rfl (ltN rfl) (fun hg => lda (.iff hg (.t rfl)) ag95 (ldFV (g := moT) (y := (atT (stT (Q7 ts)) j).exp) rfl rfl)) rfl (ltN rfl) ?_
      refine TW.opg rfl rfl rfl (ltN rfl) (fun hg => ofa (.t rfl) fd97_1) rfl (ltN rfl) ?_
      refine TW.opg rfl rfl rfl (ltN rfl) (fun hg => oa (.iff hg (.t rfl)) (.head _) ag95 (Q6 (g := moT) (y := ((atT (stT (Q7 ts)) i).exp)) rfl rfl)) rfl (ltN rfl) ?_
      refine TW.opg rfl rfl rfl (ltN rfl) (fun hg => ot_eqA (.iff hg (.t rfl)) (.iff hg (.t rfl)) ar4_95) rfl (ltN rfl) ?_
      refine TW.o (R4 (.t rfl) (.t rfl) .is) rfl ?_
      exact TW.nil
     refine JQ.then_normal ?_
     refine JC.cond (.t rfl) (fun hc6 => ?_) (fun hc6 => ?_)
     ·try simp only [bsx] at hc6
      have hs49 := hc6
      have hmj : atT (stT (Q7 ts)) j ∈ ts := hm _ (atT_mem (by omega))
      have hzj := hz _ hmj
      refine JC.skip (JQ.then_normal (JC.block (JC.seq ?_)))
      refine JC.drawAt (Γ' := ?g4) 9 mo (by kernel_rfl) ?tw4 ?k4
      case tw4 =>
       refine TW.o (ofa (.t rfl) fd97_0) rfl (TW.o (oa (.t rfl) (.head _) ag25 (Q6 (g := zT) (y := (ofI q)) rfl rfl)) rfl (TW.M rfl rfl (TW.M rfl rfl ?_)))
       refine TW.o (ixo (z := atT (stT (Q7 ts)) j) (.t rfl) (.t rfl) R3 (by omega) (atT_at (by omega) (by omega))) rfl (TW.o (ofp (.t rfl) fd97_0 (fun _ _ h => h)) rfl (TW.o (lda (.t rfl) ag25 (ldFV0 (g := zT) (y := (atT (stT (Q7 ts)) j).coef) rfl rfl)) rfl ?_))
       refine TW.o (X9 (T' := tV R9 (ofI (q + X4 (atT (stT (Q7 ts)) j).coef))) (oc fn96 (intAdd_c (ofI q) ((atT (stT (Q7 ts)) j).coef) (by omega) (by omega)) (.cons (.t rfl) (.cons (.t rfl) .nil))) (by rw [Y9])) rfl (TW.o (ofa (.t rfl) fd97_0) rfl ?_)
       exact TW.nil
      refine J.store (.t rfl) (.eq (.t rfl) (K2 (Ts := (iT (ofI (q + X4 (atT (stT (Q7 ts)) j).coef)))) rfl)) .here sz25 (Z4 (Ts' := [tIs (.bool ((ofI (q + X4 (atT (stT (Q7 ts)) j).coef)).neg)), tSl X8 ((ofI (q + X4 (atT (stT (Q7 ts)) j).coef)).abs), tIs (.int .i64 (((atT (stT (Q7 ts)) i).exp).a)), tIs (.int .i64 (((atT (stT (Q7 ts)) i).exp).b)), tIs (.int .i64 (((atT (stT (Q7 ts)) i).exp).c)), tIs (.int .i64 (((atT (stT (Q7 ts)) i).exp).d))]) (o := 0) rfl) (J.e (JC.region (J.M rfl rfl ?_)))
      refine J.o (Z6 (.t rfl) .is (w64 (by omega) (by omega))) rfl (J.A rfl rfl (J.nil (JQ.block_normal ?_)))
      exact JQ.round2 (i := j) (i2 := q) (j + 1) (q + X4 (atT (stT (Q7 ts)) j).coef) ⟨by omega, by omega, by rw [← hrun]; exact sumRun_step (by omega) hs49.2, sum_next hq (hd _ hmj) (hz _ hmj)⟩ (by omega) (Q8 (X3 (.k (.k .nil))) (Z3 ⟨.t rfl, .t rfl, .t rfl, .eq (.t rfl) (by first | rfl | (congr 3; omega) | (congr 2; omega)), .t rfl, .t rfl, .t rfl, .t rfl, .t rfl, .t rfl, .t rfl, .t rfl, .t rfl, .t rfl, .t rfl, trivial⟩))
     ·try simp only [bsx] at hc6
      have hs49 := hc6
      have hst := sumRun_stop (c := q) (show ¬ j < (stT (Q7 ts)).length ∨ ¬ (atT (stT (Q7 ts)) j).exp = (atT (stT (Q7 ts)) i).exp from hs49.imp (fun h => by omega) id)
      rw [hrun] at hst
      have hlt : i < j := by rcases Nat.lt_or_eq_of_le hij with h | h; exact h; subst h; rcases hs49 with q | q; omega; exact absurd rfl q
      refine JC.exit (JQ.then_exit (JQ.then_exit (JQ.block_exit (JQ.then_normal (JC.g (J.o (ofa (.t rfl) fd97_0) rfl (J.o (oa (.t rfl) (.head _) ag25 (Q6 (g := zT) (y := (ofI q)) rfl rfl)) rfl ?_)))))))
      refine J.o (X9 (T' := tIs (.int .i64 (sgn q))) (oc fn35 (intSign_c (ofI q) (by omega)) (.cons (.t rfl) .nil)) (by rw [Y9])) rfl (J.o (ot_neq (.t rfl) .is) rfl (J.e ?_))
      refine JC.cond (.t rfl) (fun hc7 => ?_) (fun hc7 => ?_)
      ·try simp only [bsx] at hc7
       have hs64 := hc7
       refine JC.region (J.M rfl rfl (J.o (oa (.t rfl) (.head _) ag97 (Q6 (g := tmT) (y := (Tm.mk (ofI q) ((atT (stT (Q7 ts)) i).exp))) rfl rfl)) rfl ?_))
       refine J.o (K6 (E := X5) (zs := [Tm.mk (ofI q) ((atT (stT (Q7 ts)) i).exp)]) R3 (.cons (.t rfl) .nil) rfl zr97 rfl (by decide) (by decide)) rfl ?_
       refine J.append0 (E := X5) (ys := [Tm.mk (ofI q) ((atT (stT (Q7 ts)) i).exp)]) (.sub (.t rfl) nil_z) (.t rfl) (by simp) R3 rfl zr97 rfl (by simp <;> omega) (by simp <;> omega) (ltN rfl) fun b68 c68 => (J.A rfl rfl (J.nil (JQ.block_normal ?_)))
       have hq0 : ¬ q = 0 := fun h => hs64 (by rw [h]; rfl)
       have hO0 := hOe rfl
       exact JQ.round5 (i := true) (i2 := i) (i3 := O) (i4 := b) (i5 := c) false j (O ++ [Tm.mk (ofI q) ((atT (stT (Q7 ts)) i).exp)]) b68 c68 ⟨hjl, merge_yes (by omega) hO hst hq0, by simp; omega, fun h => by cases h⟩ (by omega) (Q8 (X3 (.keep (K8 (by rw [hO0]; rfl)) (.drop (.k .nil)))) (Z3 ⟨.t rfl, .t rfl, .eq (.t rfl) (by rw [hO0]; rfl), .t rfl, trivial⟩))
      ·try simp only [bsx] at hc7
       have hs64 := hc7
       refine JC.skip (JQ.block_normal ?_)
       have hq0 : q = 0 := by rcases N0 q with h | h | h <;> omega
       exact JQ.round5 (i := true) (i2 := i) (i3 := O) (i4 := b) (i5 := c) true j O 0 0 ⟨hjl, merge_no (by omega) hO hst hq0, by omega, fun _ => hOe rfl⟩ (by omega) (Q8 (X3 (.drop (.k .nil))) (Z3 ⟨.t rfl, .t rfl, .t rfl, .t rfl, trivial⟩))
    ·try simp only [bsx] at hc5
     have hs29 := hc5
     refine JC.exit (JQ.then_exit (JQ.then_exit (JQ.block_exit (JQ.then_normal (JC.g (J.M rfl rfl ?_))))))
     refine J.o (oc fn113 (clip_c ([]) (by simp)) (.cons (.sub (.t rfl) nil_sl) .nil)) rfl (J.A rfl rfl (J.e (JC.ret ?_)))
     exact (JQ.retL1 rfl (.head _) (fun _ _ h => h) (.eq (.t rfl) (by rw [← normS_st, ← merge_end (by omega) hO mergeT_nil, hOe rfl]))).1
 ·change JC _ _ _ [(2, tSl X5 ([])), (3, tIs (.slice none 0 0)), (9, sIs pb 0 (ts.length) pc), (10, tIs (.int .i64 (((ts.length : Nat) : Int)))), (11, tIs (.int .i64 (k : Int)))] [⟨pb, 97, Y5 X5 ts pq⟩]
  obtain ⟨hk, he⟩ := hinv
  have hkk := keepT_len (ts.take k)
  rw [List.length_take] at hkk
  refine (JC.g (J.o (Y6 (.t rfl) (.t rfl)) rfl (J.e (JC.seq ?_))))
  refine JC.cond (.t rfl) (fun hc8 => ?_) (fun hc8 => ?_)
  ·try simp only [bsx] at hc8
   have hs12 := hc8
   refine JC.skip (JQ.then_normal (JC.seq (JC.block (JC.g ?_))))
   refine J.o (X9 (T' := X7 pb (0 + k * 6)) (oix (.t rfl) (.t rfl) R3 (by omega) (by omega)) (Z7 (by omega))) rfl (J.o (oa (.t rfl) (.head _) ag97 (row_agg rfl (atT_some (by omega)))) rfl ?_)
   refine J.alloc (R := cTs [tIs (.bool false), tSl X8 ([]), tIs (.int .i64 0), tIs (.int .i64 0), tIs (.int .i64 0), tIs (.int .i64 0)]) zr97 (fun _ => ⟨rfl, rfl, Q9 _ _, rfl, rfl, rfl, rfl, rfl, rfl, rfl, rfl, rfl, trivial⟩) (ltN rfl) fun b5 => ?_
   refine J.store (.t rfl) (.eq (.t rfl) (K2 (Ts := [tIs (.bool ((atT ts k).coef.neg)), tSl X8 ((atT ts k).coef.abs), tIs (.int .i64 (((atT ts k).exp).a)), tIs (.int .i64 (((atT ts k).exp).b)), tIs (.int .i64 (((atT ts k).exp).c)), tIs (.int .i64 (((atT ts k).exp).d))]) rfl)) .here sz97 (Z4 (Ts' := [tIs (.bool ((atT ts k).coef.neg)), tSl X8 ((atT ts k).coef.abs), tIs (.int .i64 (((atT ts k).exp).a)), tIs (.int .i64 (((atT ts k).exp).b)), tIs (.int .i64 (((atT ts k).exp).c)), tIs (.int .i64 (((atT ts k).exp).d))]) (o := 0) rfl) (J.e (JC.seq ?_))
   refine JC.weak (sub_freezeP (R' := cEnc X5 (atT ts k)) [5] ⟨rfl, trivial⟩ .here (cTs_F (f := tmT) (x := atT ts k) rfl rfl)) (JC.region (J.o (ofp (R' := cDrop (cEnc X5 (atT ts k)) 2) (.t rfl) fd97_1 (fun _ _ h => cDrop_mk h)) rfl ?_))
   refine J.o (ot_sliceA (.t rfl) ar4_95 tm_exp) rfl ?_
   refine J.o (oc fn109 (min_c ((atT ts k).exp.list) (by simp [Mo.list])) (.cons (.t rfl) .nil)) rfl (J.o (ot_geq (.t rfl) .is) rfl (J.e ?_))
   refine JC.cond (.t rfl) (fun hc9 => ?_) (fun hc9 => ?_)
   ·try simp only [bsx] at hc9
    have hs18 := hc9
    refine JC.region (J.M rfl rfl (J.o (lda (.t rfl) ag97 V0) rfl ?_))
    refine J.o (K6 (E := X5) (zs := [atT ts k]) R3 (.cons (.t rfl) .nil) rfl zr97 rfl (by decide) (by decide)) rfl ?_
    refine J.append0 (E := X5) (ys := [atT ts k]) (.sub (.t rfl) nil_z) (.t rfl) (by simp) R3 rfl zr97 rfl (by simp <;> omega) (by simp <;> omega) (ltN rfl) fun b22 c22 => (J.A rfl rfl (J.nil (JQ.block_normal (JQ.then_normal (JC.region ?_)))))
    refine J.o (Z6 (.t rfl) .is (w64 (by omega) (by omega))) rfl (J.M rfl rfl (J.nil ?_))
    have hyes := keepT_yes (show k < ts.length by omega) (okT_iff.2 hs18)
    rw [he rfl, List.nil_append] at hyes
    exact JQ.round4 (i := true) (i2 := k) (i3 := b) (i4 := c) false (k + 1) b22 c22 ⟨by omega, fun h => by cases h⟩ (by omega) (Q8 (X3 (.keep (K8 hyes) (.k .nil))) (Z3 ⟨.t rfl, .eq (.t rfl) (by rw [hyes]), .t rfl, .t rfl, .eq (.t rfl) (by first | rfl | (congr 3; omega) | (congr 2; omega)), trivial⟩))
   ·try simp only [bsx] at hc9
    have hs18 := hc9
    refine JC.skip (JQ.block_normal (JQ.then_normal (JC.region ?_)))
    refine J.o (Z6 (.t rfl) .is (w64 (by omega) (by omega))) rfl (J.M rfl rfl (J.nil ?_))
    have hno := keepT_no (show k < ts.length by omega) (fun h => hs18 (okT_iff.1 h))
    exact JQ.round4 (i := true) (i2 := k) (i3 := b) (i4 := c) true (k + 1) 0 0 ⟨by omega, fun _ => hno ▸ he rfl⟩ (by omega) (Q8 (X3 (.k .nil)) (Z3 ⟨.t rfl, .t rfl, .t rfl, .t rfl, .eq (.t rfl) (by first | rfl | (congr 3; omega) | (congr 2; omega)), trivial⟩))
  ·try simp only [bsx] at hc8
   have hs12 := hc8
   have hkt : Q7 (ts.take k) = Q7 ts := by rw [List.take_of_length_le (by omega)]
   refine JC.exit (JQ.then_exit (JQ.then_exit (JQ.block_exit (JQ.then_normal (JC.g (J.M rfl rfl ?_))))))
   refine J.o (oc fn110 (sort0_c  ) (.cons (.t rfl) (.cons (.func (fun _ => rfl)) .nil))) rfl (J.e (JC.g ?_))
   refine J.a .is rfl (J.e (JC.seq (JC.g ?_)))
   refine J.a .is rfl (J.e (JC.block ?_))
   refine JC.loop (ι := Nat) (fun i => [(2, tSl X5 ([])), (3, tIs (.slice none 0 0)), (6, tIs (.slice none 0 0)), (7, tIs (.int .i64 0))]) (fun i => [⟨pb, 97, Y5 X5 ts pq⟩]) (fun i => i = 0) (fun i => i) 0 (by omega) ?lsub4 ?round4
   case lsub4 => exact Q8 (X3 (.k .nil)) (Z3 ⟨.t rfl, .t rfl, .t rfl, .t rfl, trivial⟩)
   intro i hinv
   refine JC.seq (JC.g (J.M rfl rfl (J.M rfl rfl ?_)))
   refine J.o (ot_len_nil (.t rfl) R3 rfl) rfl (J.o (Y6 (.t rfl) (.t rfl)) rfl (J.e ?_))
   refine JC.cond_false (.eq (.t rfl) (by rfl)) ?_
   refine JC.exit (JQ.then_exit (JQ.then_exit (JQ.block_exit (JQ.then_normal (JC.g (J.M rfl rfl ?_))))))
   refine J.o (oc fn113 (clip_c ([]) (by simp)) (.cons (.sub (.t rfl) nil_sl) .nil)) rfl (J.A rfl rfl (J.e (JC.ret ?_)))
   exact (JQ.retL1 rfl (.head _) (fun _ _ h => h) (.eq (.t rfl) (by rw [← normS_st, ← hkt, he rfl]; exact congrArg _ mergeT_nil.symm))).1

theorem sptermsLG_c {B : Nat} (pb pc pq : Nat) (ts : List Tm) (hl : ts.length ≤ 4294967295) (hd : ∀ t ∈ ts, U7 t.coef.abs) (hz : ∀ t ∈ ts, t.coef.abs.length ≤ B) (hb : B ≤ 1000000000000) : CtrL Try.prog 71 [sIs pb 0 (ts.length) pc] pb 97 (Y5 X5 ts pq) (Y5 X5 ts pq) (tClo 102 [tPtr (cTs [tSl X5 (Q4 ts)])]) := by
 refine CtrL.of Try.func71 rfl Try.ntmps71 (Nat.le_of_ble_eq_true rfl) fun w0 M0 => (JC.g ?_)
 refine J.a .is rfl (J.e (JC.g (J.M rfl rfl ?_)))
 refine J.callL (R' := Y5 X5 ts pq) (Us := []) (cap := []) fn93 (.func (fun _ => rfl)) (normLG_c pb pc pq ts hl hd hz hb) (.cons (.t rfl) .nil) (fun _ => trivial) .here (ltN rfl) ?_
 refine J.alloc (R := cTs [tSl X5 ([])]) zr54 (fun _ => ⟨Q9 _ _, rfl, trivial⟩) (ltN rfl) fun b3 => ?_
 refine J.store (.t rfl) (.t rfl) .here sz54 (st_cell (o := 0) one_sl rfl) (J.e (JC.seq ?_))
 refine JC.weak (sub_freezeP (R' := cTs [tSl X5 (Q4 ts)]) [3] ⟨rfl, trivial⟩ .here (fun _ _ h => h)) (JC.region ?_)
 refine J.o (ot_clo (.cons (.t rfl) .nil)) rfl (J.A rfl rfl (J.e (JC.ret ?_)))
 exact (JQ.retL1 rfl (.head _) (fun _ _ h => h) (.t rfl)).1

theorem contN_c {B : Nat} (pb pc pq : Nat) (ts : List Tm) (hl : ts.length ≤ 4294967295) (hd : ∀ t ∈ ts, U7 t.coef.abs) (hz : ∀ t ∈ ts, t.coef.abs.length ≤ B) (hb : B ≤ 1000000000000) (hz2 : ∀ t ∈ Q4 ts, t.coef.abs.length ≤ 100000000000) : CtrL Try.prog 99 [sIs pb 0 (ts.length) pc] pb 97 (Y5 X5 ts pq) (Y5 X5 ts pq) (tV R9 (ofI (contS ts))) := by
 have hnl : (Q4 ts).length ≤ 4294967296 := Nat.le_trans (normS_len ts) (by omega)
 refine CtrL.ofM Try.func99 rfl Try.ntmps99 (Nat.le_of_ble_eq_true rfl) fun w0 M0 => (JC.g ?_)
 refine J.alloc (R := cTs [tIs (.bool false), tSl X8 ([])]) zr25 (fun _ => ⟨rfl, rfl, Q9 _ _, rfl, trivial⟩) (ltN rfl) fun b2 => (J.e (JC.g ?_))
 refine J.o (oc fn37 (intOf_c 0 (by omega)) (.cons .is .nil)) rfl ?_
 refine J.alloc (R := cTs [tIs (.bool false), tSl X8 ([])]) zr25 (fun _ => ⟨rfl, rfl, Q9 _ _, rfl, trivial⟩) (ltN rfl) fun b3 => ?_
 refine J.store (.t rfl) (.eq (.t rfl) (K2 (Ts := (iT (ofI 0))) rfl)) .here sz25 (Z4 (Ts' := (iT (ofI 0))) (o := 0) rfl) (J.e (JC.seq (JC.g (J.M rfl rfl ?_))))
 refine J.callL (R' := Y5 X5 ts pq) (Us := []) (cap := []) fn71 (.func (fun _ => rfl)) (sptermsLG_c pb pc pq ts hl hd hz hb) (.cons (.t rfl) .nil) (fun _ => trivial) (.there (.there .here)) (ltN rfl) (J.e (JC.block ?_))
 refine JC.rangeFunc (ps := [9, 10]) (f := 102) (Us := [tPtr (cTs [tSl X5 (Q4 ts)])]) (n := (Q4 ts).length) (Ts := fun k => [tV encMo ((atT (Q4 ts) k).exp), tV R9 (ofI (X4 (atT (Q4 ts) k).coef))]) (Γ0 := [(2, X7 b2 0), (3, X7 b3 0), (8, tClo 102 [tPtr (cTs [tSl X5 (Q4 ts)])])]) (fun k => [⟨b3, 25, cTs (iT (ofI (gcdT ((Q4 ts).take k))))⟩, ⟨b2, 25, cTs [tIs (.bool false), tSl X8 ([])]⟩, ⟨pb, 97, Y5 X5 ts pq⟩]) (.t rfl) fn102 (termsY (Q4 ts) hnl (fun t h => Nat.le_trans (hz2 t h) (by omega))) rfl ?rs0 (fun _ => rfl) rfl (fun _ => rfl) ?rr0 ?rd0
 case rs0 => exact Q8 (X3 (.keep (fun _ _ h => by first | exact h | simpa using h) (.k (.k .nil)))) (Z3 ⟨.t rfl, .t rfl, .t rfl, trivial⟩)
 case rr0 =>
  intro k hk l w0 M0 L Q1 hend1
  have hgl := gcdT_lenB normS_ofI hz2 (k := k) (by omega)
  have hmk := coefB (normS_ofI (atT_mem hk)) (hz2 _ (atT_mem hk))
  refine JCR.weak (Γ' := [(10, tV R9 (ofI (X4 (atT (Q4 ts) k).coef))), (9, tV encMo ((atT (Q4 ts) k).exp)), (2, X7 b2 0), (3, X7 b3 0), (8, tClo 102 [tPtr (cTs [tSl X5 (Q4 ts)])])]) (H' := [⟨b3, 25, cTs (iT (ofI (gcdT ((Q4 ts).take k))))⟩, ⟨b2, 25, cTs [tIs (.bool false), tSl X8 ([])]⟩, ⟨pb, 97, Y5 X5 ts pq⟩]) (fun _ _ h => h) ?_
  refine JCR.region ?_
  refine J.alloc (R := cTs [tIs (.bool false), tSl X8 ([])]) zr25 (fun _ => ⟨rfl, rfl, Q9 _ _, rfl, trivial⟩) (ltN rfl) fun b5 => ?_
  refine J.store (.t rfl) (.eq (.t rfl) (K2 (Ts := (iT (ofI (X4 (atT (Q4 ts) k).coef)))) rfl)) .here sz25 (Z4 (Ts' := (iT (ofI (X4 (atT (Q4 ts) k).coef)))) (o := 0) rfl) (J.nil ?_)
  refine hend1 _ _ fun w1 M1 L1 Q2 hend2 => ?_
  refine JCR.block (JCR.region (J.o (oa (.t rfl) (.tail _ (.head _)) ag25 (Q6 (g := zT) (y := (ofI (gcdT ((Q4 ts).take k)))) rfl rfl)) rfl (J.o (oa (.t rfl) (.head _) ag25 (Q6 (g := zT) (y := (ofI (X4 (atT (Q4 ts) k).coef))) rfl rfl)) rfl ?_)))
  refine J.o (X9 (T' := tV R9 (ofI (Int.gcd (gcdT ((Q4 ts).take k)) (X4 (atT (Q4 ts) k).coef)))) (oc fn117 (dgcdG_c (ofI (gcdT ((Q4 ts).take k))) (ofI (X4 (atT (Q4 ts) k).coef)) (Nat.le_trans hgl (by omega)) (Nat.le_trans hmk (by omega))) (.cons (.t rfl) (.cons (.t rfl) .nil))) (by rw [Y9, Y9])) rfl ?_
  refine J.store (.t rfl) (.eq (.t rfl) (K2 (Ts := (iT (ofI (Int.gcd (gcdT ((Q4 ts).take k)) (X4 (atT (Q4 ts) k).coef))))) rfl)) (.there .here) sz25 (Z4 (Ts' := (iT (ofI (Int.gcd (gcdT ((Q4 ts).take k)) (X4 (atT (Q4 ts) k).coef))))) (o := 0) rfl) (J.nil (JQ.block_normal ?_))
  exact JQ.weak (Q8 (X3 (.drop (.keep (fun _ _ h => by rw [← gcdT_step hk]; exact h) (.k (.k .nil))))) sub_nil) hend2
 case rd0 =>
  intro D w1 M1 L1 hrb
  refine JQ.block_normal (JQ.then_normal (JC.g (J.o (oa (.t rfl) (.head _) ag25 (Q6 (g := zT) (y := (ofI (gcdT ((Q4 ts).take ((Q4 ts).length))))) rfl rfl)) rfl ?_)))
  refine J.store (.t rfl) (.eq (.t rfl) (K2 (Ts := (iT (ofI (gcdT ((Q4 ts).take ((Q4 ts).length)))))) rfl)) (.there .here) sz25 (Z4 (Ts' := (iT (ofI (gcdT ((Q4 ts).take ((Q4 ts).length)))))) (o := 0) rfl) (J.e (JC.ret ?_))
  exact JQ.retML1_ret hrb rfl (.tail _ (.tail _ (.head _))) (fun _ _ h => h) (.agg (.t rfl) (.tail _ (.head _)) ag25 (U3 (T := tV R9 (ofI (gcdT ((Q4 ts).take ((Q4 ts).length))))) (T' := tV R9 (ofI (contS ts))) (by rw [contS, List.take_length]) (Q6 (g := zT) (y := (ofI (gcdT ((Q4 ts).take ((Q4 ts).length))))) rfl rfl)))

end Go.Proofs.Ytcbnpddeiaccbaa
