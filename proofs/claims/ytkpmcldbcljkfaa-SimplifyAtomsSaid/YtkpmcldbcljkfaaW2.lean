/- Walks through the program: each function called at values of the kinds that its contract names returns what the contract says. Conditions: those in the contracts. Written by the program wip/gen. -/
import Derived.Test.YtkpmcldbcljkfaaW1
set_option linter.unusedVariables false
set_option linter.unusedSimpArgs false
set_option maxRecDepth 100000
set_option maxHeartbeats 4000000
namespace Go.Proofs.Ytkpmcldbcljkfaa
open Go Go.RowKit Go.Rt
theorem add_c {B : Nat} (k : Nat) (p q : Pol) (lp : Lev k p) (lq : Lev k q) (hp : Fit B p) (hq : Fit B q) (hb : B ≤ 1000000000000) : Ctr Try.prog 46 [tV encP (p), tV encP (q)] (tV encP (addF k p q)) := by
  induction k using Nat.strongRecOn generalizing p q
  rename_i k ih
  have h1 := lp.lv
  have h2 := lq.lv
  have hpc := hp.c
  have hqc := hq.c
  have hps := hp.cs
  have hqs := hq.cs
  refine Ctr.of Try.func46 rfl Try.ntmps46 (Nat.le_of_ble_eq_true rfl) fun w0 M0 => ?_
  refine JC.seq (JC.region ?_)
  refine J.boxF (Ts := [tIs (.int .i64 (p.lv)), tIs (.bool (p.c.neg)), tSl encD (p.c.abs), tSl encP (p.cs)]) (.tmp rfl) (polT_eq _) (ltN rfl) fun b2 => ?_
  refine J.boxF (Ts := [tIs (.int .i64 (q.lv)), tIs (.bool (q.c.neg)), tSl encD (q.c.abs), tSl encP (q.cs)]) (.tmp rfl) (polT_eq _) (ltN rfl) fun b3 => ?_
  refine J.alloc (R := cTs [tIs (.int .i64 (0)), tIs (.bool (false)), tSl encD ([]), tSl encP ([])]) zr28 (fun _ => ⟨rfl, rfl, rfl, rfl, slP_nil _ _, rfl, slP_nil _ _, rfl, trivial⟩) (ltN rfl) fun b4 => ?_
  refine J.nil (JQ.then_normal (JC.seq (JC.region ?_)))
  refine J.o (ot_fieldAddr_own (.tmp rfl) fd28_0) rfl ?_
  refine J.o (ot_load_own (.tmp rfl) (.tail _ (.tail _ (.head _))) sc3 (cTs_ld rfl)) rfl ?_
  refine J.o (ot_fieldAddr_own (.tmp rfl) fd28_0) rfl ?_
  refine J.o (ot_load_own (.tmp rfl) (.tail _ (.head _)) sc3 (cTs_ld rfl)) rfl ?_
  refine J.o (ot_max (.tmp rfl) (.tmp rfl)) rfl ?_
  refine J.a (.tmp rfl) rfl ?_
  refine J.nil (JQ.then_normal (JC.seq (JC.seq (JC.region ?_))))
  refine J.m (.tmp rfl) rfl ?_
  refine J.o (ot_eql (.tmp rfl) .is) rfl ?_
  refine J.nil (JQ.then_normal ?_)
  refine JC.cond (.tmp rfl) (fun hc0 => ?_) (fun hc0 => ?_)
  · try simp only [bsx] at hc0
    have hs12 := hc0
    refine JC.seq (JC.region ?_)
    refine J.o (ot_fieldAddr_own (.tmp rfl) fd28_1) rfl ?_
    refine J.o (ot_load_own_agg (.tmp rfl) (.tail _ (.tail _ (.head _))) ag25 (cTs_ldV (g := zT) (y := p.c) rfl rfl)) rfl ?_
    refine J.o (ot_fieldAddr_own (.tmp rfl) fd28_1) rfl ?_
    refine J.o (ot_load_own_agg (.tmp rfl) (.tail _ (.head _)) ag25 (cTs_ldV (g := zT) (y := q.c) rfl rfl)) rfl ?_
    refine J.o (ot_call fn48 (intAdd_c p.c q.c (by omega) (by omega)) (.cons (.tmp rfl) (.cons (.tmp rfl) .nil))) rfl ?_
    refine J.o (ot_eqt (T' := tV encP (Pol.mk (0) (ofI (zval p.c + zval q.c)) ([]))) (ot_build (Ts := [tIs (.int .i64 (0)), tIs (.bool (false)), tSl encD ([]), tSl encP ([])]) pl28 (fun _ => ⟨rfl, rfl, rfl, rfl, slP_nil _ _, rfl, slP_nil _ _, rfl, trivial⟩) ((.agg (off := 1) rfl (.eq (.tmp rfl) (tV_F (Ts := [tIs (.bool ((ofI (zval p.c + zval q.c)).neg)), tSl encD ((ofI (zval p.c + zval q.c)).abs)]) rfl)) (Ts' := [tIs (.int .i64 (0)), tIs (.bool ((ofI (zval p.c + zval q.c)).neg)), tSl encD ((ofI (zval p.c + zval q.c)).abs), tSl encP ([])]) rfl rfl .nil)) rfl) (tV_F' (polT_eq _))) rfl ?_
    refine J.store (.tmp rfl) (.eq (.tmp rfl) (tV_F (Ts := [tIs (.int .i64 (0)), tIs (.bool ((ofI (zval p.c + zval q.c)).neg)), tSl encD ((ofI (zval p.c + zval q.c)).abs), tSl encP ([])]) (polT_eq _))) .here sz28 (st_agg (Ts' := [tIs (.int .i64 (0)), tIs (.bool ((ofI (zval p.c + zval q.c)).neg)), tSl encD ((ofI (zval p.c + zval q.c)).abs), tSl encP ([])]) (o := 0) rfl) ?_
    refine J.nil (JQ.then_normal (JC.ret (JQ.then_ret ?_)))
    exact JQ.ret1 rfl (.agg (.tmp rfl) (.head _) ag28 (agg_eq (T := tV encP (Pol.mk (0) (ofI (zval p.c + zval q.c)) ([]))) (T' := tV encP (addF k p q)) (by rw [← addF_const hc0]; rfl) (cTs_ldV (g := polT) (y := (Pol.mk (0) (ofI (zval p.c + zval q.c)) ([]))) (polT_eq (Pol.mk (0) (ofI (zval p.c + zval q.c)) ([]))).symm rfl)))
  · try simp only [bsx] at hc0
    have hs12 := hc0
    obtain ⟨m, hm⟩ : ∃ m, k = m + 1 := ⟨k - 1, by omega⟩
    obtain ⟨⟨a1, a2, a3⟩, a4, a5, a6, a7⟩ := add_parts (hm ▸ lp) (hm ▸ lq) hp hq hc0
    refine JC.skip (JQ.then_normal (JC.seq ?_))
    refine JC.drawAt (Γ' := ?g1) 10 mo (by kernel_rfl) ?tw1 ?k1
    case tw1 =>
      refine TW.m (.tmp rfl) rfl ?_
      refine TW.o (ot_load_own_agg (.tmp rfl) (.tail _ (.tail _ (.head _))) ag28 (cTs_ldV (g := polT) (y := p) (polT_eq p).symm rfl)) rfl ?_
      refine TW.m (.tmp rfl) rfl ?_
      refine TW.o (ot_call fn65 (coefs_c p (max (p.lv) (q.lv)) hps) (.cons (.tmp rfl) (.cons (.tmp rfl) .nil))) rfl ?_
      refine TW.o (ot_load_own_agg (.tmp rfl) (.tail _ (.head _)) ag28 (cTs_ldV (g := polT) (y := q) (polT_eq q).symm rfl)) rfl ?_
      refine TW.m (.tmp rfl) rfl ?_
      refine TW.o (ot_call fn65 (coefs_c q (max (p.lv) (q.lv)) hqs) (.cons (.tmp rfl) (.cons (.tmp rfl) .nil))) rfl ?_
      refine TW.o (ot_buildSlice (E := (encSl encP)) (zs := [coefsP p (max (p.lv) (q.lv)), coefsP q (max (p.lv) (q.lv))]) sl112 (.cons (.sub (.tmp rfl) encSl_in) (.cons (.sub (.tmp rfl) encSl_in) .nil)) rfl zr26 rfl (by decide) (by decide)) rfl ?_
      refine TW.o (ot_call fn64 (sum_c (addF m) (coefsP p (max (p.lv) (q.lv))) (coefsP q (max (p.lv) (q.lv))) (fun x hx y hy => ih m (by omega) x y (a4 x hx).1 (a5 y hy).1 (a4 x hx).2 (a5 y hy).2) ⟨a1, a2⟩ a3) (.cons (.tmp rfl) .nil)) rfl ?_
      refine TW.o (ot_call fn55 (join_c (max (p.lv) (q.lv)) (zipP (addF m) (coefsP p (max (p.lv) (q.lv))) (coefsP q (max (p.lv) (q.lv)))) a6 (fun z hz => Nat.le_trans (a7 z hz).c (by omega))) (.cons (.tmp rfl) (.cons (.tmp rfl) .nil))) rfl ?_
      exact TW.nil
    refine J.store (.tmp rfl) (.eq (.tmp rfl) (tV_F (Ts := [tIs (.int .i64 ((joinP (max (p.lv) (q.lv)) (zipP (addF m) (coefsP p (max (p.lv) (q.lv))) (coefsP q (max (p.lv) (q.lv))))).lv)), tIs (.bool (((joinP (max (p.lv) (q.lv)) (zipP (addF m) (coefsP p (max (p.lv) (q.lv))) (coefsP q (max (p.lv) (q.lv))))).c).neg)), tSl encD (((joinP (max (p.lv) (q.lv)) (zipP (addF m) (coefsP p (max (p.lv) (q.lv))) (coefsP q (max (p.lv) (q.lv))))).c).abs), tSl encP ((joinP (max (p.lv) (q.lv)) (zipP (addF m) (coefsP p (max (p.lv) (q.lv))) (coefsP q (max (p.lv) (q.lv))))).cs)]) (polT_eq _))) .here sz28 (st_agg (Ts' := [tIs (.int .i64 ((joinP (max (p.lv) (q.lv)) (zipP (addF m) (coefsP p (max (p.lv) (q.lv))) (coefsP q (max (p.lv) (q.lv))))).lv)), tIs (.bool (((joinP (max (p.lv) (q.lv)) (zipP (addF m) (coefsP p (max (p.lv) (q.lv))) (coefsP q (max (p.lv) (q.lv))))).c).neg)), tSl encD (((joinP (max (p.lv) (q.lv)) (zipP (addF m) (coefsP p (max (p.lv) (q.lv))) (coefsP q (max (p.lv) (q.lv))))).c).abs), tSl encP ((joinP (max (p.lv) (q.lv)) (zipP (addF m) (coefsP p (max (p.lv) (q.lv))) (coefsP q (max (p.lv) (q.lv))))).cs)]) (o := 0) rfl) ?_
    refine J.nil (JQ.then_normal (JC.ret ?_))
    exact JQ.ret1 rfl (.agg (.tmp rfl) (.head _) ag28 (agg_eq (T := tV encP (joinP (max (p.lv) (q.lv)) (zipP (addF m) (coefsP p (max (p.lv) (q.lv))) (coefsP q (max (p.lv) (q.lv)))))) (T' := tV encP (addF k p q)) (by rw [hm, addF_join hc0]) (cTs_ldV (g := polT) (y := (joinP (max (p.lv) (q.lv)) (zipP (addF m) (coefsP p (max (p.lv) (q.lv))) (coefsP q (max (p.lv) (q.lv)))))) (polT_eq (joinP (max (p.lv) (q.lv)) (zipP (addF m) (coefsP p (max (p.lv) (q.lv))) (coefsP q (max (p.lv) (q.lv)))))).symm rfl)))

theorem cmpMono_c (m n : Mo) : Ctr Try.prog 60 [tV encMo (m), tV encMo (n)] (tIs (.int .i64 (cmpMo m n))) := by
  refine Ctr.of Try.func60 rfl Try.ntmps60 (Nat.le_of_ble_eq_true rfl) fun w0 M0 => ?_
  refine JC.seq (JC.region ?_)
  refine J.boxF (Ts := [tIs (.int .i64 (m.a)), tIs (.int .i64 (m.b)), tIs (.int .i64 (m.c)), tIs (.int .i64 (m.d))]) (.tmp rfl) rfl (ltN rfl) fun b2 => ?_
  refine J.boxF (Ts := [tIs (.int .i64 (n.a)), tIs (.int .i64 (n.b)), tIs (.int .i64 (n.c)), tIs (.int .i64 (n.d))]) (.tmp rfl) rfl (ltN rfl) fun b3 => ?_
  refine J.a .is rfl ?_
  refine J.nil (JQ.then_normal (JC.seq (JC.seq (JC.region ?_))))
  refine J.a .is rfl ?_
  refine J.nil (JQ.then_normal (JC.block ?_))
  refine JC.loop (ι := Nat) (fun k => [(2, pOwn b2 (0)), (3, pOwn b3 (0)), (5, tIs (.int .i64 (((k : Nat) : Int) - 1)))]) (fun k => [⟨b3, 61, cTs [tIs (.int .i64 (n.a)), tIs (.int .i64 (n.b)), tIs (.int .i64 (n.c)), tIs (.int .i64 (n.d))]⟩, ⟨b2, 61, cTs [tIs (.int .i64 (m.a)), tIs (.int .i64 (m.b)), tIs (.int .i64 (m.c)), tIs (.int .i64 (m.d))]⟩]) (fun k => k ≤ 4 ∧ cmpTo k m n = cmpMo m n) (fun k => k) 4 ⟨by omega, rfl⟩ ?lsub0 ?round0
  case lsub0 => exact sub_trans (sub_heap (.keep (fun _ _ h => h) (.keep (fun _ _ h => h) .nil))) (sub_cons (.tmp rfl) (sub_cons (.tmp rfl) (sub_cons (.eq (.tmp rfl) (by first | rfl | (congr 3; omega) | (congr 2; omega))) (sub_nil))))
  intro k hinv
  obtain ⟨hk, hv⟩ := hinv
  refine JC.seq (JC.seq (JC.region ?_))
  refine J.m (.tmp rfl) rfl ?_
  refine J.o (ot_geq (.tmp rfl) .is) rfl ?_
  refine J.nil (JQ.then_normal ?_)
  refine JC.cond (.tmp rfl) (fun hc0 => ?_) (fun hc0 => ?_)
  · try simp only [bsx] at hc0
    have hs7 := hc0
    refine JC.skip (JQ.then_normal (JC.seq (JC.block (JC.seq (JC.seq ?_)))))
    refine JC.draw (Γ' := ?g1) mo (by kernel_rfl) ?tw1 ?k1
    case tw1 =>
      refine TW.m (.tmp rfl) rfl ?_
      refine TW.o (ot_eqt (T' := pOwn b2 (k - 1)) (ot_indexAddrA (.tmp rfl) (.tmp rfl) ar4_61 (by omega) (by omega)) (own_off2 (by omega))) rfl ?_
      refine TW.o (ot_load_own (.tmp rfl) (.tail _ (.head _)) sc3 (mo_ld (m := m) (by omega))) rfl ?_
      refine TW.m (.tmp rfl) rfl ?_
      refine TW.o (ot_eqt (T' := pOwn b3 (k - 1)) (ot_indexAddrA (.tmp rfl) (.tmp rfl) ar4_61 (by omega) (by omega)) (own_off2 (by omega))) rfl ?_
      refine TW.o (ot_load_own (.tmp rfl) (.head _) sc3 (mo_ld (m := n) (by omega))) rfl ?_
      refine TW.o (ot_lss (.tmp rfl) (.tmp rfl)) rfl ?_
      exact TW.nil
    refine JQ.then_normal ?_
    refine JC.cond (.tmp rfl) (fun hc1 => ?_) (fun hc1 => ?_)
    · try simp only [bsx] at hc1
      have hs16 := hc1
      refine JC.seq (JC.region ?_)
      refine J.a .is rfl ?_
      refine J.nil (JQ.then_normal (JC.ret (JQ.then_ret (JQ.block_ret (JQ.then_ret (JQ.then_ret (JQ.block_ret (JQ.then_ret ?_))))))))
      exact JQ.ret1 rfl (.tmp (.eq (.tmp rfl) (by rw [← hv, ← cmpTo_lt (by omega) hc1])))
    · try simp only [bsx] at hc1
      have hs16 := hc1
      refine JC.skip (JQ.then_normal (JC.seq ?_))
      refine JC.draw (Γ' := ?g2) mo (by kernel_rfl) ?tw2 ?k2
      case tw2 =>
        refine TW.m (.tmp rfl) rfl ?_
        refine TW.o (ot_eqt (T' := pOwn b2 (k - 1)) (ot_indexAddrA (.tmp rfl) (.tmp rfl) ar4_61 (by omega) (by omega)) (own_off2 (by omega))) rfl ?_
        refine TW.o (ot_load_own (.tmp rfl) (.tail _ (.head _)) sc3 (mo_ld (m := m) (by omega))) rfl ?_
        refine TW.m (.tmp rfl) rfl ?_
        refine TW.o (ot_eqt (T' := pOwn b3 (k - 1)) (ot_indexAddrA (.tmp rfl) (.tmp rfl) ar4_61 (by omega) (by omega)) (own_off2 (by omega))) rfl ?_
        refine TW.o (ot_load_own (.tmp rfl) (.head _) sc3 (mo_ld (m := n) (by omega))) rfl ?_
        refine TW.o (ot_gtr (.tmp rfl) (.tmp rfl)) rfl ?_
        exact TW.nil
      refine JQ.then_normal ?_
      refine JC.cond (.tmp rfl) (fun hc2 => ?_) (fun hc2 => ?_)
      · try simp only [bsx] at hc2
        have hs23 := hc2
        refine JC.seq (JC.region ?_)
        refine J.a .is rfl ?_
        refine J.nil (JQ.then_normal (JC.ret (JQ.block_ret (JQ.then_ret (JQ.then_ret (JQ.block_ret (JQ.then_ret ?_)))))))
        exact JQ.ret1 rfl (.tmp (.eq (.tmp rfl) (by rw [← hv, ← cmpTo_gt (by omega) hc2])))
      · try simp only [bsx] at hc2
        have hs23 := hc2
        refine JC.skip (JQ.block_normal (JQ.then_normal (JC.region ?_)))
        refine J.m (.tmp rfl) rfl ?_
        refine J.o (ot_sub (.tmp rfl) .is (w64 (by omega) (by omega))) rfl ?_
        refine J.a (.tmp rfl) rfl ?_
        refine J.nil ?_
        exact JQ.round (k - 1) ⟨by omega, by rw [← hv]; exact cmpTo_eq (by omega) hc1 hc2⟩ (by omega) (sub_trans (sub_heap (.keep (fun _ _ h => h) (.keep (fun _ _ h => h) .nil))) (sub_cons (.tmp rfl) (sub_cons (.tmp rfl) (sub_cons (.eq (.tmp rfl) (by first | rfl | (congr 3; omega) | (congr 2; omega))) (sub_nil)))))
  · try simp only [bsx] at hc0
    have hs7 := hc0
    refine JC.exit (JQ.then_exit (JQ.then_exit (JQ.block_exit (JQ.then_normal (JC.seq (JC.region ?_))))))
    refine J.a .is rfl ?_
    refine J.nil (JQ.then_normal (JC.ret ?_))
    exact JQ.ret1 rfl (.tmp (.eq (.tmp rfl) (by rw [← hv, show k = 0 by omega]; rfl)))

theorem min_c (l : List Int) (hl : 0 < l.length ∧ l.length ≤ 4294967296) : Ctr Try.prog 57 [tSl encN (l)] (tIs (.int .i64 (minL (atN l 0) (l.drop 1)))) := by
  refine Ctr.of Try.func57 rfl Try.ntmps57 (Nat.le_of_ble_eq_true rfl) fun w0 M0 => ?_
  refine JC.seq (JC.region ?_)
  refine J.a .is rfl ?_
  refine J.nil (JQ.then_normal (JC.seq (JC.seq (JC.region ?_))))
  refine J.m (.tmp rfl) rfl ?_
  refine J.o (ot_len (.tmp rfl) sl97 rfl) rfl ?_
  refine J.o (ot_lss (.tmp rfl) .is) rfl ?_
  refine J.nil (JQ.then_normal ?_)
  refine JC.cond_false (.eq (.tmp rfl) (by rw [decide_eq_false (by omega)])) ?_
  refine JC.skip (JQ.then_normal (JC.seq (JC.region ?_)))
  refine J.m (.tmp rfl) rfl ?_
  refine J.o (ot_index (z := atN l 0) (.tmp rfl) .is sl97 (by omega) (atN_at rfl (by omega))) rfl ?_
  refine J.o (ot_load (.tmp rfl) sc3 encN_ld) rfl ?_
  refine J.a (.tmp rfl) rfl ?_
  refine J.nil (JQ.then_normal (JC.seq (JC.seq (JC.region ?_))))
  refine J.a .is rfl ?_
  refine J.nil (JQ.then_normal (JC.block ?_))
  refine JC.loop2 (α := Nat) (β := Int) (fun k m => [(0, tSl encN (l)), (2, tIs (.int .i64 (0))), (3, tIs (.int .i64 (m))), (4, tIs (.int .i64 (((k : Nat) : Int))))]) (fun k m => []) (fun k m => 1 ≤ k ∧ k ≤ l.length ∧ minL m (l.drop k) = minL (atN l 0) (l.drop 1)) (fun k m => l.length - k) 1 (atN l 0) ⟨by omega, by omega, rfl⟩ ?lsub0 ?round0
  case lsub0 => exact sub_trans (sub_heap .nil) (sub_cons (.tmp rfl) (sub_cons (.tmp rfl) (sub_cons (.eq (.tmp rfl) (by first | rfl | (congr 3; omega) | (congr 2; omega))) (sub_cons (.eq (.tmp rfl) (by first | rfl | (congr 3; omega) | (congr 2; omega))) (sub_nil)))))
  intro k m hinv
  obtain ⟨hk, hk1, hv⟩ := hinv
  refine JC.seq (JC.seq (JC.region ?_))
  refine J.m (.tmp rfl) rfl ?_
  refine J.m (.tmp rfl) rfl ?_
  refine J.o (ot_len (.tmp rfl) sl97 rfl) rfl ?_
  refine J.o (ot_lss (.tmp rfl) (.tmp rfl)) rfl ?_
  refine J.nil (JQ.then_normal ?_)
  refine JC.cond (.tmp rfl) (fun hc1 => ?_) (fun hc1 => ?_)
  · try simp only [bsx] at hc1
    have hs15 := hc1
    refine JC.skip (JQ.then_normal (JC.seq (JC.block (JC.region ?_))))
    refine J.m (.tmp rfl) rfl ?_
    refine J.m (.tmp rfl) rfl ?_
    refine J.m (.tmp rfl) rfl ?_
    refine J.o (ot_index (z := atN l k) (.tmp rfl) (.tmp rfl) sl97 (by omega) (atN_at (by omega) (by omega))) rfl ?_
    refine J.o (ot_load (.tmp rfl) sc3 encN_ld) rfl ?_
    refine J.o (ot_min (.tmp rfl) (.tmp rfl)) rfl ?_
    refine J.a (.tmp rfl) rfl ?_
    refine J.nil (JQ.block_normal (JQ.then_normal (JC.region ?_)))
    refine J.m (.tmp rfl) rfl ?_
    refine J.o (ot_add (.tmp rfl) .is (w64 (by omega) (by omega))) rfl ?_
    refine J.a (.tmp rfl) rfl ?_
    refine J.nil ?_
    exact JQ.round2 (i := k) (i2 := m) (k + 1) (min m (atN l k)) ⟨by omega, by omega, by rw [← hv]; exact minL_step (by omega)⟩ (by omega) (sub_trans (sub_heap .nil) (sub_cons (.tmp rfl) (sub_cons (.tmp rfl) (sub_cons (.eq (.tmp rfl) (by first | rfl | (congr 3; omega) | (congr 2; omega))) (sub_cons (.eq (.tmp rfl) (by first | rfl | (congr 3; omega) | (congr 2; omega))) (sub_nil))))))
  · try simp only [bsx] at hc1
    have hs15 := hc1
    refine JC.exit (JQ.then_exit (JQ.then_exit (JQ.block_exit (JQ.then_normal (JC.seq (JC.region ?_))))))
    refine J.m (.tmp rfl) rfl ?_
    refine J.a (.tmp rfl) rfl ?_
    refine J.nil (JQ.then_normal (JC.ret ?_))
    exact JQ.ret1 rfl (.tmp (.eq (.tmp rfl) (by rw [← hv, minL_end (by omega)])))

theorem clip_c (ts : List Tm) (hl : ts.length ≤ 4294967296) : Ctr Try.prog 61 [tSl encTm (ts)] (tSl encTm (ts)) := by
  refine Ctr.of Try.func61 rfl Try.ntmps61 (Nat.le_of_ble_eq_true rfl) fun w0 M0 => ?_
  refine JC.seq (JC.region ?_)
  refine J.o (ot_assign (.nil (E := encTm))) rfl ?_
  refine J.nil (JQ.then_normal (JC.seq (JC.region ?_)))
  refine J.m (.tmp rfl) rfl ?_
  refine J.m (.tmp rfl) rfl ?_
  refine J.o (ot_len (.tmp rfl) sl65 rfl) rfl ?_
  refine J.m (.tmp rfl) rfl ?_
  refine J.o (ot_len (.tmp rfl) sl65 rfl) rfl ?_
  refine J.o (ot_slice3 (E := encTm) (xs := ts) (h := ts.length) (m := ts.length) (kh := .i64) (km := .i64) (.tmp rfl) sl65 (.eq (.tmp rfl) rfl) (.eq (.tmp rfl) rfl) (Nat.le_refl _) (Nat.le_refl _)) rfl ?_
  refine J.a (.tmp rfl) rfl ?_
  refine J.nil (JQ.then_normal (JC.ret ?_))
  exact JQ.ret1 rfl (.tmp (.eq (.tmp rfl) (by rw [List.take_length])))

theorem cmpT_c (x y : Tm) : Ctr Try.prog 59 [tV encTm (x), tV encTm (y)] (tIs (.int .i64 (cmpMo y.exp x.exp))) := by
  refine Ctr.of Try.func59 rfl Try.ntmps59 (Nat.le_of_ble_eq_true rfl) fun w0 M0 => ?_
  refine JC.seq (JC.region ?_)
  refine J.boxF (Ts := [tIs (.bool (x.coef.neg)), tSl encD (x.coef.abs), tIs (.int .i64 (x.exp.a)), tIs (.int .i64 (x.exp.b)), tIs (.int .i64 (x.exp.c)), tIs (.int .i64 (x.exp.d))]) (.tmp rfl) rfl (ltN rfl) fun b2 => ?_
  refine J.boxF (Ts := [tIs (.bool (y.coef.neg)), tSl encD (y.coef.abs), tIs (.int .i64 (y.exp.a)), tIs (.int .i64 (y.exp.b)), tIs (.int .i64 (y.exp.c)), tIs (.int .i64 (y.exp.d))]) (.tmp rfl) rfl (ltN rfl) fun b3 => ?_
  refine J.a .is rfl ?_
  refine J.nil (JQ.then_normal (JC.seq (JC.region ?_)))
  refine J.o (ot_fieldAddr_own (.tmp rfl) fd63_1) rfl ?_
  refine J.o (ot_load_own_agg (.tmp rfl) (.head _) ag61 (cTs_ldV (g := moT) (y := y.exp) rfl rfl)) rfl ?_
  refine J.o (ot_fieldAddr_own (.tmp rfl) fd63_1) rfl ?_
  refine J.o (ot_load_own_agg (.tmp rfl) (.tail _ (.head _)) ag61 (cTs_ldV (g := moT) (y := x.exp) rfl rfl)) rfl ?_
  refine J.o (ot_call fn60 (cmpMono_c y.exp x.exp ) (.cons (.tmp rfl) (.cons (.tmp rfl) .nil))) rfl ?_
  refine J.a (.tmp rfl) rfl ?_
  refine J.nil (JQ.then_normal (JC.ret ?_))
  exact JQ.ret1 rfl (.tmp (.tmp rfl))

theorem insert_c (b c a e : Nat) (xs : List Tm) (he : e ≤ xs.length) (ha : a ≤ e) (hl : xs.length ≤ 4294967296) : CtrL Try.prog 82 [sIs b 0 (xs.length) (c), tIs (.int .i64 (((a : Nat) : Int))), tIs (.int .i64 (((e : Nat) : Int))), tFn 59 []] b 63 (cRow encTm (xs) (c)) (cRow encTm (insT a (e - (a + 1)) (a + 1) xs) (c)) (tAny) := by
  refine CtrL.of Try.func82 rfl Try.ntmps82 (Nat.le_of_ble_eq_true rfl) fun w0 M0 => ?_
  refine JC.seq (JC.region ?_)
  refine J.m (.tmp rfl) rfl ?_
  refine J.o (ot_add (.tmp rfl) .is (w64 (by omega) (by omega))) rfl ?_
  refine J.a (.tmp rfl) rfl ?_
  refine J.nil (JQ.then_normal (JC.block ?_))
  refine JC.loop2 (α := Nat) (β := List Tm) (fun i ys => [(0, sIs b 0 (xs.length) (c)), (1, tIs (.int .i64 (((a : Nat) : Int)))), (2, tIs (.int .i64 (((e : Nat) : Int)))), (3, tFn 59 []), (8, tIs (.int .i64 (((i : Nat) : Int))))]) (fun i ys => [⟨b, 63, cRow encTm (ys) (c)⟩]) (fun i ys => a + 1 ≤ i ∧ ys.length = xs.length ∧ insT a (e - i) i ys = insT a (e - (a + 1)) (a + 1) xs) (fun i ys => e - i) (a + 1) xs ⟨by omega, rfl, rfl⟩ ?lsub0 ?round0
  case lsub0 => exact sub_trans (sub_heap (.keep (fun _ _ h => h) .nil)) (sub_cons (.tmp rfl) (sub_cons (.tmp rfl) (sub_cons (.tmp rfl) (sub_cons (.tmp rfl) (sub_cons (.eq (.tmp rfl) (by first | rfl | (congr 3; omega) | (congr 2; omega))) (sub_nil))))))
  intro i ys hinv
  obtain ⟨hi, hys, hv⟩ := hinv
  refine JC.seq (JC.seq (JC.region ?_))
  refine J.m (.tmp rfl) rfl ?_
  refine J.m (.tmp rfl) rfl ?_
  refine J.o (ot_lss (.tmp rfl) (.tmp rfl)) rfl ?_
  refine J.nil (JQ.then_normal ?_)
  refine JC.cond (.tmp rfl) (fun hc0 => ?_) (fun hc0 => ?_)
  · try simp only [bsx] at hc0
    have hs14 := hc0
    refine JC.skip (JQ.then_normal (JC.seq (JC.block (JC.seq (JC.region ?_)))))
    refine J.m (.tmp rfl) rfl ?_
    refine J.a (.tmp rfl) rfl ?_
    refine J.nil (JQ.then_normal (JC.block ?_))
    refine JC.loop2 (α := Nat) (β := List Tm) (fun j zs => [(0, sIs b 0 (xs.length) (c)), (1, tIs (.int .i64 (((a : Nat) : Int)))), (2, tIs (.int .i64 (((e : Nat) : Int)))), (3, tFn 59 []), (8, tIs (.int .i64 (((i : Nat) : Int)))), (9, tIs (.int .i64 (((j : Nat) : Int)))), (12, tIs (.int .i64 (((i : Nat) : Int)))), (13, tIs (.int .i64 (((e : Nat) : Int)))), (14, tIs (.bool (decide (((i : Nat) : Int) < ((e : Nat) : Int))))), (17, tIs (.int .i64 (((i : Nat) : Int))))]) (fun j zs => [⟨b, 63, cRow encTm (zs) (c)⟩]) (fun j zs => j ≤ i ∧ zs.length = xs.length ∧ siftT a j zs = siftT a i ys) (fun j zs => j) i ys ⟨by omega, hys, rfl⟩ ?lsub1 ?round1
    case lsub1 => exact sub_trans (sub_heap (.keep (fun _ _ h => h) .nil)) (sub_cons (.tmp rfl) (sub_cons (.tmp rfl) (sub_cons (.tmp rfl) (sub_cons (.tmp rfl) (sub_cons (.tmp rfl) (sub_cons (.tmp rfl) (sub_cons (.tmp rfl) (sub_cons (.tmp rfl) (sub_cons (.tmp rfl) (sub_cons (.tmp rfl) (sub_nil)))))))))))
    intro j zs hinv
    obtain ⟨hj, hzs, hw⟩ := hinv
    refine JC.seq (JC.seq ?_)
    refine JC.draw (Γ' := ?g1) mo (by kernel_rfl) ?tw1 ?k1
    case tw1 =>
      refine TW.m (.tmp rfl) rfl ?_
      refine TW.m (.tmp rfl) rfl ?_
      refine TW.o (ot_gtr (.tmp rfl) (.tmp rfl)) rfl ?_
      refine TW.m (.tmp rfl) rfl ?_
      refine TW.opg rfl rfl rfl (ltN rfl) (fun hg => ot_move (.tmp rfl)) rfl (ltN rfl) ?_
      refine TW.opg rfl rfl rfl (ltN rfl) (fun hg => ot_move (.tmp rfl)) rfl (ltN rfl) ?_
      refine TW.opg rfl rfl rfl (ltN rfl) (fun hg => ot_move (.tmp rfl)) rfl (ltN rfl) ?_
      refine TW.opg rfl rfl rfl (ltN rfl) (fun hg => (by have hg' := hg; (try simp only [bsx] at hg'); exact ot_eqt (T' := pOwn b (0 + j * 6)) (ot_index_own (.iff hg (.tmp rfl)) (.iff hg (.tmp rfl)) sl64 (by omega) (by omega)) (own_off2 (by omega)))) rfl (ltN rfl) ?_
      refine TW.opg rfl rfl rfl (ltN rfl) (fun hg => (by have hg' := hg; (try simp only [bsx] at hg'); exact ot_load_own_agg (.iff hg (.tmp rfl)) (.head _) ag63 (row_agg rfl (atT_some (by omega))))) rfl (ltN rfl) ?_
      refine TW.opg rfl rfl rfl (ltN rfl) (fun hg => ot_move (.tmp rfl)) rfl (ltN rfl) ?_
      refine TW.opg rfl rfl rfl (ltN rfl) (fun hg => ot_move (.tmp rfl)) rfl (ltN rfl) ?_
      refine TW.opg rfl rfl rfl (ltN rfl) (fun hg => (by have hg' := hg; (try simp only [bsx] at hg'); exact ot_sub (.iff hg (.tmp rfl)) .is (w64 (by omega) (by omega)))) rfl (ltN rfl) ?_
      refine TW.opg rfl rfl rfl (ltN rfl) (fun hg => (by have hg' := hg; (try simp only [bsx] at hg'); exact ot_eqt (T' := pOwn b (0 + (j - 1) * 6)) (ot_index_own (.iff hg (.tmp rfl)) (.iff hg (.tmp rfl)) sl64 (by omega) (by omega)) (own_off2 (by omega)))) rfl (ltN rfl) ?_
      refine TW.opg rfl rfl rfl (ltN rfl) (fun hg => (by have hg' := hg; (try simp only [bsx] at hg'); exact ot_load_own_agg (.iff hg (.tmp rfl)) (.head _) ag63 (row_agg rfl (atT_some (by omega))))) rfl (ltN rfl) ?_
      refine TW.opg rfl rfl rfl (ltN rfl) (fun hg => ot_callv (Us := []) fn59 (.iff hg (.tmp rfl)) (cmpT_c (atT zs j) (atT zs (j - 1)) ) (.cons (.iff hg (.tmp rfl)) (.cons (.iff hg (.tmp rfl)) .nil)) (fun _ => trivial)) rfl (ltN rfl) ?_
      refine TW.opg rfl rfl rfl (ltN rfl) (fun hg => ot_lss (.iff hg (.tmp rfl)) .is) rfl (ltN rfl) ?_
      refine TW.o (ot_and2 (.tmp rfl) (.tmp rfl) .is) rfl ?_
      exact TW.nil
    refine JQ.then_normal ?_
    refine JC.cond (.tmp rfl) (fun hc1 => ?_) (fun hc1 => ?_)
    · try simp only [bsx] at hc1
      have hs34 := hc1
      refine JC.skip (JQ.then_normal (JC.seq (JC.block ?_)))
      refine JC.drawF (Γ' := ?g2) (Γf := ?f2) (L' := ?l2) 15 [2, 3, 4] mo (by kernel_rfl) (by kernel_rfl) (fun _ _ _ _ _ h => h) ?fl2 ?tk2 ?tw2 ?ag2 ?k2
      case fl2 =>
        refine FL.cons (i := 2) rfl rfl (ltN rfl) rfl (opv_move rfl) (by kernel_rfl) (by kernel_rfl) ?_
        refine FL.cons (i := 3) rfl rfl (ltN rfl) rfl (opv_move rfl) (by kernel_rfl) (by kernel_rfl) ?_
        refine FL.cons (i := 4) rfl rfl (ltN rfl) rfl (opv_sub rfl (w64 (by omega) (by omega))) (by kernel_rfl) (by kernel_rfl) ?_
        exact FL.nil
      case tk2 => kernel_rfl
      case tw2 =>
        refine TW.m (.tmp rfl) rfl ?_
        refine TW.m (.tmp rfl) rfl ?_
        refine TW.m (.tmp rfl) rfl ?_
        refine TW.m (.tmp rfl) rfl ?_
        refine TW.o (ot_sub (.tmp rfl) .is (w64 (by omega) (by omega))) rfl ?_
        refine TW.m (.tmp rfl) rfl ?_
        refine TW.m (.tmp rfl) rfl ?_
        refine TW.o (ot_sub (.tmp rfl) .is (w64 (by omega) (by omega))) rfl ?_
        refine TW.o (ot_eqt (T' := pOwn b (0 + (j - 1) * 6)) (ot_index_own (.tmp rfl) (.tmp rfl) sl64 (by omega) (by omega)) (own_off2 (by omega))) rfl ?_
        refine TW.o (ot_load_own_agg (.tmp rfl) (.head _) ag63 (row_agg rfl (atT_some (by omega)))) rfl ?_
        refine TW.m (.tmp rfl) rfl ?_
        refine TW.m (.tmp rfl) rfl ?_
        refine TW.o (ot_eqt (T' := pOwn b (0 + j * 6)) (ot_index_own (.tmp rfl) (.tmp rfl) sl64 (by omega) (by omega)) (own_off2 (by omega))) rfl ?_
        refine TW.o (ot_load_own_agg (.tmp rfl) (.head _) ag63 (row_agg rfl (atT_some (by omega)))) rfl ?_
        refine TW.o (ot_eqt (T' := pOwn b (0 + j * 6)) (ot_index_own (.tmp rfl) (.tmp rfl) sl64 (by omega) (by omega)) (own_off2 (by omega))) rfl ?_
        exact TW.nil
      case ag2 => exact ⟨⟨_, rfl, rfl⟩, ⟨_, rfl, rfl⟩, ⟨_, rfl, rfl⟩, trivial⟩
      refine J.store (.tmp rfl) (.tmp rfl) .here sz63 (row_set (by omega)) ?_
      refine J.o (ot_eqt (T' := pOwn b (0 + (j - 1) * 6)) (ot_index_own (.tmp rfl) (.tmp rfl) sl64 (by omega) (by omega)) (own_off2 (by omega))) rfl ?_
      refine J.store (.tmp rfl) (.tmp rfl) .here sz63 (row_set (by simp; omega)) ?_
      refine J.nil (JQ.block_normal (JQ.then_normal (JC.region ?_)))
      refine J.m (.tmp rfl) rfl ?_
      refine J.o (ot_sub (.tmp rfl) .is (w64 (by omega) (by omega))) rfl ?_
      refine J.a (.tmp rfl) rfl ?_
      refine J.nil ?_
      exact JQ.round2 (i := j) (i2 := zs) (j - 1) ((zs.set j (atT zs (j - 1))).set (j - 1) (atT zs j)) ⟨by omega, by simpa using hzs, by rw [← hw]; exact siftT_go (by omega) (by simpa [cmpT] using hc1.2)⟩ (by omega) (sub_trans (sub_heap (.keep (fun _ _ h => by first | exact h | simpa using h) .nil)) (sub_cons (.tmp rfl) (sub_cons (.tmp rfl) (sub_cons (.tmp rfl) (sub_cons (.tmp rfl) (sub_cons (.tmp rfl) (sub_cons (.eq (.tmp rfl) (by first | rfl | (congr 3; omega) | (congr 2; omega))) (sub_cons (.tmp rfl) (sub_cons (.tmp rfl) (sub_cons (.tmp rfl) (sub_cons (.tmp rfl) (sub_nil))))))))))))
    · try simp only [bsx] at hc1
      have hs34 := hc1
      have hst : ¬ a < j ∨ ¬ cmpT (atT zs j) (atT zs (j - 1)) < 0 := by rcases hc1 with h | h; exact .inl (by omega); exact .inr (by simpa [cmpT] using h)
      refine JC.exit (JQ.then_exit (JQ.then_exit (JQ.block_exit (JQ.block_normal (JQ.then_normal (JC.region ?_))))))
      refine J.m (.tmp rfl) rfl ?_
      refine J.o (ot_add (.tmp rfl) .is (w64 (by omega) (by omega))) rfl ?_
      refine J.a (.tmp rfl) rfl ?_
      refine J.nil ?_
      exact JQ.round2 (i := i) (i2 := ys) (i + 1) (siftT a i ys) ⟨by omega, by rw [siftT_len]; exact hys, by rw [← hv]; exact insT_step (by omega)⟩ (by omega) (sub_trans (sub_heap (.keep (cRow_eq (by rw [← hw, siftT_stop hst])) .nil)) (sub_cons (.tmp rfl) (sub_cons (.tmp rfl) (sub_cons (.tmp rfl) (sub_cons (.tmp rfl) (sub_cons (.eq (.tmp rfl) (by first | rfl | (congr 3; omega) | (congr 2; omega))) (sub_nil)))))))
  · try simp only [bsx] at hc0
    have hs14 := hc0
    refine JC.exit (JQ.then_exit (JQ.then_exit (JQ.block_exit ?_)))
    exact (JQ.retL0 rfl (.head _) (cRow_eq (by rw [← hv, insT_end (by omega)]))).2

theorem insert0_c  : Ctr Try.prog 82 [tIs (.slice none 0 0), tIs (.int .i64 (0)), tIs (.int .i64 (0)), tFn 59 []] (tAny) := by
  refine Ctr.of Try.func82 rfl Try.ntmps82 (Nat.le_of_ble_eq_true rfl) fun w0 M0 => ?_
  refine JC.seq (JC.region ?_)
  refine J.m (.tmp rfl) rfl ?_
  refine J.o (ot_add (.tmp rfl) .is (w64 (by omega) (by omega))) rfl ?_
  refine J.a (.tmp rfl) rfl ?_
  refine J.nil (JQ.then_normal (JC.block ?_))
  refine JC.loop (ι := Nat) (fun i => [(0, tIs (.slice none 0 0)), (1, tIs (.int .i64 (0))), (2, tIs (.int .i64 (0))), (3, tFn 59 []), (8, tIs (.int .i64 (1)))]) (fun i => []) (fun i => i = 0) (fun i => i) 0 (by omega) ?lsub0 ?round0
  case lsub0 => exact sub_trans (sub_heap .nil) (sub_cons (.tmp rfl) (sub_cons (.tmp rfl) (sub_cons (.tmp rfl) (sub_cons (.tmp rfl) (sub_cons (.eq (.tmp rfl) (by rfl)) (sub_nil))))))
  intro i hinv
  refine JC.seq (JC.seq (JC.region ?_))
  refine J.m (.tmp rfl) rfl ?_
  refine J.m (.tmp rfl) rfl ?_
  refine J.o (ot_lss (.tmp rfl) (.tmp rfl)) rfl ?_
  refine J.nil (JQ.then_normal ?_)
  refine JC.cond_false (.eq (.tmp rfl) (by rfl)) ?_
  refine JC.exit (JQ.then_exit (JQ.then_exit (JQ.block_exit ?_)))
  exact (JQ.ret0 rfl).2

theorem stable0_c  : Ctr Try.prog 73 [tIs (.slice none 0 0), tIs (.int .i64 (0)), tFn 59 []] (tAny) := by
  refine Ctr.of Try.func73 rfl Try.ntmps73 (Nat.le_of_ble_eq_true rfl) fun w0 M0 => ?_
  refine JC.seq (JC.region ?_)
  refine J.a .is rfl ?_
  refine J.nil (JQ.then_normal (JC.seq (JC.region ?_)))
  refine J.m (.tmp rfl) rfl ?_
  refine J.a .is rfl ?_
  refine J.a (.tmp rfl) rfl ?_
  refine J.nil (JQ.then_normal (JC.seq (JC.block ?_)))
  refine JC.loop (ι := Nat) (fun i => [(0, tIs (.slice none 0 0)), (1, tIs (.int .i64 (0))), (2, tFn 59 []), (6, tIs (.int .i64 (20))), (7, tIs (.int .i64 (0))), (8, tIs (.int .i64 (20)))]) (fun i => []) (fun i => i = 0) (fun i => i) 0 (by omega) ?lsub0 ?round0
  case lsub0 => exact sub_trans (sub_heap .nil) (sub_cons (.tmp rfl) (sub_cons (.tmp rfl) (sub_cons (.tmp rfl) (sub_cons (.tmp rfl) (sub_cons (.tmp rfl) (sub_cons (.tmp rfl) (sub_nil)))))))
  intro i hinv
  refine JC.seq (JC.seq (JC.region ?_))
  refine J.m (.tmp rfl) rfl ?_
  refine J.m (.tmp rfl) rfl ?_
  refine J.o (ot_leq (.tmp rfl) (.tmp rfl)) rfl ?_
  refine J.nil (JQ.then_normal ?_)
  refine JC.cond_false (.eq (.tmp rfl) (by rfl)) ?_
  refine JC.exit (JQ.then_exit (JQ.then_exit (JQ.block_exit (JQ.then_normal (JC.seq (JC.region ?_))))))
  refine J.m (.tmp rfl) rfl ?_
  refine J.m (.tmp rfl) rfl ?_
  refine J.m (.tmp rfl) rfl ?_
  refine J.m (.tmp rfl) rfl ?_
  refine J.o (ot_call fn82 (insert0_c  ) (.cons (.tmp rfl) (.cons (.tmp rfl) (.cons (.tmp rfl) (.cons (.tmp rfl) .nil))))) rfl ?_
  refine J.nil (JQ.then_normal (JC.block ?_))
  refine JC.loop (ι := Nat) (fun i => [(0, tIs (.slice none 0 0)), (1, tIs (.int .i64 (0))), (2, tFn 59 []), (6, tIs (.int .i64 (20)))]) (fun i => []) (fun i => i = 0) (fun i => i) 0 (by omega) ?lsub1 ?round1
  case lsub1 => exact sub_trans (sub_heap .nil) (sub_cons (.tmp rfl) (sub_cons (.tmp rfl) (sub_cons (.tmp rfl) (sub_cons (.tmp rfl) (sub_nil)))))
  intro i hinv
  refine JC.seq (JC.seq (JC.region ?_))
  refine J.m (.tmp rfl) rfl ?_
  refine J.m (.tmp rfl) rfl ?_
  refine J.o (ot_lss (.tmp rfl) (.tmp rfl)) rfl ?_
  refine J.nil (JQ.then_normal ?_)
  refine JC.cond_false (.eq (.tmp rfl) (by rfl)) ?_
  refine JC.exit (JQ.then_exit (JQ.then_exit (JQ.block_exit ?_)))
  exact (JQ.ret0 rfl).2

theorem sort0_c  : Ctr Try.prog 58 [tIs (.slice none 0 0), tFn 59 []] (tAny) := by
  refine Ctr.of Try.func58 rfl Try.ntmps58 (Nat.le_of_ble_eq_true rfl) fun w0 M0 => ?_
  refine JC.region ?_
  refine J.m (.tmp rfl) rfl ?_
  refine J.m (.tmp rfl) rfl ?_
  refine J.o (ot_len_nil (.tmp rfl) sl65 rfl) rfl ?_
  refine J.m (.tmp rfl) rfl ?_
  refine J.o (ot_call fn73 (stable0_c  ) (.cons (.tmp rfl) (.cons (.tmp rfl) (.cons (.tmp rfl) .nil)))) rfl ?_
  refine J.nil ?_
  exact (JQ.ret0 rfl).2

theorem dzero_c (z : Z) (hlz : z.abs.length ≤ 1099511627776) : Ctr Try.prog 72 [tV encI (z)] (tIs (.bool (decide (zval z = 0)))) := by
  refine Ctr.of Try.func72 rfl Try.ntmps72 (Nat.le_of_ble_eq_true rfl) fun w0 M0 => ?_
  refine JC.seq (JC.region ?_)
  refine J.boxF (Ts := [tIs (.bool (z.neg)), tSl encD (z.abs)]) (.tmp rfl) rfl (ltN rfl) fun b1 => ?_
  refine J.a .is rfl ?_
  refine J.nil (JQ.then_normal (JC.seq (JC.region ?_)))
  refine J.o (ot_fieldAddr_own (.tmp rfl) fd25_1) rfl ?_
  refine J.o (ot_load_own (.tmp rfl) (.head _) sc23 (cTs_ld rfl)) rfl ?_
  refine J.o (ot_call fn38 (natIsZero_c z.abs (by omega)) (.cons (.tmp rfl) .nil)) rfl ?_
  refine J.a (.tmp rfl) rfl ?_
  refine J.nil (JQ.then_normal (JC.ret ?_))
  exact JQ.ret1 rfl (.tmp (.eq (.tmp rfl) (by rw [zval_zero])))

theorem terms_c {B : Nat} (p : Pol) (m : Mo) (hv : Lev 4 p) (hln : (termsP p m).length ≤ 4294967296) (hf : Fit B p) : Ctr Try.prog 40 [tV encP (p), tV encMo (m)] (tSl encTm (termsP p m)) := by
  induction p using Pol.ind generalizing m
  rename_i p ih
  have hcs := hf.cs
  rw [termsP_eq] at hln
  refine Ctr.of Try.func40 rfl Try.ntmps40 (Nat.le_of_ble_eq_true rfl) fun w0 M0 => ?_
  refine JC.seq (JC.region ?_)
  refine J.boxF (Ts := [tIs (.int .i64 (p.lv)), tIs (.bool (p.c.neg)), tSl encD (p.c.abs), tSl encP (p.cs)]) (.tmp rfl) (polT_eq _) (ltN rfl) fun b2 => ?_
  refine J.boxF (Ts := [tIs (.int .i64 (m.a)), tIs (.int .i64 (m.b)), tIs (.int .i64 (m.c)), tIs (.int .i64 (m.d))]) (.tmp rfl) rfl (ltN rfl) fun b3 => ?_
  refine J.o (ot_assign (.nil (E := encTm))) rfl ?_
  refine J.nil (JQ.then_normal (JC.seq (JC.seq (JC.region ?_))))
  refine J.o (ot_fieldAddr_own (.tmp rfl) fd28_0) rfl ?_
  refine J.o (ot_load_own (.tmp rfl) (.tail _ (.head _)) sc3 (cTs_ld rfl)) rfl ?_
  refine J.o (ot_eql (.tmp rfl) .is) rfl ?_
  refine J.nil (JQ.then_normal ?_)
  refine JC.cond (.tmp rfl) (fun hc0 => ?_) (fun hc0 => ?_)
  · try simp only [bsx] at hc0
    have hs10 := hc0
    refine JC.seq (JC.region ?_)
    refine J.o (ot_fieldAddr_own (.tmp rfl) fd28_1) rfl ?_
    refine J.o (ot_load_own_agg (.tmp rfl) (.tail _ (.head _)) ag25 (cTs_ldV (g := zT) (y := p.c) rfl rfl)) rfl ?_
    refine J.o (ot_load_own_agg (.tmp rfl) (.head _) ag61 (cTs_ldV (g := moT) (y := m) rfl rfl)) rfl ?_
    refine J.o (ot_eqt (T' := tV encTm (Tm.mk (p.c) (m))) (ot_build (Ts := [tIs (.bool (false)), tSl encD ([]), tIs (.int .i64 (0)), tIs (.int .i64 (0)), tIs (.int .i64 (0)), tIs (.int .i64 (0))]) pl63 (fun _ => ⟨rfl, rfl, slP_nil _ _, rfl, rfl, rfl, rfl, rfl, rfl, rfl, rfl, rfl, trivial⟩) ((.agg (off := 0) rfl (.eq (.tmp rfl) (tV_F (Ts := [tIs (.bool (p.c.neg)), tSl encD (p.c.abs)]) rfl)) (Ts' := [tIs (.bool (p.c.neg)), tSl encD (p.c.abs), tIs (.int .i64 (0)), tIs (.int .i64 (0)), tIs (.int .i64 (0)), tIs (.int .i64 (0))]) rfl rfl (.agg (off := 2) rfl (.eq (.tmp rfl) (tV_F (Ts := [tIs (.int .i64 (m.a)), tIs (.int .i64 (m.b)), tIs (.int .i64 (m.c)), tIs (.int .i64 (m.d))]) rfl)) (Ts' := [tIs (.bool (p.c.neg)), tSl encD (p.c.abs), tIs (.int .i64 (m.a)), tIs (.int .i64 (m.b)), tIs (.int .i64 (m.c)), tIs (.int .i64 (m.d))]) rfl rfl .nil))) rfl) (tV_F' rfl)) rfl ?_
    refine J.o (ot_buildSlice (E := encTm) (zs := [Tm.mk (p.c) (m)]) sl65 (.cons (.tmp rfl) .nil) rfl zr63 rfl (by decide) (by decide)) rfl ?_
    refine J.a (.tmp rfl) rfl ?_
    refine J.nil (JQ.then_normal (JC.ret (JQ.then_ret ?_)))
    exact JQ.ret1 rfl (.tmp (.eq (.tmp rfl) (by rw [termsP_eq, if_pos hc0])))
  · try simp only [bsx] at hc0
    have hs10 := hc0
    rw [if_neg hc0] at hln
    obtain ⟨hcl, hl0, hl4, hsub⟩ := hv.sub hc0
    refine JC.skip (JQ.then_normal (JC.seq (JC.region ?_)))
    refine J.a .is rfl ?_
    refine J.nil (JQ.then_normal (JC.seq (JC.seq (JC.region ?_))))
    refine J.o (ot_fieldAddr_own (.tmp rfl) fd28_2) rfl ?_
    refine J.o (ot_load_own (.tmp rfl) (.tail _ (.head _)) sc26 (cTs_ld rfl)) rfl ?_
    refine J.o (ot_len (.tmp rfl) sl26 rfl) rfl ?_
    refine J.m .is rfl ?_
    refine J.nil (JQ.then_normal (JC.block ?_))
    refine JC.peel4 (α := Nat) (β := Mo) (γ := Nat) (δ := Nat) (fun k M b c => [(2, pOwn b2 (0)), (3, pOwn b3 (0)), (4, tSl encTm ([])), (5, sIs b 0 ((termsK (fun q i => termsP q (m.set (p.lv - 1).toNat (i : Int))) p.cs k).length) (c)), (17, tSl encP (p.cs)), (18, tIs (.int .i64 (((p.cs).length : Int)))), (19, tIs (.int .i64 (((k : Nat) : Int))))]) (fun k M b c => [⟨b, 63, cRow encTm (termsK (fun q i => termsP q (m.set (p.lv - 1).toNat (i : Int))) p.cs k) (c)⟩, ⟨b3, 61, cTs [tIs (.int .i64 (M.a)), tIs (.int .i64 (M.b)), tIs (.int .i64 (M.c)), tIs (.int .i64 (M.d))]⟩, ⟨b2, 28, cTs [tIs (.int .i64 (p.lv)), tIs (.bool (p.c.neg)), tSl encD (p.c.abs), tSl encP (p.cs)]⟩]) (fun k M b c => 1 ≤ k ∧ k ≤ p.cs.length ∧ (∀ x, M.set (p.lv - 1).toNat x = m.set (p.lv - 1).toNat x)) (fun k M b c => p.cs.length - k) p.cs.length ?first0 ?round0
    case first0 =>
      refine JC.seq (JC.region ?_)
      refine J.o (ot_lss (.tmp rfl) (.tmp rfl)) rfl ?_
      refine J.nil (JQ.then_normal (JC.seq ?_))
      refine JC.cond_true (.eq (.tmp rfl) (by rw [decide_eq_true (by omega)])) ?_
      refine JC.skip (JQ.then_normal (JC.seq (JC.block (JC.seq (JC.region ?_)))))
      refine J.m (.tmp rfl) rfl ?_
      refine J.o (ot_index (z := atP p.cs 0) (.tmp rfl) (.tmp rfl) sl26 (by omega) (atP_at (by omega) (by omega))) rfl ?_
      refine J.o (ot_load_agg (.tmp rfl) ag28 ldp_whole) rfl ?_
      refine J.alloc (R := cTs [tIs (.int .i64 (0)), tIs (.bool (false)), tSl encD ([]), tSl encP ([])]) zr28 (fun _ => ⟨rfl, rfl, rfl, rfl, slP_nil _ _, rfl, slP_nil _ _, rfl, trivial⟩) (ltN rfl) fun b7 => ?_
      refine J.a (.tmp rfl) rfl ?_
      refine J.store (.tmp rfl) (.eq (.tmp rfl) (tV_F (Ts := [tIs (.int .i64 ((atP p.cs 0).lv)), tIs (.bool (((atP p.cs 0).c).neg)), tSl encD (((atP p.cs 0).c).abs), tSl encP ((atP p.cs 0).cs)]) (polT_eq _))) .here sz28 (st_agg (Ts' := [tIs (.int .i64 ((atP p.cs 0).lv)), tIs (.bool (((atP p.cs 0).c).neg)), tSl encD (((atP p.cs 0).c).abs), tSl encP ((atP p.cs 0).cs)]) (o := 0) rfl) ?_
      refine J.nil (JQ.then_normal (JC.seq (JC.region ?_)))
      refine J.o (ot_fieldAddr_own (.tmp rfl) fd28_0) rfl ?_
      refine J.o (ot_load_own (.tmp rfl) (.tail _ (.tail _ (.head _))) sc3 (cTs_ld rfl)) rfl ?_
      refine J.o (ot_sub (.tmp rfl) .is (w64 (by omega) (by omega))) rfl ?_
      refine J.m (.tmp rfl) rfl ?_
      refine J.o (ot_eqt (T' := pOwn b3 ((p.lv - 1).toNat)) (ot_indexAddrA (.tmp rfl) (.tmp rfl) ar4_61 (by omega) (by omega)) (own_off2 (by omega))) rfl ?_
      refine J.store (.tmp rfl) (.tmp rfl) (.there .here) sz3 (mo_st (m := m) (by omega)) ?_
      refine J.nil (JQ.then_normal (JC.region ?_))
      refine J.m (.tmp rfl) rfl ?_
      refine J.o (ot_load_own_agg (.tmp rfl) (.head _) ag28 (cTs_ldV (g := polT) (y := (atP p.cs 0)) (polT_eq (atP p.cs 0)).symm rfl)) rfl ?_
      refine J.o (ot_load_own_agg (.tmp rfl) (.tail _ (.head _)) ag61 (cTs_ldV (g := moT) (y := (Mo.set (m) ((p.lv - 1).toNat) (0))) rfl rfl)) rfl ?_
      refine J.o (ot_call fn40 (ih (atP p.cs 0) (atP_mem (by omega)) (Mo.set (m) ((p.lv - 1).toNat) (0)) (hsub _ (atP_mem (by omega))) (Nat.le_trans (termsK_at (fun q i => termsP q (m.set (p.lv - 1).toNat (i : Int))) p.cs (k := 0) (by omega)) hln) (hf.at (by omega))) (.cons (.tmp rfl) (.cons (.tmp rfl) .nil))) rfl ?_
      refine J.append0 (E := encTm) (ys := termsP (atP p.cs 0) (Mo.set (m) ((p.lv - 1).toNat) (0))) (.sub (.tmp rfl) nil_z) (.tmp rfl) (termsP_ne (hsub _ (atP_mem (by omega)))) sl65 rfl zr63 rfl (by have := termsK_at (fun q i => termsP q (m.set (p.lv - 1).toNat (i : Int))) p.cs (k := 0) (show 0 < p.cs.length by omega); have h2 : (termsP (atP p.cs 0) (m.set (p.lv - 1).toNat 0)).length ≤ 4294967296 := Nat.le_trans this hln; omega) (by have := termsK_at (fun q i => termsP q (m.set (p.lv - 1).toNat (i : Int))) p.cs (k := 0) (show 0 < p.cs.length by omega); have h2 : (termsP (atP p.cs 0) (m.set (p.lv - 1).toNat 0)).length ≤ 4294967296 := Nat.le_trans this hln; omega) (ltN rfl) fun b33 c33 => ?_
      refine J.a (.tmp rfl) rfl ?_
      refine J.nil (JQ.block_normal (JQ.then_normal (JC.region ?_)))
      refine J.o (ot_add (.tmp rfl) .is (w64 (by omega) (by omega))) rfl ?_
      refine J.m (.tmp rfl) rfl ?_
      refine J.nil ?_
      exact JQ.first4 1 (m.set (p.lv - 1).toNat 0) b33 c33 ⟨by omega, by omega, fun x => Mo.set_set⟩ (by omega) (sub_trans (sub_heap (.keep (cRow_eq (by simp [termsK])) (.drop (.keep (fun _ _ h => by first | exact h | simpa using h) (.keep (fun _ _ h => h) .nil))))) (sub_cons (.tmp rfl) (sub_cons (.tmp rfl) (sub_cons (.tmp rfl) (sub_cons (.eq (.tmp rfl) (by simp [termsK])) (sub_cons (.tmp rfl) (sub_cons (.tmp rfl) (sub_cons (.eq (.tmp rfl) (by first | rfl | (congr 3; omega) | (congr 2; omega))) (sub_nil)))))))))
    intro k M b c hinv
    obtain ⟨hk1, hk, hM⟩ := hinv
    have htk := termsK_mono (fun q i => termsP q (m.set (p.lv - 1).toNat (i : Int))) p.cs hk
    refine JC.seq (JC.region ?_)
    refine J.o (ot_lss (.tmp rfl) (.tmp rfl)) rfl ?_
    refine J.nil (JQ.then_normal (JC.seq ?_))
    refine JC.cond (.tmp rfl) (fun hc2 => ?_) (fun hc2 => ?_)
    · try simp only [bsx] at hc2
      have hs20 := hc2
      refine JC.skip (JQ.then_normal (JC.seq (JC.block (JC.seq (JC.region ?_)))))
      refine J.m (.tmp rfl) rfl ?_
      refine J.o (ot_index (z := atP p.cs k) (.tmp rfl) (.tmp rfl) sl26 (by omega) (atP_at (by omega) (by omega))) rfl ?_
      refine J.o (ot_load_agg (.tmp rfl) ag28 ldp_whole) rfl ?_
      refine J.alloc (R := cTs [tIs (.int .i64 (0)), tIs (.bool (false)), tSl encD ([]), tSl encP ([])]) zr28 (fun _ => ⟨rfl, rfl, rfl, rfl, slP_nil _ _, rfl, slP_nil _ _, rfl, trivial⟩) (ltN rfl) fun b7 => ?_
      refine J.a (.tmp rfl) rfl ?_
      refine J.store (.tmp rfl) (.eq (.tmp rfl) (tV_F (Ts := [tIs (.int .i64 ((atP p.cs k).lv)), tIs (.bool (((atP p.cs k).c).neg)), tSl encD (((atP p.cs k).c).abs), tSl encP ((atP p.cs k).cs)]) (polT_eq _))) .here sz28 (st_agg (Ts' := [tIs (.int .i64 ((atP p.cs k).lv)), tIs (.bool (((atP p.cs k).c).neg)), tSl encD (((atP p.cs k).c).abs), tSl encP ((atP p.cs k).cs)]) (o := 0) rfl) ?_
      refine J.nil (JQ.then_normal (JC.seq (JC.region ?_)))
      refine J.o (ot_fieldAddr_own (.tmp rfl) fd28_0) rfl ?_
      refine J.o (ot_load_own (.tmp rfl) (.tail _ (.tail _ (.tail _ (.head _)))) sc3 (cTs_ld rfl)) rfl ?_
      refine J.o (ot_sub (.tmp rfl) .is (w64 (by omega) (by omega))) rfl ?_
      refine J.m (.tmp rfl) rfl ?_
      refine J.o (ot_eqt (T' := pOwn b3 ((p.lv - 1).toNat)) (ot_indexAddrA (.tmp rfl) (.tmp rfl) ar4_61 (by omega) (by omega)) (own_off2 (by omega))) rfl ?_
      refine J.store (.tmp rfl) (.tmp rfl) (.there (.there .here)) sz3 (mo_st (m := M) (by omega)) ?_
      refine J.nil (JQ.then_normal (JC.region ?_))
      refine J.m (.tmp rfl) rfl ?_
      refine J.o (ot_load_own_agg (.tmp rfl) (.head _) ag28 (cTs_ldV (g := polT) (y := (atP p.cs k)) (polT_eq (atP p.cs k)).symm rfl)) rfl ?_
      refine J.o (ot_load_own_agg (.tmp rfl) (.tail _ (.tail _ (.head _))) ag61 (cTs_ldV (g := moT) (y := (Mo.set (M) ((p.lv - 1).toNat) (((k : Nat) : Int)))) rfl rfl)) rfl ?_
      refine J.o (ot_call fn40 (ih (atP p.cs k) (atP_mem (by omega)) (Mo.set (M) ((p.lv - 1).toNat) (((k : Nat) : Int))) (hsub _ (atP_mem (by omega))) (Nat.le_trans (by rw [hM]; exact termsK_at (fun q i => termsP q (m.set (p.lv - 1).toNat (i : Int))) p.cs (k := k) (by omega)) hln) (hf.at (by omega))) (.cons (.tmp rfl) (.cons (.tmp rfl) .nil))) rfl ?_
      refine J.append (E := encTm) (xs := termsK (fun q i => termsP q (m.set (p.lv - 1).toNat (i : Int))) p.cs k) (ys := termsP (atP p.cs k) (Mo.set (M) ((p.lv - 1).toNat) (((k : Nat) : Int)))) (.tmp rfl) rfl (.tmp rfl) sl65 rfl zr63 rfl (.there .here) (by have := termsK_mono (fun q i => termsP q (m.set (p.lv - 1).toNat (i : Int))) p.cs (show k + 1 ≤ p.cs.length by omega); rw [termsK_succ, List.length_append] at this; rw [← hM] at this; omega) (by have := termsK_mono (fun q i => termsP q (m.set (p.lv - 1).toNat (i : Int))) p.cs (show k + 1 ≤ p.cs.length by omega); rw [termsK_succ, List.length_append] at this; rw [← hM] at this; omega) (ltN rfl) fun b33 c33 => ?_
      refine J.a (.tmp rfl) rfl ?_
      refine J.nil (JQ.block_normal (JQ.then_normal (JC.region ?_)))
      refine J.o (ot_add (.tmp rfl) .is (w64 (by omega) (by omega))) rfl ?_
      refine J.m (.tmp rfl) rfl ?_
      refine J.nil ?_
      exact JQ.round4 (i := k) (i2 := M) (i3 := b) (i4 := c) (k + 1) (M.set (p.lv - 1).toNat (k : Int)) b33 c33 ⟨by omega, by omega, fun x => by rw [Mo.set_set]; exact hM x⟩ (by omega) (sub_trans (sub_heap (.keep (cRow_eq (by rw [termsK_succ, hM])) (.drop (.keep (fun _ _ h => by first | exact h | simpa using h) (.keep (fun _ _ h => h) .nil))))) (sub_cons (.tmp rfl) (sub_cons (.tmp rfl) (sub_cons (.tmp rfl) (sub_cons (.eq (.tmp rfl) (by rw [termsK_succ, hM])) (sub_cons (.tmp rfl) (sub_cons (.tmp rfl) (sub_cons (.eq (.tmp rfl) (by first | rfl | (congr 3; omega) | (congr 2; omega))) (sub_nil)))))))))
    · try simp only [bsx] at hc2
      have hs20 := hc2
      refine JC.exit (JQ.then_exit (JQ.then_exit (JQ.block_exit (JQ.then_normal (JC.seq ?_)))))
      refine JC.weak (sub_freeze0 (E := encTm) (xs := termsK (fun q i => termsP q (m.set (p.lv - 1).toNat (i : Int))) p.cs k) (n := (termsK (fun q i => termsP q (m.set (p.lv - 1).toNat (i : Int))) p.cs k).length) (c := c) [5] ⟨rfl, trivial⟩ .here rfl (by omega)) ?_
      refine JC.region ?_
      refine J.m (.tmp rfl) rfl ?_
      refine J.a (.tmp rfl) rfl ?_
      refine J.nil (JQ.then_normal (JC.ret ?_))
      exact JQ.ret1 rfl (.tmp (.eq (.tmp rfl) (by rw [termsP_eq, if_neg hc0]; congr 2; omega)))

theorem bits_c (r : Int) : Ctr Try.prog 22 [tIs (.int .i64 (r))] (tIs (.int .i64 (bitsR r))) := by
  refine Ctr.of Try.func22 rfl Try.ntmps22 (Nat.le_of_ble_eq_true rfl) fun w0 M0 => ?_
  refine JC.seq (JC.region ?_)
  refine J.a .is rfl ?_
  refine J.nil (JQ.then_normal (JC.seq (JC.seq (JC.region ?_))))
  refine J.m (.tmp rfl) rfl ?_
  refine J.nil (JQ.then_normal (JC.block (JC.seq (JC.region ?_))))
  refine J.o (ot_eql (.tmp rfl) .is) rfl ?_
  refine J.a (.tmp rfl) rfl ?_
  refine J.nil (JQ.then_normal ?_)
  refine JC.cond (.tmp rfl) (fun hc0 => ?_) (fun hc0 => ?_)
  · try simp only [bsx] at hc0
    have hs4 := hc0
    refine JC.seq (JC.region ?_)
    refine J.a .is rfl ?_
    refine J.nil (JQ.then_normal (JC.ret (JQ.block_ret (JQ.then_ret ?_))))
    exact JQ.ret1 rfl (.tmp (.eq (.tmp rfl) (by simp [bitsR, *])))
  · try simp only [bsx] at hc0
    have hs4 := hc0
    refine JC.seq (JC.region ?_)
    refine J.o (ot_eql (.tmp rfl) .is) rfl ?_
    refine J.a (.tmp rfl) rfl ?_
    refine J.nil (JQ.then_normal ?_)
    refine JC.cond (.tmp rfl) (fun hc1 => ?_) (fun hc1 => ?_)
    · try simp only [bsx] at hc1
      have hs6 := hc1
      refine JC.seq (JC.region ?_)
      refine J.a .is rfl ?_
      refine J.nil (JQ.then_normal (JC.ret (JQ.block_ret (JQ.then_ret ?_))))
      exact JQ.ret1 rfl (.tmp (.eq (.tmp rfl) (by simp [bitsR, *])))
    · try simp only [bsx] at hc1
      have hs6 := hc1
      refine JC.seq (JC.region ?_)
      refine J.o (ot_eql (.tmp rfl) .is) rfl ?_
      refine J.a (.tmp rfl) rfl ?_
      refine J.nil (JQ.then_normal ?_)
      refine JC.cond (.tmp rfl) (fun hc2 => ?_) (fun hc2 => ?_)
      · try simp only [bsx] at hc2
        have hs8 := hc2
        refine JC.seq (JC.region ?_)
        refine J.a .is rfl ?_
        refine J.nil (JQ.then_normal (JC.ret (JQ.block_ret (JQ.then_ret ?_))))
        exact JQ.ret1 rfl (.tmp (.eq (.tmp rfl) (by simp [bitsR, *])))
      · try simp only [bsx] at hc2
        have hs8 := hc2
        refine JC.seq (JC.region ?_)
        refine J.o (ot_eql (.tmp rfl) .is) rfl ?_
        refine J.a (.tmp rfl) rfl ?_
        refine J.nil (JQ.then_normal ?_)
        refine JC.cond (.tmp rfl) (fun hc3 => ?_) (fun hc3 => ?_)
        · try simp only [bsx] at hc3
          have hs10 := hc3
          refine JC.seq (JC.region ?_)
          refine J.a .is rfl ?_
          refine J.nil (JQ.then_normal (JC.ret (JQ.block_ret (JQ.then_ret ?_))))
          exact JQ.ret1 rfl (.tmp (.eq (.tmp rfl) (by simp [bitsR, *])))
        · try simp only [bsx] at hc3
          have hs10 := hc3
          refine JC.seq (JC.region ?_)
          refine J.o (ot_eql (.tmp rfl) .is) rfl ?_
          refine J.a (.tmp rfl) rfl ?_
          refine J.nil (JQ.then_normal ?_)
          refine JC.cond (.tmp rfl) (fun hc4 => ?_) (fun hc4 => ?_)
          · try simp only [bsx] at hc4
            have hs12 := hc4
            refine JC.seq (JC.region ?_)
            refine J.a .is rfl ?_
            refine J.nil (JQ.then_normal (JC.ret (JQ.block_ret (JQ.then_ret ?_))))
            exact JQ.ret1 rfl (.tmp (.eq (.tmp rfl) (by simp [bitsR, *])))
          · try simp only [bsx] at hc4
            have hs12 := hc4
            refine JC.skip (JQ.block_normal (JQ.then_normal (JC.seq (JC.region ?_))))
            refine J.a .is rfl ?_
            refine J.nil (JQ.then_normal (JC.ret ?_))
            exact JQ.ret1 rfl (.tmp (.eq (.tmp rfl) (by simp [bitsR, *])))

theorem relation_c (b : Int) : Ctr Try.prog 27 [tIs (.int .i64 (b))] (tTup [tIs (.int .i64 ((relR b).1)), tIs (.bool ((relR b).2))]) := by
  refine Ctr.of Try.func27 rfl Try.ntmps27 (Nat.le_of_ble_eq_true rfl) fun w0 M0 => ?_
  refine JC.seq (JC.region ?_)
  refine J.a .is rfl ?_
  refine J.a .is rfl ?_
  refine J.nil (JQ.then_normal (JC.seq (JC.seq (JC.region ?_))))
  refine J.a .is rfl ?_
  refine J.nil (JQ.then_normal (JC.block ?_))
  refine JC.loop (ι := Nat) (fun n => [(0, tIs (.int .i64 (b))), (4, tIs (.int .i64 (((n : Nat) : Int) + 1)))]) (fun n => []) (fun n => n ≤ 6 ∧ ∀ i : Nat, i < n → ¬ bitsR ((i : Int) + 1) = b) (fun n => 6 - n) 0 ⟨by omega, fun i hi => by omega⟩ ?lsub0 ?round0
  case lsub0 => exact sub_trans (sub_heap .nil) (sub_cons (.tmp rfl) (sub_cons (.eq (.tmp rfl) (by rfl)) (sub_nil)))
  intro n hinv
  obtain ⟨hn, hno⟩ := hinv
  refine JC.seq (JC.seq (JC.region ?_))
  refine J.m (.tmp rfl) rfl ?_
  refine J.o (ot_leq (.tmp rfl) .is) rfl ?_
  refine J.nil (JQ.then_normal ?_)
  refine JC.cond (.tmp rfl) (fun hc0 => ?_) (fun hc0 => ?_)
  · try simp only [bsx] at hc0
    have hs6 := hc0
    refine JC.skip (JQ.then_normal (JC.seq (JC.block (JC.seq (JC.region ?_)))))
    refine J.m (.tmp rfl) rfl ?_
    refine J.o (ot_call fn22 (bits_c (((n : Nat) : Int) + 1) ) (.cons (.tmp rfl) .nil)) rfl ?_
    refine J.m (.tmp rfl) rfl ?_
    refine J.o (ot_eql (.tmp rfl) (.tmp rfl)) rfl ?_
    refine J.nil (JQ.then_normal ?_)
    refine JC.cond (.tmp rfl) (fun hc1 => ?_) (fun hc1 => ?_)
    · try simp only [bsx] at hc1
      have hs12 := hc1
      refine JC.seq (JC.region ?_)
      refine J.m (.tmp rfl) rfl ?_
      refine J.a (.tmp rfl) rfl ?_
      refine J.a .is rfl ?_
      refine J.nil (JQ.then_normal (JC.ret (JQ.block_ret (JQ.then_ret (JQ.then_ret (JQ.block_ret (JQ.then_ret ?_)))))))
      exact JQ.ret2 rfl (.tmp (.eq (.tmp rfl) (by rw [relR_at (by omega) hno hs12]))) (.tmp (.eq (.tmp rfl) (by rw [relR_at (by omega) hno hs12])))
    · try simp only [bsx] at hc1
      have hs12 := hc1
      refine JC.skip (JQ.block_normal (JQ.then_normal (JC.region ?_)))
      refine J.m (.tmp rfl) rfl ?_
      refine J.o (ot_add (.tmp rfl) .is (w64 (by omega) (by omega))) rfl ?_
      refine J.a (.tmp rfl) rfl ?_
      refine J.nil ?_
      exact JQ.round (n + 1) ⟨by omega, fun i hi => by rcases Nat.lt_or_ge i n with q | q; exact hno i q; rw [show i = n by omega]; exact hs12⟩ (by omega) (sub_trans (sub_heap .nil) (sub_cons (.tmp rfl) (sub_cons (.eq (.tmp rfl) (by first | rfl | (congr 3; omega) | (congr 2; omega))) (sub_nil))))
  · try simp only [bsx] at hc0
    have hs6 := hc0
    refine JC.exit (JQ.then_exit (JQ.then_exit (JQ.block_exit (JQ.then_normal (JC.seq (JC.region ?_))))))
    refine J.a .is rfl ?_
    refine J.a .is rfl ?_
    refine J.nil (JQ.then_normal (JC.ret ?_))
    exact JQ.ret2 rfl (.tmp (.eq (.tmp rfl) (by rw [relR_no (by omega) hno]))) (.tmp (.eq (.tmp rfl) (by rw [relR_no (by omega) hno])))

theorem holds_c (r s : Int) : Ctr Try.prog 35 [tIs (.int .i64 (r)), tIs (.int .i64 (s))] (tIs (.bool (holdsR r s))) := by
  refine Ctr.of Try.func35 rfl Try.ntmps35 (Nat.le_of_ble_eq_true rfl) fun w0 M0 => ?_
  refine JC.seq (JC.region ?_)
  refine J.a .is rfl ?_
  refine J.nil (JQ.then_normal (JC.seq (JC.seq (JC.region ?_))))
  refine J.m (.tmp rfl) rfl ?_
  refine J.nil (JQ.then_normal (JC.block (JC.seq (JC.region ?_))))
  refine J.o (ot_eql (.tmp rfl) .is) rfl ?_
  refine J.a (.tmp rfl) rfl ?_
  refine J.nil (JQ.then_normal ?_)
  refine JC.cond (.tmp rfl) (fun hc0 => ?_) (fun hc0 => ?_)
  · try simp only [bsx] at hc0
    have hs6 := hc0
    refine JC.seq (JC.region ?_)
    refine J.m (.tmp rfl) rfl ?_
    refine J.o (ot_lss (.tmp rfl) .is) rfl ?_
    refine J.a (.tmp rfl) rfl ?_
    refine J.nil (JQ.then_normal (JC.ret (JQ.block_ret (JQ.then_ret ?_))))
    exact JQ.ret1 rfl (.tmp (.eq (.tmp rfl) (by simp [holdsR, *])))
  · try simp only [bsx] at hc0
    have hs6 := hc0
    refine JC.seq (JC.region ?_)
    refine J.o (ot_eql (.tmp rfl) .is) rfl ?_
    refine J.a (.tmp rfl) rfl ?_
    refine J.nil (JQ.then_normal ?_)
    refine JC.cond (.tmp rfl) (fun hc1 => ?_) (fun hc1 => ?_)
    · try simp only [bsx] at hc1
      have hs10 := hc1
      refine JC.seq (JC.region ?_)
      refine J.m (.tmp rfl) rfl ?_
      refine J.o (ot_leq (.tmp rfl) .is) rfl ?_
      refine J.a (.tmp rfl) rfl ?_
      refine J.nil (JQ.then_normal (JC.ret (JQ.block_ret (JQ.then_ret ?_))))
      exact JQ.ret1 rfl (.tmp (.eq (.tmp rfl) (by simp [holdsR, *])))
    · try simp only [bsx] at hc1
      have hs10 := hc1
      refine JC.seq (JC.region ?_)
      refine J.o (ot_eql (.tmp rfl) .is) rfl ?_
      refine J.a (.tmp rfl) rfl ?_
      refine J.nil (JQ.then_normal ?_)
      refine JC.cond (.tmp rfl) (fun hc2 => ?_) (fun hc2 => ?_)
      · try simp only [bsx] at hc2
        have hs14 := hc2
        refine JC.seq (JC.region ?_)
        refine J.m (.tmp rfl) rfl ?_
        refine J.o (ot_neq (.tmp rfl) .is) rfl ?_
        refine J.a (.tmp rfl) rfl ?_
        refine J.nil (JQ.then_normal (JC.ret (JQ.block_ret (JQ.then_ret ?_))))
        exact JQ.ret1 rfl (.tmp (.eq (.tmp rfl) (by simp [holdsR, *])))
      · try simp only [bsx] at hc2
        have hs14 := hc2
        refine JC.seq (JC.region ?_)
        refine J.o (ot_eql (.tmp rfl) .is) rfl ?_
        refine J.a (.tmp rfl) rfl ?_
        refine J.nil (JQ.then_normal ?_)
        refine JC.cond (.tmp rfl) (fun hc3 => ?_) (fun hc3 => ?_)
        · try simp only [bsx] at hc3
          have hs18 := hc3
          refine JC.seq (JC.region ?_)
          refine J.m (.tmp rfl) rfl ?_
          refine J.o (ot_geq (.tmp rfl) .is) rfl ?_
          refine J.a (.tmp rfl) rfl ?_
          refine J.nil (JQ.then_normal (JC.ret (JQ.block_ret (JQ.then_ret ?_))))
          exact JQ.ret1 rfl (.tmp (.eq (.tmp rfl) (by simp [holdsR, *])))
        · try simp only [bsx] at hc3
          have hs18 := hc3
          refine JC.seq (JC.region ?_)
          refine J.o (ot_eql (.tmp rfl) .is) rfl ?_
          refine J.a (.tmp rfl) rfl ?_
          refine J.nil (JQ.then_normal ?_)
          refine JC.cond (.tmp rfl) (fun hc4 => ?_) (fun hc4 => ?_)
          · try simp only [bsx] at hc4
            have hs22 := hc4
            refine JC.seq (JC.region ?_)
            refine J.m (.tmp rfl) rfl ?_
            refine J.o (ot_gtr (.tmp rfl) .is) rfl ?_
            refine J.a (.tmp rfl) rfl ?_
            refine J.nil (JQ.then_normal (JC.ret (JQ.block_ret (JQ.then_ret ?_))))
            exact JQ.ret1 rfl (.tmp (.eq (.tmp rfl) (by simp [holdsR, *])))
          · try simp only [bsx] at hc4
            have hs22 := hc4
            refine JC.skip (JQ.block_normal (JQ.then_normal (JC.seq (JC.region ?_))))
            refine J.m (.tmp rfl) rfl ?_
            refine J.o (ot_eql (.tmp rfl) .is) rfl ?_
            refine J.a (.tmp rfl) rfl ?_
            refine J.nil (JQ.then_normal (JC.ret ?_))
            exact JQ.ret1 rfl (.tmp (.eq (.tmp rfl) (by simp [holdsR, *])))

theorem permits_c (r s : Int) : Ctr Try.prog 15 [tIs (.int .i64 (r)), tIs (.int .i64 (s))] (tIs (.bool (holdsR r s))) := by
  refine Ctr.of Try.func15 rfl Try.ntmps15 (Nat.le_of_ble_eq_true rfl) fun w0 M0 => ?_
  refine JC.seq (JC.region ?_)
  refine J.a .is rfl ?_
  refine J.nil (JQ.then_normal (JC.seq (JC.region ?_)))
  refine J.m (.tmp rfl) rfl ?_
  refine J.m (.tmp rfl) rfl ?_
  refine J.o (ot_call fn35 (holds_c r s ) (.cons (.tmp rfl) (.cons (.tmp rfl) .nil))) rfl ?_
  refine J.a (.tmp rfl) rfl ?_
  refine J.nil (JQ.then_normal (JC.ret ?_))
  exact JQ.ret1 rfl (.tmp (.tmp rfl))

theorem sign_c (n : Int) (hn : -1 ≤ n ∧ n ≤ 1) : Ctr Try.prog 24 [tIs (.int .i64 (n))] (tIs (.int .i64 (2 ^ (n + 1).toNat))) := by
  refine Ctr.of Try.func24 rfl Try.ntmps24 (Nat.le_of_ble_eq_true rfl) fun w0 M0 => ?_
  refine JC.seq (JC.region ?_)
  refine J.a .is rfl ?_
  refine J.nil (JQ.then_normal (JC.seq (JC.region ?_)))
  refine J.m (.tmp rfl) rfl ?_
  refine J.o (ot_add (.tmp rfl) .is (w64 (by omega) (by omega))) rfl ?_
  refine J.o (ot_shl .is (.tmp rfl) (by omega) (sign_w hn)) rfl ?_
  refine J.a (.tmp rfl) rfl ?_
  refine J.nil (JQ.then_normal (JC.ret ?_))
  exact JQ.ret1 rfl (.tmp (.tmp rfl))

theorem truth_c (b : Bool) : Ctr Try.prog 23 [tIs (.bool (b))] (tV encM (truthM b)) := by
  refine Ctr.of Try.func23 rfl Try.ntmps23 (Nat.le_of_ble_eq_true rfl) fun w0 M0 => ?_
  refine JC.seq (JC.region ?_)
  refine J.alloc (R := cTs [tIs (.int .i64 (0)), tIs (.int .i64 (0)), tIs (.int .i64 (0)), tIs (.bool (false)), tSl encD ([]), tSl encP ([]), tSl encM ([])]) zr37 (fun _ => ⟨rfl, rfl, rfl, rfl, rfl, rfl, rfl, rfl, slP_nil _ _, rfl, slP_nil _ _, rfl, slP_nil _ _, rfl, trivial⟩) (ltN rfl) fun b2 => ?_
  refine J.nil (JQ.then_normal (JC.seq (JC.seq (JC.region ?_))))
  refine J.m (.tmp rfl) rfl ?_
  refine J.nil (JQ.then_normal ?_)
  refine JC.cond (.tmp rfl) (fun hc0 => ?_) (fun hc0 => ?_)
  · try simp only [bsx] at hc0
    have hs3 := hc0
    refine JC.seq (JC.region ?_)
    refine J.o (ot_eqt (T' := tV encM (Mx.mk (1) (0) (Pol.mk (0) (Z.mk (false) ([])) ([])) ([]))) (ot_build (Ts := [tIs (.int .i64 (0)), tIs (.int .i64 (0)), tIs (.int .i64 (0)), tIs (.bool (false)), tSl encD ([]), tSl encP ([]), tSl encM ([])]) pl37 (fun _ => ⟨rfl, rfl, rfl, rfl, rfl, rfl, rfl, rfl, slP_nil _ _, rfl, slP_nil _ _, rfl, slP_nil _ _, rfl, trivial⟩) ((.one (off := 0) rfl .is (one_is rfl rfl) (Ts' := [tIs (.int .i64 (1)), tIs (.int .i64 (0)), tIs (.int .i64 (0)), tIs (.bool (false)), tSl encD ([]), tSl encP ([]), tSl encM ([])]) rfl rfl .nil)) rfl) (tV_F' (mxT_eq _))) rfl ?_
    refine J.store (.tmp rfl) (.eq (.tmp rfl) (tV_F (Ts := [tIs (.int .i64 (1)), tIs (.int .i64 (0)), tIs (.int .i64 (0)), tIs (.bool (false)), tSl encD ([]), tSl encP ([]), tSl encM ([])]) (mxT_eq _))) .here sz37 (st_agg (Ts' := [tIs (.int .i64 (1)), tIs (.int .i64 (0)), tIs (.int .i64 (0)), tIs (.bool (false)), tSl encD ([]), tSl encP ([]), tSl encM ([])]) (o := 0) rfl) ?_
    refine J.nil (JQ.then_normal (JC.ret (JQ.then_ret ?_)))
    exact JQ.ret1 rfl (.agg (.tmp rfl) (.head _) ag37 (agg_eq (T := tV encM (Mx.mk (1) (0) (Pol.mk (0) (Z.mk (false) ([])) ([])) ([]))) (T' := tV encM (truthM b)) (by rw [truthM, if_pos hc0]; rfl) (cTs_ldV (g := mxT) (y := (Mx.mk (1) (0) (Pol.mk (0) (Z.mk (false) ([])) ([])) ([]))) (mxT_eq (Mx.mk (1) (0) (Pol.mk (0) (Z.mk (false) ([])) ([])) ([]))).symm rfl)))
  · try simp only [bsx] at hc0
    have hs3 := hc0
    refine JC.skip (JQ.then_normal (JC.seq (JC.region ?_)))
    refine J.o (ot_eqt (T' := tV encM (Mx.mk (0) (0) (Pol.mk (0) (Z.mk (false) ([])) ([])) ([]))) (ot_build (Ts := [tIs (.int .i64 (0)), tIs (.int .i64 (0)), tIs (.int .i64 (0)), tIs (.bool (false)), tSl encD ([]), tSl encP ([]), tSl encM ([])]) pl37 (fun _ => ⟨rfl, rfl, rfl, rfl, rfl, rfl, rfl, rfl, slP_nil _ _, rfl, slP_nil _ _, rfl, slP_nil _ _, rfl, trivial⟩) ((.one (off := 0) rfl .is (one_is rfl rfl) (Ts' := [tIs (.int .i64 (0)), tIs (.int .i64 (0)), tIs (.int .i64 (0)), tIs (.bool (false)), tSl encD ([]), tSl encP ([]), tSl encM ([])]) rfl rfl .nil)) rfl) (tV_F' (mxT_eq _))) rfl ?_
    refine J.store (.tmp rfl) (.eq (.tmp rfl) (tV_F (Ts := [tIs (.int .i64 (0)), tIs (.int .i64 (0)), tIs (.int .i64 (0)), tIs (.bool (false)), tSl encD ([]), tSl encP ([]), tSl encM ([])]) (mxT_eq _))) .here sz37 (st_agg (Ts' := [tIs (.int .i64 (0)), tIs (.int .i64 (0)), tIs (.int .i64 (0)), tIs (.bool (false)), tSl encD ([]), tSl encP ([]), tSl encM ([])]) (o := 0) rfl) ?_
    refine J.nil (JQ.then_normal (JC.ret ?_))
    exact JQ.ret1 rfl (.agg (.tmp rfl) (.head _) ag37 (agg_eq (T := tV encM (Mx.mk (0) (0) (Pol.mk (0) (Z.mk (false) ([])) ([])) ([]))) (T' := tV encM (truthM b)) (by rw [truthM, if_neg (by simp [hc0])]; rfl) (cTs_ldV (g := mxT) (y := (Mx.mk (0) (0) (Pol.mk (0) (Z.mk (false) ([])) ([])) ([]))) (mxT_eq (Mx.mk (0) (0) (Pol.mk (0) (Z.mk (false) ([])) ([])) ([]))).symm rfl)))

theorem clipO_c (b n c : Nat) (h : n ≤ c) : Ctr Try.prog 61 [sIs b 0 (n) (c)] (sIs b 0 (n) (n)) := by
  refine Ctr.of Try.func61 rfl Try.ntmps61 (Nat.le_of_ble_eq_true rfl) fun w0 M0 => ?_
  refine JC.seq (JC.region ?_)
  refine J.o (ot_assign (.nil (E := encTm))) rfl ?_
  refine J.nil (JQ.then_normal (JC.seq (JC.region ?_)))
  refine J.m (.tmp rfl) rfl ?_
  refine J.m (.tmp rfl) rfl ?_
  refine J.o (ot_len_own (.tmp rfl) sl65 rfl) rfl ?_
  refine J.m (.tmp rfl) rfl ?_
  refine J.o (ot_len_own (.tmp rfl) sl65 rfl) rfl ?_
  refine J.o (ot_slice3_own (h := n) (m := n) (kh := .i64) (km := .i64) (.tmp rfl) sl65 (.eq (.tmp rfl) rfl) (.eq (.tmp rfl) rfl) (Nat.le_refl _) h) rfl ?_
  refine J.a (.tmp rfl) rfl ?_
  refine J.nil (JQ.then_normal (JC.ret ?_))
  exact JQ.ret1 rfl (.tmp (.tmp rfl))

theorem termsY (ts : List Tm) (hl : ts.length ≤ 4294967296) (hz : ∀ t ∈ ts, t.coef.abs.length ≤ 1099511627776) : IterC Try.prog 69 [tPtr (cTs [tSl encTm (ts)])] (ts.length) (fun k => [tV encMo ((atT ts k).exp), tV encI (ofI (zval (atT ts k).coef))]) := by
  refine IterC.of Try.func69 rfl Try.ntmps69 (Nat.le_of_ble_eq_true rfl) fun l w0 M Jw hup h0 hy => ?_
  refine JCR.seq (JCR.region ?_)
  refine J.o (ot_load (.tmp rfl) sc65 (cTs_ld rfl)) rfl ?_
  refine J.o (ot_len (.tmp rfl) sl65 rfl) rfl ?_
  refine J.m .is rfl ?_
  refine J.nil (JQR.then_normal (JCR.block ?_))
  refine JCR.loopY (ts.length) (fun k => [(0, tIs (.func (.yield l) #[] #[])), (5, tSl encTm (ts)), (6, tIs (.int .i64 (((ts).length : Int)))), (7, tIs (.int .i64 (((k : Nat) : Int))))]) Jw hup h0 ?ylsub ?yround
  case ylsub => exact sub_trans (sub_heap .nil) (sub_cons (.tmp rfl) (sub_cons (.tmp rfl) (sub_cons (.tmp rfl) (sub_cons (.eq (.tmp rfl) (by first | rfl | (congr 3; omega) | (congr 2; omega))) (sub_nil)))))
  intro k hk w0 hJ0
  refine JCR.seq (JCR.region ?_)
  refine J.o (ot_lss (.tmp rfl) (.tmp rfl)) rfl ?_
  refine J.nil (JQR.then_normal (JCR.seq ?_))
  refine JCR.cond (.tmp rfl) (fun hc0 => ?_) (fun hc0 => ?_)
  · try simp only [bsx] at hc0
    have hs8 := hc0
    have hlt : k < ts.length := by omega
    refine JCR.skip (JQR.then_normal (JCR.seq (JCR.block (JCR.seq (JCR.region ?_)))))
    refine J.o (ot_index (z := atT ts k) (.tmp rfl) (.tmp rfl) sl65 (by omega) (atT_at (by omega) (by omega))) rfl ?_
    refine J.o (ot_load_agg (.tmp rfl) ag63 ldp_whole) rfl ?_
    refine J.alloc (R := cTs [tIs (.bool (false)), tSl encD ([]), tIs (.int .i64 (0)), tIs (.int .i64 (0)), tIs (.int .i64 (0)), tIs (.int .i64 (0))]) zr63 (fun _ => ⟨rfl, rfl, slP_nil _ _, rfl, rfl, rfl, rfl, rfl, rfl, rfl, rfl, rfl, trivial⟩) (ltN rfl) fun b4 => ?_
    refine J.store (.tmp rfl) (.eq (.tmp rfl) (tV_F (Ts := [tIs (.bool (((atT ts k).coef).neg)), tSl encD (((atT ts k).coef).abs), tIs (.int .i64 (((atT ts k).exp).a)), tIs (.int .i64 (((atT ts k).exp).b)), tIs (.int .i64 (((atT ts k).exp).c)), tIs (.int .i64 (((atT ts k).exp).d))]) rfl)) .here sz63 (st_agg (Ts' := [tIs (.bool (((atT ts k).coef).neg)), tSl encD (((atT ts k).coef).abs), tIs (.int .i64 (((atT ts k).exp).a)), tIs (.int .i64 (((atT ts k).exp).b)), tIs (.int .i64 (((atT ts k).exp).c)), tIs (.int .i64 (((atT ts k).exp).d))]) (o := 0) rfl) ?_
    refine J.nil (JQR.then_normal (JCR.seq ?_))
    refine JCR.drawAt (Γ' := ?yg) 6 mo (by kernel_rfl) rfl ?ytw ?yk
    case ytw =>
      refine TW.m (.tmp rfl) rfl ?_
      refine TW.o (ot_fieldAddr_own (.tmp rfl) fd63_1) rfl ?_
      refine TW.o (ot_load_own_agg (.tmp rfl) (.head _) ag61 (cTs_ldV (g := moT) (y := ((atT ts k).exp)) rfl rfl)) rfl ?_
      refine TW.o (ot_fieldAddr_own (.tmp rfl) fd63_0) rfl ?_
      refine TW.o (ot_load_own_agg (.tmp rfl) (.head _) ag25 (cTs_ldV (g := zT) (y := ((atT ts k).coef)) rfl rfl)) rfl ?_
      refine TW.o (ot_call fn43 (intNormal_c ((atT ts k).coef) (hz _ (atT_mem hlt))) (.cons (.tmp rfl) .nil)) rfl ?_
      exact TW.nil
    refine JL.yield (k := k) (.tmp rfl) (.cons (.tmp rfl) (.cons (.tmp rfl) .nil)) hup hJ0 (fun W1 vs => hy k W1 vs hlt) (ltN rfl) fun w1 hJ1 => ?_
    refine JL.op (ot_not (.tmp rfl)) rfl (ltN rfl) rfl rfl ?_
    refine JL.nil ?_
    refine JQR.then_normal ?_
    refine JCR.cond_false (.eq (.tmp rfl) (by rfl)) ?_
    refine JCR.skip (JQ.block_normal (JQR.then_normal (JCR.region ?_)))
    refine J.o (ot_add (.tmp rfl) .is (w64 (by omega) (by omega))) rfl ?_
    refine J.m (.tmp rfl) rfl ?_
    refine J.nil ?_
    exact fun a w hs => ⟨hlt, w1, hJ1, (sub_trans (sub_heap .nil) (sub_cons (.tmp rfl) (sub_cons (.tmp rfl) (sub_cons (.tmp rfl) (sub_cons (.eq (.tmp rfl) (by first | rfl | (congr 3; omega) | (congr 2; omega))) (sub_nil)))))) a w hs⟩
  · try simp only [bsx] at hc0
    have hs8 := hc0
    refine JCR.exit (JQ.then_exit (JQ.then_exit (JQ.block_exit ?_)))
    exact JQ.endY rfl hup (by rw [show ts.length = k by omega]; exact hJ0)

theorem len32_c (x : Nat) (hx : x < 4294967296) : Ctr Try.prog 91 [tIs (.int .u32 (((x : Nat) : Int)))] (tIs (.int .i64 (((bl x : Nat) : Int)))) := by
  have q1 : x / 65536 / 256 < 256 → bl8 (x / 65536 / 256) ≤ 8 := fun h => (bl8_le h).1
  have q2 : x / 65536 < 256 → bl8 (x / 65536) ≤ 8 := fun h => (bl8_le h).1
  have q3 : x / 256 < 256 → bl8 (x / 256) ≤ 8 := fun h => (bl8_le h).1
  have q4 : x < 256 → bl8 x ≤ 8 := fun h => (bl8_le h).1
  refine Ctr.of Try.func91 rfl Try.ntmps91 (Nat.le_of_ble_eq_true rfl) fun w0 M0 => ?_
  refine JC.seq (JC.region ?_)
  refine J.a .is rfl ?_
  refine J.nil (JQ.then_normal (JC.seq (JC.seq (JC.region ?_))))
  refine J.m (.tmp rfl) rfl ?_
  refine J.o (ot_geq (.tmp rfl) .is) rfl ?_
  refine J.nil (JQ.then_normal ?_)
  refine JC.cond (.tmp rfl) (fun hc0 => ?_) (fun hc0 => ?_)
  · try simp only [bsx] at hc0
    have hs4 := hc0
    refine JC.seq (JC.region ?_)
    refine J.m (.tmp rfl) rfl ?_
    refine J.o (ot_shr (.tmp rfl) .is (by omega) fdiv16) rfl ?_
    refine J.a (.tmp rfl) rfl ?_
    refine J.nil (JQ.then_normal (JC.region ?_))
    refine J.a .is rfl ?_
    refine J.nil (JQ.then_normal (JC.seq (JC.seq (JC.region ?_))))
    refine J.m (.tmp rfl) rfl ?_
    refine J.o (ot_geq (.tmp rfl) .is) rfl ?_
    refine J.nil (JQ.then_normal ?_)
    refine JC.cond (.tmp rfl) (fun hc1 => ?_) (fun hc1 => ?_)
    · try simp only [bsx] at hc1
      have hs8 := hc1
      refine JC.seq (JC.region ?_)
      refine J.m (.tmp rfl) rfl ?_
      refine J.o (ot_shr (.tmp rfl) .is (by omega) fdiv8) rfl ?_
      refine J.a (.tmp rfl) rfl ?_
      refine J.nil (JQ.then_normal (JC.region ?_))
      refine J.m (.tmp rfl) rfl ?_
      refine J.o (ot_add (.tmp rfl) .is (w64 (by omega) (by omega))) rfl ?_
      refine J.a (.tmp rfl) rfl ?_
      refine J.nil (JQ.then_normal (JC.seq (JC.region ?_)))
      refine J.m (.tmp rfl) rfl ?_
      refine J.m (.tmp rfl) rfl ?_
      refine J.o (ot_conv (.tmp rfl) un5 (by kernel_rfl) (wu8 (by omega) (by omega))) rfl ?_
      refine J.o (ot_indexS8 (n := x / 65536 / 256) .is (by kernel_rfl) (.tmp rfl) (by kernel_rfl) (by omega)) rfl ?_
      refine J.o (ot_conv (.tmp rfl) un3 (by kernel_rfl) (w64 (by omega) (by omega))) rfl ?_
      refine J.o (ot_add (.tmp rfl) (.tmp rfl) (w64 (by omega) (by omega))) rfl ?_
      refine J.a (.tmp rfl) rfl ?_
      refine J.nil (JQ.then_normal (JC.ret ?_))
      exact JQ.ret1 rfl (.tmp (.eq (.tmp rfl) (by rw [bl, if_pos (by omega), bl16, if_pos (by omega)]; congr 2 <;> omega)))
    · try simp only [bsx] at hc1
      have hs8 := hc1
      refine JC.skip (JQ.then_normal (JC.seq (JC.region ?_)))
      refine J.m (.tmp rfl) rfl ?_
      refine J.m (.tmp rfl) rfl ?_
      refine J.o (ot_conv (.tmp rfl) un5 (by kernel_rfl) (wu8 (by omega) (by omega))) rfl ?_
      refine J.o (ot_indexS8 (n := x / 65536) .is (by kernel_rfl) (.tmp rfl) (by kernel_rfl) (by omega)) rfl ?_
      refine J.o (ot_conv (.tmp rfl) un3 (by kernel_rfl) (w64 (by omega) (by omega))) rfl ?_
      refine J.o (ot_add (.tmp rfl) (.tmp rfl) (w64 (by omega) (by omega))) rfl ?_
      refine J.a (.tmp rfl) rfl ?_
      refine J.nil (JQ.then_normal (JC.ret ?_))
      exact JQ.ret1 rfl (.tmp (.eq (.tmp rfl) (by rw [bl, if_pos (by omega), bl16, if_neg (by omega)]; congr 2 <;> omega)))
  · try simp only [bsx] at hc0
    have hs4 := hc0
    refine JC.skip (JQ.then_normal (JC.seq (JC.seq (JC.region ?_))))
    refine J.m (.tmp rfl) rfl ?_
    refine J.o (ot_geq (.tmp rfl) .is) rfl ?_
    refine J.nil (JQ.then_normal ?_)
    refine JC.cond (.tmp rfl) (fun hc2 => ?_) (fun hc2 => ?_)
    · try simp only [bsx] at hc2
      have hs8 := hc2
      refine JC.seq (JC.region ?_)
      refine J.m (.tmp rfl) rfl ?_
      refine J.o (ot_shr (.tmp rfl) .is (by omega) fdiv8) rfl ?_
      refine J.a (.tmp rfl) rfl ?_
      refine J.nil (JQ.then_normal (JC.region ?_))
      refine J.m (.tmp rfl) rfl ?_
      refine J.o (ot_add (.tmp rfl) .is (w64 (by omega) (by omega))) rfl ?_
      refine J.a (.tmp rfl) rfl ?_
      refine J.nil (JQ.then_normal (JC.seq (JC.region ?_)))
      refine J.m (.tmp rfl) rfl ?_
      refine J.m (.tmp rfl) rfl ?_
      refine J.o (ot_conv (.tmp rfl) un5 (by kernel_rfl) (wu8 (by omega) (by omega))) rfl ?_
      refine J.o (ot_indexS8 (n := x / 256) .is (by kernel_rfl) (.tmp rfl) (by kernel_rfl) (by omega)) rfl ?_
      refine J.o (ot_conv (.tmp rfl) un3 (by kernel_rfl) (w64 (by omega) (by omega))) rfl ?_
      refine J.o (ot_add (.tmp rfl) (.tmp rfl) (w64 (by omega) (by omega))) rfl ?_
      refine J.a (.tmp rfl) rfl ?_
      refine J.nil (JQ.then_normal (JC.ret ?_))
      exact JQ.ret1 rfl (.tmp (.eq (.tmp rfl) (by rw [bl, if_neg (by omega), bl16, if_pos (by omega)]; congr 2 <;> omega)))
    · try simp only [bsx] at hc2
      have hs8 := hc2
      refine JC.skip (JQ.then_normal (JC.seq (JC.region ?_)))
      refine J.m (.tmp rfl) rfl ?_
      refine J.m (.tmp rfl) rfl ?_
      refine J.o (ot_conv (.tmp rfl) un5 (by kernel_rfl) (wu8 (by omega) (by omega))) rfl ?_
      refine J.o (ot_indexS8 (n := x) .is (by kernel_rfl) (.tmp rfl) (by kernel_rfl) (by omega)) rfl ?_
      refine J.o (ot_conv (.tmp rfl) un3 (by kernel_rfl) (w64 (by omega) (by omega))) rfl ?_
      refine J.o (ot_add (.tmp rfl) (.tmp rfl) (w64 (by omega) (by omega))) rfl ?_
      refine J.a (.tmp rfl) rfl ?_
      refine J.nil (JQ.then_normal (JC.ret ?_))
      exact JQ.ret1 rfl (.tmp (.eq (.tmp rfl) (by rw [bl, if_neg (by omega), bl16, if_neg (by omega)]; congr 2 <;> omega)))

theorem lz32_c (x : Nat) (hx : x < 4294967296) : Ctr Try.prog 85 [tIs (.int .u32 (((x : Nat) : Int)))] (tIs (.int .i64 (((32 - bl x : Nat) : Int)))) := by
  have hb := (bl_le hx).1
  refine Ctr.of Try.func85 rfl Try.ntmps85 (Nat.le_of_ble_eq_true rfl) fun w0 M0 => ?_
  refine JC.seq (JC.region ?_)
  refine J.a .is rfl ?_
  refine J.nil (JQ.then_normal (JC.seq (JC.region ?_)))
  refine J.m (.tmp rfl) rfl ?_
  refine J.o (ot_call fn91 (len32_c x hx) (.cons (.tmp rfl) .nil)) rfl ?_
  refine J.o (ot_sub .is (.tmp rfl) (w64 (by omega) (by omega))) rfl ?_
  refine J.a (.tmp rfl) rfl ?_
  refine J.nil (JQ.then_normal (JC.ret ?_))
  exact JQ.ret1 rfl (.tmp (.eq (.tmp rfl) (by first | rfl | (congr 3; omega) | (congr 2; omega) | simp [*])))

theorem div64_c (x y : Nat) (hx : x < 18446744073709551616) (hy : 0 < y) : Ctr Try.prog 87 [tIs (.int .u64 (0)), tIs (.int .u64 (((x : Nat) : Int))), tIs (.int .u64 (((y : Nat) : Int)))] (tTup [tIs (.int .u64 (((x / y : Nat) : Int))), tIs (.int .u64 (((x % y : Nat) : Int)))]) := by
  refine Ctr.of Try.func87 rfl Try.ntmps87 (Nat.le_of_ble_eq_true rfl) fun w0 M0 => ?_
  refine JC.seq (JC.region ?_)
  refine J.a .is rfl ?_
  refine J.a .is rfl ?_
  refine J.nil (JQ.then_normal (JC.seq (JC.seq (JC.region ?_))))
  refine J.m (.tmp rfl) rfl ?_
  refine J.o (ot_eql (.tmp rfl) .is) rfl ?_
  refine J.nil (JQ.then_normal ?_)
  refine JC.cond_false (.eq (.tmp rfl) (by rw [decide_eq_false (by omega)])) ?_
  refine JC.skip (JQ.then_normal (JC.seq (JC.seq (JC.region ?_))))
  refine J.m (.tmp rfl) rfl ?_
  refine J.m (.tmp rfl) rfl ?_
  refine J.o (ot_leq (.tmp rfl) (.tmp rfl)) rfl ?_
  refine J.nil (JQ.then_normal ?_)
  refine JC.cond_false (.eq (.tmp rfl) (by rw [decide_eq_false (by omega)])) ?_
  refine JC.skip (JQ.then_normal (JC.seq (JC.seq (JC.region ?_))))
  refine J.m (.tmp rfl) rfl ?_
  refine J.o (ot_eql (.tmp rfl) .is) rfl ?_
  refine J.nil (JQ.then_normal ?_)
  refine JC.cond_true (.eq (.tmp rfl) (by rfl)) ?_
  refine JC.seq ?_
  refine JC.draw (Γ' := ?g1) mo (by kernel_rfl) ?tw1 ?k1
  case tw1 =>
    refine TW.m (.tmp rfl) rfl ?_
    refine TW.m (.tmp rfl) rfl ?_
    refine TW.o (ot_quo (.tmp rfl) (.tmp rfl) (by omega) (w_quo hx)) rfl ?_
    refine TW.m (.tmp rfl) rfl ?_
    refine TW.m (.tmp rfl) rfl ?_
    refine TW.o (ot_rem (.tmp rfl) (.tmp rfl) (by omega) w_rem) rfl ?_
    refine TW.o (ot_assign (.tmp rfl)) rfl ?_
    refine TW.o (ot_assign (.tmp rfl)) rfl ?_
    exact TW.nil
  refine JQ.then_normal (JC.ret (JQ.then_ret ?_))
  exact JQ.ret2 rfl (.tmp (.tmp rfl)) (.tmp (.tmp rfl))

theorem trimL_c (b c q n : Nat) (ds : List Nat) (hl : ds.length ≤ 17592186044416) (hn : n = ds.length) (hc : n ≤ c) (hne : trimD ds ≠ []) : CtrL Try.prog 56 [sIs b 0 (n) (c)] b 86 (cRow encD (ds) (q)) (cRow encD (ds) (q)) (sIs b 0 ((trimD ds).length) (c)) := by
  refine CtrL.of Try.func56 rfl Try.ntmps56 (Nat.le_of_ble_eq_true rfl) fun w0 M0 => ?_
  refine JC.seq (JC.region ?_)
  refine J.o (ot_assign (.nil (E := encD))) rfl ?_
  refine J.nil (JQ.then_normal (JC.seq (JC.region ?_)))
  refine J.m (.tmp rfl) rfl ?_
  refine J.o (ot_len_own (.tmp rfl) sl23 rfl) rfl ?_
  refine J.a (.tmp rfl) rfl ?_
  refine J.nil (JQ.then_normal (JC.seq (JC.block ?_)))
  refine JC.loop (ι := Nat) (fun i => [(0, sIs b 0 (n) (c)), (2, tSl encD ([])), (3, tIs (.int .i64 (((i : Nat) : Int))))]) (fun i => [⟨b, 86, cRow encD (ds) (q)⟩]) (fun i => i ≤ ds.length ∧ trimD (ds.take i) = trimD ds) (fun i => i) n ⟨by omega, by rw [hn, List.take_length]⟩ ?lsub0 ?round0
  case lsub0 => exact sub_trans (sub_heap (.keep (fun _ _ h => h) .nil)) (sub_cons (.tmp rfl) (sub_cons (.tmp rfl) (sub_cons (.tmp rfl) (sub_nil))))
  intro i hinv
  obtain ⟨hn1, hn2⟩ := hinv
  refine JC.seq (JC.seq (JC.region ?_))
  refine J.m (.tmp rfl) rfl ?_
  refine J.o (ot_gtr (.tmp rfl) .is) rfl ?_
  refine J.m (.tmp rfl) rfl ?_
  refine J.opg rfl rfl rfl (ltN rfl) (fun hg => ot_move (.tmp rfl)) rfl (ltN rfl) ?_
  refine J.opg rfl rfl rfl (ltN rfl) (fun hg => ot_move (.tmp rfl)) rfl (ltN rfl) ?_
  refine J.opg rfl rfl rfl (ltN rfl) (fun hg => (by have hg' := hg; (try simp only [bsx] at hg'); exact ot_sub (.iff hg (.tmp rfl)) .is (w64 (by omega) (by omega)))) rfl (ltN rfl) ?_
  refine J.opg rfl rfl rfl (ltN rfl) (fun hg => (by have hg' := hg; (try simp only [bsx] at hg'); exact ot_eqt (T' := pOwn b (0 + (i - 1) * 1)) (ot_index_own (.iff hg (.tmp rfl)) (.iff hg (.tmp rfl)) sl23 (by omega) (by omega)) (own_off2 (by omega)))) rfl (ltN rfl) ?_
  refine J.opg rfl rfl rfl (ltN rfl) (fun hg => (by have hg' := hg; (try simp only [bsx] at hg'); exact ot_load_own (.iff hg (.tmp rfl)) (.head _) sc86 (encD_row (digAtN (by omega))))) rfl (ltN rfl) ?_
  refine J.opg rfl rfl rfl (ltN rfl) (fun hg => ot_eql (.iff hg (.tmp rfl)) .is) rfl (ltN rfl) ?_
  refine J.o (ot_and2 (.tmp rfl) (.tmp rfl) .is) rfl ?_
  refine J.nil (JQ.then_normal ?_)
  refine JC.cond (.tmp rfl) (fun hc0 => ?_) (fun hc0 => ?_)
  · try simp only [bsx] at hc0
    have hs15 := hc0
    refine JC.skip (JQ.then_normal (JC.block (JC.region ?_)))
    refine J.m (.tmp rfl) rfl ?_
    refine J.o (ot_sub (.tmp rfl) .is (w64 (by omega) (by omega))) rfl ?_
    refine J.a (.tmp rfl) rfl ?_
    refine J.nil (JQ.block_normal ?_)
    exact JQ.round (i - 1) ⟨by omega, by rw [← hn2]; exact trimD_step (by omega) (by omega)⟩ (by omega) (sub_trans (sub_heap (.keep (fun _ _ h => h) .nil)) (sub_cons (.tmp rfl) (sub_cons (.tmp rfl) (sub_cons (.eq (.tmp rfl) (by first | rfl | (congr 3; omega) | (congr 2; omega))) (sub_nil)))))
  · try simp only [bsx] at hc0
    have hs15 := hc0
    refine JC.exit (JQ.then_exit (JQ.then_exit (JQ.block_exit (JQ.then_normal (JC.seq (JC.seq (JC.region ?_)))))))
    refine J.m (.tmp rfl) rfl ?_
    refine J.o (ot_eql (.tmp rfl) .is) rfl ?_
    refine J.nil (JQ.then_normal ?_)
    refine JC.cond (.tmp rfl) (fun hc1 => ?_) (fun hc1 => ?_)
    · try simp only [bsx] at hc1
      have hs19 := hc1
      exact absurd (show trimD ds = [] by rw [← hn2, show i = 0 by omega]; rfl) hne
    · try simp only [bsx] at hc1
      have hs19 := hc1
      have hlen : (trimD ds).length = i := by rw [← hn2, trimD_stop (by omega) (by omega), List.length_take]; omega
      refine JC.skip (JQ.then_normal (JC.seq (JC.region ?_)))
      refine J.m (.tmp rfl) rfl ?_
      refine J.m (.tmp rfl) rfl ?_
      refine J.o (ot_eqt (T' := sIs b 0 ((trimD ds).length) (c)) (ot_slice_own (l := 0) (h := i) (kl := .i64) (kh := .i64) (.tmp rfl) sl23 rfl (.eq (.tmp rfl) rfl) (by omega) (by omega) (.inr rfl)) (by congr 1 <;> omega)) rfl ?_
      refine J.a (.tmp rfl) rfl ?_
      refine J.nil (JQ.then_normal (JC.ret ?_))
      exact (JQ.retL1 rfl (.head _) (fun _ _ h => h) (.tmp rfl)).1

theorem shlO_c (ds : List Nat) (s : Nat) (hl : ds.length ≤ 1099511627776) (hs : s < 32) (h0 : 0 < val ds) : CtrO Try.prog 86 [tSl encD (ds), tIs (.int .i64 (((s : Nat) : Int)))] 86 ((dig (val ds * 2 ^ s)).length) ((trimD ds).length + 1) (fun cap => cRow encD (dig (val ds * 2 ^ s)) ((trimD ds).length + 1)) := by
  refine CtrO.know 0 rfl (fun _ _ h => slP_encD h) fun hd => ?_
  have ht := trimD_len ds
  have qd := digs_trimD hd
  have vd := val_trimD hd
  have hne := trimD_len_zero hd
  have qD := digs_snoc0 qd
  have hne2 := dig_ne (shl_pos (s := s) h0)
  refine CtrO.of Try.func86 rfl Try.ntmps86 (Nat.le_of_ble_eq_true rfl) fun w0 M0 => ?_
  refine JC.seq (JC.region ?_)
  refine J.o (ot_assign (.nil (E := encD))) rfl ?_
  refine J.nil (JQ.then_normal (JC.seq (JC.region ?_)))
  refine J.m (.tmp rfl) rfl ?_
  refine J.o (ot_call fn56 (trim_c ds (by omega)) (.cons (.tmp rfl) .nil)) rfl ?_
  refine J.a (.tmp rfl) rfl ?_
  refine J.nil (JQ.then_normal (JC.seq (JC.seq (JC.region ?_))))
  refine J.m (.tmp rfl) rfl ?_
  refine J.o (ot_len (.tmp rfl) sl23 rfl) rfl ?_
  refine J.o (ot_eql (.tmp rfl) .is) rfl ?_
  refine J.nil (JQ.then_normal ?_)
  refine JC.cond_false (.eq (.tmp rfl) (by rw [decide_eq_false (by omega)])) ?_
  refine JC.skip (JQ.then_normal (JC.seq (JC.region ?_)))
  refine J.m (.tmp rfl) rfl ?_
  refine J.o (ot_max (.tmp rfl) .is) rfl ?_
  refine J.o (ot_min (.tmp rfl) .is) rfl ?_
  refine J.a (.tmp rfl) rfl ?_
  refine J.nil (JQ.then_normal (JC.seq (JC.region ?_)))
  refine J.m (.tmp rfl) rfl ?_
  refine J.o (ot_quo (.tmp rfl) .is (by omega) (w_q32 hs)) rfl ?_
  refine J.m (.tmp rfl) rfl ?_
  refine J.o (ot_rem (.tmp rfl) .is (by omega) (w_r32 hs)) rfl ?_
  refine J.a (.tmp rfl) rfl ?_
  refine J.a (.tmp rfl) rfl ?_
  refine J.nil (JQ.then_normal (JC.seq (JC.region ?_)))
  refine J.m (.tmp rfl) rfl ?_
  refine J.m (.tmp rfl) rfl ?_
  refine J.o (ot_len (.tmp rfl) sl23 rfl) rfl ?_
  refine J.o (ot_add (.tmp rfl) (.tmp rfl) (w64 (by omega) (by omega))) rfl ?_
  refine J.o (ot_add (.tmp rfl) .is (w64 (by omega) (by omega))) rfl ?_
  refine J.make (E := encD) (z := 0) (n := (trimD ds).length + 1) sl23 (.eq (.tmp rfl) (by congr 2; omega)) (.eq (.tmp rfl) (by congr 2; omega)) zr86 (fun _ => encD_zero) (by decide) (by omega) (by omega) (ltN rfl) fun b28 => ?_
  refine J.a (.tmp rfl) rfl ?_
  refine J.nil (JQ.then_normal (JC.seq (JC.region ?_)))
  refine J.m (.tmp rfl) rfl ?_
  refine J.m (.tmp rfl) rfl ?_
  refine J.o (ot_eqt (T' := sIs b28 (0) ((trimD ds).length + 1) ((trimD ds).length + 1)) (ot_slice_own (l := 0) (h := (trimD ds).length + 1) (kl := .i64) (kh := .i64) (.tmp rfl) sl23 (.eq (.tmp rfl) (by rfl)) rfl (by omega) (by omega) (by omega)) (by congr 1 <;> omega)) rfl ?_
  refine J.m (.tmp rfl) rfl ?_
  refine J.copy (E := encD) (xs := List.replicate ((trimD ds).length + 1) 0) (ys := trimD ds) (k := 0) (.tmp rfl) (.tmp rfl) sl23 rfl .here (by omega) (by simp) (ltN rfl) ?_
  refine J.nil (JQ.then_normal (JC.seq (JC.seq (JC.region ?_))))
  refine J.m (.tmp rfl) rfl ?_
  refine J.o (ot_gtr (.tmp rfl) .is) rfl ?_
  refine J.nil (JQ.then_normal ?_)
  refine JC.cond (.tmp rfl) (fun hc1 => ?_) (fun hc1 => ?_)
  · try simp only [bsx] at hc1
    have hs35 := hc1
    refine JC.seq (JC.region ?_)
    refine J.a .is rfl ?_
    refine J.nil (JQ.then_normal (JC.seq (JC.region ?_)))
    refine J.m (.tmp rfl) rfl ?_
    refine J.a (.tmp rfl) rfl ?_
    refine J.nil (JQ.then_normal (JC.block ?_))
    refine JC.loop3 (α := Nat) (β := List Nat) (γ := Nat) (fun i O low => [(4, tSl encD ([])), (6, tIs (.int .i64 (((s : Nat) : Int)))), (7, sIs b28 0 ((trimD ds).length + 1) ((trimD ds).length + 1)), (8, tIs (.int .u32 (((low : Nat) : Int)))), (9, tIs (.int .i64 (((i : Nat) : Int))))]) (fun i O low => [⟨b28, 86, cRow encD (O) ((trimD ds).length + 1)⟩]) (fun i O low => i ≤ (trimD ds).length + 1 ∧ SInv (trimD ds ++ [0]) s i O low) (fun i O low => (trimD ds).length + 1 - i) 0 (trimD ds ++ [0]) 0 ⟨by omega, SInv.start qD⟩ ?lsub0 ?round0
    case lsub0 => exact sub_trans (sub_heap (.keep (cRow_eq (by simp [shl_copy])) .nil)) (sub_cons (.tmp rfl) (sub_cons (.tmp rfl) (sub_cons (.tmp rfl) (sub_cons (.eq (.tmp rfl) (by rfl)) (sub_cons (.eq (.tmp rfl) (by rfl)) (sub_nil))))))
    intro i O low hinv
    obtain ⟨hi, hI⟩ := hinv
    have hOl := hI.lO
    have hx := digs_at hI.dO i
    have hlow := hI.hl
    have hps := pow_s_lt hs
    rw [List.length_append, List.length_singleton] at hOl
    refine JC.seq (JC.seq (JC.region ?_))
    refine J.m (.tmp rfl) rfl ?_
    refine J.m (.tmp rfl) rfl ?_
    refine J.o (ot_len_own (.tmp rfl) sl23 rfl) rfl ?_
    refine J.o (ot_lss (.tmp rfl) (.tmp rfl)) rfl ?_
    refine J.nil (JQ.then_normal ?_)
    refine JC.cond (.tmp rfl) (fun hc2 => ?_) (fun hc2 => ?_)
    · try simp only [bsx] at hc2
      have hs40 := hc2
      refine JC.skip (JQ.then_normal (JC.seq (JC.block (JC.seq (JC.region ?_)))))
      refine J.m (.tmp rfl) rfl ?_
      refine J.m (.tmp rfl) rfl ?_
      refine J.o (ot_eqt (T' := pOwn b28 (0 + i * 1)) (ot_index_own (.tmp rfl) (.tmp rfl) sl23 (by omega) (by omega)) (own_off2 (by omega))) rfl ?_
      refine J.o (ot_load_own (.tmp rfl) (.head _) sc86 (encD_row (digAtN (by omega)))) rfl ?_
      refine J.a (.tmp rfl) rfl ?_
      refine J.nil (JQ.then_normal (JC.seq (JC.region ?_)))
      refine J.m (.tmp rfl) rfl ?_
      refine J.m (.tmp rfl) rfl ?_
      refine J.m (.tmp rfl) rfl ?_
      refine J.m (.tmp rfl) rfl ?_
      refine J.o (ot_shl (.tmp rfl) (.tmp rfl) (by omega) (w_shl hx hs)) rfl ?_
      refine J.m (.tmp rfl) rfl ?_
      refine J.o (ot_or (.tmp rfl) (.tmp rfl) (w_or hs hx hlow (hI.digit hs))) rfl ?_
      refine J.o (ot_eqt (T' := pOwn b28 (0 + i * 1)) (ot_index_own (.tmp rfl) (.tmp rfl) sl23 (by omega) (by omega)) (own_off2 (by omega))) rfl ?_
      refine J.store (.tmp rfl) (.sub (.tmp rfl) (encD_in (by omega) (by have := hI.digit hs; omega))) .here sz86 (row_set (by omega)) ?_
      refine J.nil (JQ.then_normal (JC.region ?_))
      refine J.m (.tmp rfl) rfl ?_
      refine J.m (.tmp rfl) rfl ?_
      refine J.o (ot_sub .is (.tmp rfl) (w64 (by omega) (by omega))) rfl ?_
      refine J.o (ot_shr (.tmp rfl) (.tmp rfl) (by omega) (w_shr (by omega))) rfl ?_
      refine J.a (.tmp rfl) rfl ?_
      refine J.nil (JQ.block_normal (JQ.then_normal (JC.region ?_)))
      refine J.m (.tmp rfl) rfl ?_
      refine J.o (ot_add (.tmp rfl) .is (w64 (by omega) (by omega))) rfl ?_
      refine J.a (.tmp rfl) rfl ?_
      refine J.nil ?_
      exact JQ.round3 (i := i) (i2 := O) (i3 := low) (i + 1) (O.set i (O.getD i 0 * 2 ^ s % 4294967296 + low)) (O.getD i 0 / 2 ^ (32 - s)) ⟨by omega, hI.next hs (by simp; omega)⟩ (by omega) (sub_trans (sub_heap (.keep (fun _ _ h => by first | exact h | simpa using h) .nil)) (sub_cons (.tmp rfl) (sub_cons (.tmp rfl) (sub_cons (.tmp rfl) (sub_cons (.eq (.tmp rfl) (by first | rfl | (congr 3; omega) | (congr 2; omega))) (sub_cons (.eq (.tmp rfl) (by first | rfl | (congr 3; omega) | (congr 2; omega))) (sub_nil)))))))
    · try simp only [bsx] at hc2
      have hs40 := hc2
      have hvO := (hI.done hs (by simp; omega) rfl qd).trans (by rw [vd])
      have hdO := hI.dO
      refine JC.exit (JQ.then_exit (JQ.then_exit (JQ.block_exit (JQ.then_normal (JC.seq (JC.region ?_))))))
      refine J.m (.tmp rfl) rfl ?_
      refine J.callL (R' := cRow encD (O) ((trimD ds).length + 1)) (Us := []) (cap := []) fn56 (.func (fun _ => rfl)) (trimL_c b28 ((trimD ds).length + 1) ((trimD ds).length + 1) ((trimD ds).length + 1) O (by omega) (by omega) (by omega) (by rw [trimD_eq hdO, hvO]; exact hne2)) (.cons (.tmp rfl) .nil) (fun _ => trivial) .here (ltN rfl) ?_
      refine J.weak (sub_heap (.keep (fun _ _ h => row_shl hdO hvO h) .nil)) ?_
      refine J.a (.tmp rfl) rfl ?_
      refine J.nil (JQ.then_normal (JC.ret ?_))
      exact JQ.retO (b := b28) (cap := (trimD ds).length + 1) (n := (dig (val ds * 2 ^ s)).length) (cp := (trimD ds).length + 1) (R := fun cap => cRow encD (dig (val ds * 2 ^ s)) ((trimD ds).length + 1)) rfl (.head _) (.eq (.tmp rfl) (by rw [trimD_eq hdO, hvO]))
  · try simp only [bsx] at hc1
    have hs35 := hc1
    have hs0 : s = 0 := by omega
    have hOl : ((trimD ds ++ [0])).length = (trimD ds).length + 1 := by simp
    have hdO := qD
    have hvO : val (trimD ds ++ [0]) = val ds * 2 ^ s := by rw [val_snoc0, vd, hs0]; simp
    refine JC.skip (JQ.then_normal (JC.seq ?_))
    refine JC.weak (sub_heap (H' := [⟨b28, 86, cRow encD ((trimD ds ++ [0])) ((trimD ds).length + 1)⟩]) (.keep (cRow_eq (shl_copy _)) .nil)) ?_
    refine JC.region ?_
    refine J.m (.tmp rfl) rfl ?_
    refine J.callL (R' := cRow encD ((trimD ds ++ [0])) ((trimD ds).length + 1)) (Us := []) (cap := []) fn56 (.func (fun _ => rfl)) (trimL_c b28 ((trimD ds).length + 1) ((trimD ds).length + 1) ((trimD ds).length + 1) (trimD ds ++ [0]) (by omega) (by omega) (by omega) (by rw [trimD_eq hdO, hvO]; exact hne2)) (.cons (.tmp rfl) .nil) (fun _ => trivial) .here (ltN rfl) ?_
    refine J.weak (sub_heap (.keep (fun _ _ h => row_shl hdO hvO h) .nil)) ?_
    refine J.a (.tmp rfl) rfl ?_
    refine J.nil (JQ.then_normal (JC.ret ?_))
    exact JQ.retO (b := b28) (cap := (trimD ds).length + 1) (n := (dig (val ds * 2 ^ s)).length) (cp := (trimD ds).length + 1) (R := fun cap => cRow encD (dig (val ds * 2 ^ s)) ((trimD ds).length + 1)) rfl (.head _) (.eq (.tmp rfl) (by rw [trimD_eq hdO, hvO]))

theorem shr_c (ds : List Nat) (s : Nat) (hl : ds.length ≤ 1099511627776) (hs : s < 32) : Ctr Try.prog 88 [tSl encD (ds), tIs (.int .i64 (((s : Nat) : Int)))] (tSl encD (dig (val ds / 2 ^ s))) := by
  refine Ctr.know 0 rfl (fun _ _ h => slP_encD h) fun hd => ?_
  have ht := trimD_len ds
  have qd := digs_trimD hd
  have vd := val_trimD hd
  have hne := trimD_len_zero hd
  refine Ctr.of Try.func88 rfl Try.ntmps88 (Nat.le_of_ble_eq_true rfl) fun w0 M0 => ?_
  refine JC.seq (JC.region ?_)
  refine J.o (ot_assign (.nil (E := encD))) rfl ?_
  refine J.nil (JQ.then_normal (JC.seq (JC.region ?_)))
  refine J.m (.tmp rfl) rfl ?_
  refine J.o (ot_call fn56 (trim_c ds (by omega)) (.cons (.tmp rfl) .nil)) rfl ?_
  refine J.a (.tmp rfl) rfl ?_
  refine J.nil (JQ.then_normal (JC.seq (JC.region ?_)))
  refine J.m (.tmp rfl) rfl ?_
  refine J.o (ot_max (.tmp rfl) .is) rfl ?_
  refine J.a (.tmp rfl) rfl ?_
  refine J.nil (JQ.then_normal (JC.seq (JC.region ?_)))
  refine J.m (.tmp rfl) rfl ?_
  refine J.o (ot_quo (.tmp rfl) .is (by omega) (w_q32' hs)) rfl ?_
  refine J.m (.tmp rfl) rfl ?_
  refine J.o (ot_rem (.tmp rfl) .is (by omega) (w_r32' hs)) rfl ?_
  refine J.a (.tmp rfl) rfl ?_
  refine J.a (.tmp rfl) rfl ?_
  refine J.nil (JQ.then_normal (JC.seq (JC.seq (JC.region ?_))))
  refine J.m (.tmp rfl) rfl ?_
  refine J.m (.tmp rfl) rfl ?_
  refine J.o (ot_len (.tmp rfl) sl23 rfl) rfl ?_
  refine J.o (ot_geq (.tmp rfl) (.tmp rfl)) rfl ?_
  refine J.nil (JQ.then_normal ?_)
  refine JC.cond (.tmp rfl) (fun hc0 => ?_) (fun hc0 => ?_)
  · try simp only [bsx] at hc0
    have hs21 := hc0
    refine JC.seq (JC.region ?_)
    refine J.o (ot_assign (.nil (E := encD))) rfl ?_
    refine J.nil (JQ.then_normal (JC.ret (JQ.then_ret ?_)))
    exact JQ.ret1 rfl (.tmp (.eq (.tmp rfl) (by rw [show val ds = 0 from hne.1 (by omega), Nat.zero_div, dig_zero])))
  · try simp only [bsx] at hc0
    have hs21 := hc0
    refine JC.skip (JQ.then_normal (JC.seq (JC.region ?_)))
    refine J.m (.tmp rfl) rfl ?_
    refine J.m (.tmp rfl) rfl ?_
    refine J.o (ot_eqt (T' := tSl encD (trimD ds)) (ot_slice (E := encD) (xs := trimD ds) (l := 0) (h := (trimD ds).length) (kl := .i64) (kh := .i64) (.tmp rfl) sl23 (.eq (.tmp rfl) (by rfl)) rfl (by omega) (by omega)) (by rw [List.drop_zero, Nat.sub_zero, List.take_length])) rfl ?_
    refine J.append0 (E := encD) (ys := trimD ds) .z (.tmp rfl) (by intro h; have : (trimD ds).length = 0 := (by rw [h]; rfl); omega) sl23 rfl zr86 rfl (by omega) (by omega) (ltN rfl) fun b25 c25 => ?_
    refine J.a (.tmp rfl) rfl ?_
    refine J.nil (JQ.then_normal (JC.seq (JC.seq (JC.region ?_))))
    refine J.m (.tmp rfl) rfl ?_
    refine J.o (ot_gtr (.tmp rfl) .is) rfl ?_
    refine J.nil (JQ.then_normal ?_)
    refine JC.cond (.tmp rfl) (fun hc1 => ?_) (fun hc1 => ?_)
    · try simp only [bsx] at hc1
      have hs27 := hc1
      refine JC.seq (JC.region ?_)
      refine J.m (.tmp rfl) rfl ?_
      refine J.o (ot_len_own (.tmp rfl) sl23 rfl) rfl ?_
      refine J.m .is rfl ?_
      refine J.nil (JQ.then_normal (JC.block ?_))
      refine JC.loop2 (α := Nat) (β := List Nat) (fun i O => [(4, tSl encD ([])), (6, tIs (.int .i64 (((s : Nat) : Int)))), (7, sIs b25 0 ((trimD ds).length) (c25)), (29, tIs (.int .i64 ((((trimD ds).length : Nat) : Int)))), (30, tIs (.int .i64 (((i : Nat) : Int))))]) (fun i O => [⟨b25, 86, cRow encD (O) (c25)⟩]) (fun i O => i ≤ (trimD ds).length ∧ HInv (trimD ds) s i O) (fun i O => (trimD ds).length - i) 0 (trimD ds) ⟨by omega, HInv.start qd⟩ ?lsub0 ?round0
      case lsub0 => exact sub_trans (sub_heap (.keep (fun _ _ h => by first | exact h | simpa using h) .nil)) (sub_cons (.tmp rfl) (sub_cons (.tmp rfl) (sub_cons (.tmp rfl) (sub_cons (.tmp rfl) (sub_cons (.eq (.tmp rfl) (by first | rfl | (congr 3; omega) | (congr 2; omega))) (sub_nil))))))
      intro i O hinv
      obtain ⟨hi, hI⟩ := hinv
      have hOl := hI.lO
      have hx := digs_at hI.dO i
      have hx1 := digs_at hI.dO (i + 1)
      have hps := pow_s_lt hs
      refine JC.seq (JC.region ?_)
      refine J.o (ot_lss (.tmp rfl) (.tmp rfl)) rfl ?_
      refine J.nil (JQ.then_normal (JC.seq ?_))
      refine JC.cond (.tmp rfl) (fun hc2 => ?_) (fun hc2 => ?_)
      · try simp only [bsx] at hc2
        have hs31 := hc2
        refine JC.skip (JQ.then_normal (JC.seq (JC.block (JC.seq (JC.region ?_)))))
        refine J.m (.tmp rfl) rfl ?_
        refine J.a (.tmp rfl) rfl ?_
        refine J.nil (JQ.then_normal (JC.seq (JC.region ?_)))
        refine J.a .is rfl ?_
        refine J.nil (JQ.then_normal ?_)
        refine JC.join1 (α := Nat) (fun y => [(4, tSl encD ([])), (6, tIs (.int .i64 (((s : Nat) : Int)))), (7, sIs b25 0 ((trimD ds).length) (c25)), (8, tIs (.int .i64 (((i : Nat) : Int)))), (9, tIs (.int .u32 (((y % 2 ^ s * 2 ^ (32 - s) : Nat) : Int)))), (29, tIs (.int .i64 ((((trimD ds).length : Nat) : Int)))), (30, tIs (.int .i64 (((i : Nat) : Int)))), (31, tIs (.bool (decide (((i : Nat) : Int) < (((trimD ds).length : Nat) : Int))))), (32, tIs (.int .i64 (((i : Nat) : Int))))]) (fun y => [⟨b25, 86, cRow encD (O) (c25)⟩]) (fun y => y = (trimD ds).getD (i + 1) 0) ?way1 ?on1
        case way1 =>
          refine JC.seq (JC.region ?_)
          refine J.m (.tmp rfl) rfl ?_
          refine J.o (ot_add (.tmp rfl) .is (w64 (by omega) (by omega))) rfl ?_
          refine J.m (.tmp rfl) rfl ?_
          refine J.o (ot_len_own (.tmp rfl) sl23 rfl) rfl ?_
          refine J.o (ot_lss (.tmp rfl) (.tmp rfl)) rfl ?_
          refine J.nil (JQ.then_normal ?_)
          refine JC.cond (.tmp rfl) (fun hc3 => ?_) (fun hc3 => ?_)
          · try simp only [bsx] at hc3
            have hs37 := hc3
            refine JC.region ?_
            refine J.m (.tmp rfl) rfl ?_
            refine J.m (.tmp rfl) rfl ?_
            refine J.o (ot_add (.tmp rfl) .is (w64 (by omega) (by omega))) rfl ?_
            refine J.o (ot_eqt (T' := pOwn b25 (0 + (i + 1) * 1)) (ot_index_own (.tmp rfl) (.tmp rfl) sl23 (by omega) (by omega)) (own_off2 (by omega))) rfl ?_
            refine J.o (ot_load_own (.tmp rfl) (.head _) sc86 (encD_row (digAtN (by omega)))) rfl ?_
            refine J.m (.tmp rfl) rfl ?_
            refine J.o (ot_sub .is (.tmp rfl) (w64 (by omega) (by omega))) rfl ?_
            refine J.o (ot_shl (.tmp rfl) (.tmp rfl) (by omega) (w_shl2 hx1 hs (by omega))) rfl ?_
            refine J.a (.tmp rfl) rfl ?_
            refine J.nil ?_
            exact JQ.join1 (O.getD (i + 1) 0) (hI.same _ (by omega)) (sub_trans (sub_heap (.keep (fun _ _ h => h) .nil)) (sub_cons (.tmp rfl) (sub_cons (.tmp rfl) (sub_cons (.tmp rfl) (sub_cons (.tmp rfl) (sub_cons (.eq (.tmp rfl) (by first | rfl | (congr 3; omega) | (congr 2; omega))) (sub_cons (.tmp rfl) (sub_cons (.tmp rfl) (sub_cons (.tmp rfl) (sub_cons (.tmp rfl) (sub_nil)))))))))))
          · try simp only [bsx] at hc3
            have hs37 := hc3
            refine JC.skip ?_
            exact JQ.join1 0 (by rw [getD_ge (by omega)]) (sub_trans (sub_heap (.keep (fun _ _ h => h) .nil)) (sub_cons (.tmp rfl) (sub_cons (.tmp rfl) (sub_cons (.tmp rfl) (sub_cons (.tmp rfl) (sub_cons (.eq (.tmp rfl) (by rw [Nat.zero_mod, Nat.zero_mul]; rfl)) (sub_cons (.tmp rfl) (sub_cons (.tmp rfl) (sub_cons (.tmp rfl) (sub_cons (.tmp rfl) (sub_nil)))))))))))
        intro y hj12
        have hyy := hj12
        have hsp := (shr_parts (x := O.getD i 0) (h := y) hs (by omega) hx).2.2
        refine JC.region ?_
        refine J.m (.tmp rfl) rfl ?_
        refine J.m (.tmp rfl) rfl ?_
        refine J.m (.tmp rfl) rfl ?_
        refine J.m (.tmp rfl) rfl ?_
        refine J.o (ot_eqt (T' := pOwn b25 (0 + i * 1)) (ot_index_own (.tmp rfl) (.tmp rfl) sl23 (by omega) (by omega)) (own_off2 (by omega))) rfl ?_
        refine J.o (ot_load_own (.tmp rfl) (.head _) sc86 (encD_row (digAtN (by omega)))) rfl ?_
        refine J.m (.tmp rfl) rfl ?_
        refine J.o (ot_shr (.tmp rfl) (.tmp rfl) (by omega) (w_shr2 (by omega))) rfl ?_
        refine J.m (.tmp rfl) rfl ?_
        refine J.o (ot_or (.tmp rfl) (.tmp rfl) (w_or2 hs (by omega) hx)) rfl ?_
        refine J.o (ot_eqt (T' := pOwn b25 (0 + i * 1)) (ot_index_own (.tmp rfl) (.tmp rfl) sl23 (by omega) (by omega)) (own_off2 (by omega))) rfl ?_
        refine J.store (.tmp rfl) (.sub (.tmp rfl) (encD_in (Int.natCast_nonneg _) (Int.ofNat_lt.2 hsp))) .here sz86 (row_set (by omega)) ?_
        refine J.nil (JQ.block_normal (JQ.then_normal (JC.region ?_)))
        refine J.o (ot_add (.tmp rfl) .is (w64 (by omega) (by omega))) rfl ?_
        refine J.m (.tmp rfl) rfl ?_
        refine J.nil ?_
        exact JQ.round2 (i := i) (i2 := O) (i + 1) (O.set i (O.getD i 0 / 2 ^ s + (trimD ds).getD (i + 1) 0 % 2 ^ s * 2 ^ (32 - s))) ⟨by omega, hI.next hs (by omega) (by omega)⟩ (by omega) (sub_trans (sub_heap (.keep (cRow_eq (by rw [Int.toNat_natCast, hyy])) .nil)) (sub_cons (.tmp rfl) (sub_cons (.tmp rfl) (sub_cons (.tmp rfl) (sub_cons (.tmp rfl) (sub_cons (.eq (.tmp rfl) (by first | rfl | (congr 3; omega) | (congr 2; omega))) (sub_nil)))))))
      · try simp only [bsx] at hc2
        have hs31 := hc2
        have hvO := (hI.done (by omega)).trans (by rw [vd])
        have hdO := hI.dO
        refine JC.exit (JQ.then_exit (JQ.then_exit (JQ.block_exit (JQ.then_normal (JC.seq ?_)))))
        refine JC.weak (sub_freeze0 (E := encD) (xs := O) (n := (trimD ds).length) (c := c25) [7] ⟨rfl, trivial⟩ .here (by omega) (by omega)) ?_
        refine JC.region ?_
        refine J.m (.tmp rfl) rfl ?_
        refine J.o (ot_call fn56 (trim_c O (by omega)) (.cons (.tmp rfl) .nil)) rfl ?_
        refine J.a (.tmp rfl) rfl ?_
        refine J.nil (JQ.then_normal (JC.ret ?_))
        exact JQ.ret1 rfl (.tmp (.eq (.tmp rfl) (by rw [trimD_eq hdO, hvO])))
    · try simp only [bsx] at hc1
      have hs27 := hc1
      have hs0 : s = 0 := by omega
      have hdO := qd
      have hvO : val (trimD ds) = val ds / 2 ^ s := by rw [vd, hs0]; simp
      have hOl : (trimD ds).length = (trimD ds).length := rfl
      refine JC.skip (JQ.then_normal (JC.seq ?_))
      refine JC.weak (sub_freeze0 (E := encD) (xs := trimD ds) (n := (trimD ds).length) (c := c25) [7, 25] ⟨rfl, rfl, trivial⟩ .here (by omega) (by omega)) ?_
      refine JC.region ?_
      refine J.m (.tmp rfl) rfl ?_
      refine J.o (ot_call fn56 (trim_c (trimD ds) (by omega)) (.cons (.tmp rfl) .nil)) rfl ?_
      refine J.a (.tmp rfl) rfl ?_
      refine J.nil (JQ.then_normal (JC.ret ?_))
      exact JQ.ret1 rfl (.tmp (.eq (.tmp rfl) (by rw [trimD_eq hdO, hvO])))

end Go.Proofs.Ytkpmcldbcljkfaa
