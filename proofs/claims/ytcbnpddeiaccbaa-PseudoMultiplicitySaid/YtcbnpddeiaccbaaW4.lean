/- Walks through the program: each function called at values of the kinds that its contract names returns what the contract says. Conditions: those in the contracts. Written by the program wip/gen. -/
import Derived.Test.YtcbnpddeiaccbaaW3
set_option linter.unusedVariables false
set_option linter.unusedSimpArgs false
set_option maxRecDepth 100000
set_option maxHeartbeats 4000000
namespace Go.Proofs.Ytcbnpddeiaccbaa
open Go Go.RowKit Go.Rt
theorem signN_c {B : Nat} (ts : List Tm) (hl : ts.length ≤ 4294967295) (hd : ∀ t ∈ ts, U7 t.coef.abs) (hz : ∀ t ∈ ts, t.coef.abs.length ≤ B) (hb : B ≤ 90000000000) (hne : Q4 ts ≠ []) : Ctr Try.prog 66 [tSl X5 ts] (tSl X5 (sgnT (Q4 ts))) := by
 obtain ⟨hl2, hd2, hz1, hz2, hz3, hc, hdv⟩ := sgnF hl hd hz hne
 have hlp : 0 < (Q4 ts).length := by rcases Nat.eq_zero_or_pos (Q4 ts).length with h | h; exact absurd (List.eq_nil_of_length_eq_zero h) hne; exact h
 have hcB : (ofI (contS (Q4 ts))).abs.length ≤ 100000000000 := Nat.le_trans (contB (ts := Q4 ts) hz3) (by omega)
 have hcl : (ofI (contS (Q4 ts))).abs.length ≤ 1099511627776 := Nat.le_trans hcB (by omega)
 refine Ctr.of Try.func66 rfl Try.ntmps66 (Nat.le_of_ble_eq_true rfl) fun w0 M0 => (JC.g ?_)
 refine J.o (Y2 (.nil (E := X5))) rfl (J.e (JC.g (J.M rfl rfl ?_)))
 refine J.callO (R := fun cap => Y5 X5 (Q4 ts) cap) fn93 (normOG_c ts hl hd hz1 (by omega) hne) (.cons (.t rfl) .nil) (ltN rfl) fun b7 cap7 => (J.A rfl rfl (J.e (JC.seq (JC.g (J.M rfl rfl ?_)))))
 refine J.o (T8 (.t rfl) R3 rfl) rfl (J.o (U5 (.t rfl) .is) rfl (J.e ?_))
 refine JC.cond_false (.eq (.t rfl) (by rw [decide_eq_false (by omega)])) (JC.skip (JQ.then_normal (JC.g (J.M rfl rfl ?_))))
 refine J.callL (R' := Y5 X5 (Q4 ts) cap7) (Us := []) (cap := []) fn99 (.func (fun _ => rfl)) (contN_c b7 (Q4 ts).length cap7 (Q4 ts) hl2 hd2 hz2 (by omega) (fun t h => Nat.le_trans (hz3 t h) (by omega))) (.cons (.t rfl) .nil) (fun _ => trivial) .here (ltN rfl) ?_
 refine J.alloc (R := cTs [tIs (.bool false), tSl X8 ([])]) zr25 (fun _ => ⟨rfl, rfl, Q9 _ _, rfl, trivial⟩) (ltN rfl) fun b4 => ?_
 refine J.store (.t rfl) (.eq (.t rfl) (K2 (Ts := (iT (ofI (contS (Q4 ts))))) rfl)) .here sz25 (Z4 (Ts' := (iT (ofI (contS (Q4 ts))))) (o := 0) rfl) (J.e ?_)
 refine JC.join1 (α := Int) (fun g => [(2, tSl X5 ([])), (3, sIs b7 0 ((Q4 ts).length) ((Q4 ts).length)), (4, X7 b4 0)]) (fun g => [⟨b4, 25, cTs (iT (ofI g))⟩, ⟨b7, 97, Y5 X5 (Q4 ts) cap7⟩]) (fun g => g = signO ts) ?way1 ?on1
 case way1 =>
  refine (JC.g (J.M rfl rfl ?_))
  refine J.o (X9 (T' := X7 b7 (0 + 0 * 6)) (oix (.t rfl) .is R3 (by omega) (by omega)) (Z7 (by omega))) rfl (J.o (ofa (.t rfl) fd97_0) rfl (J.o (oa (.t rfl) (.tail _ (.head _)) ag25 (row_aggF (n := 6) (m := 2) (off := 0) (g := zT) (y := (atT (Q4 ts) 0).coef) (atT_some (by omega)) rfl rfl)) rfl ?_))
  refine J.o (oc fn35 (intSign_c ((atT (Q4 ts) 0).coef) (Nat.le_trans (hz2 _ (atT_mem (by omega))) (by omega))) (.cons (.t rfl) .nil)) rfl (J.o (Y6 (.t rfl) .is) rfl (J.e ?_))
  refine JC.cond (.t rfl) (fun hc1 => ?_) (fun hc1 => ?_)
  ·try simp only [bsx] at hc1
   have hs18 := hc1
   refine JC.region (J.o (oa (.t rfl) (.head _) ag25 (Q6 (g := zT) (y := (ofI (contS (Q4 ts)))) rfl rfl)) rfl ?_)
   refine J.o (X9 (T' := tV R9 (ofI (- contS (Q4 ts)))) (oc fn100 (intNeg_c (ofI (contS (Q4 ts))) hcl) (.cons (.t rfl) .nil)) (by rw [Y9])) rfl ?_
   refine J.store (.t rfl) (.eq (.t rfl) (K2 (Ts := (iT (ofI (- contS (Q4 ts))))) rfl)) .here sz25 (Z4 (Ts' := (iT (ofI (- contS (Q4 ts))))) (o := 0) rfl) (J.nil ?_)
   exact JQ.join1 (- contS (Q4 ts)) (by rw [signO, if_pos (by rcases N0 (X4 (atT (Q4 ts) 0).coef) with h | h | h <;> omega)]) (Q8 (X3 (.k (.k .nil))) (Z3 ⟨.t rfl, .t rfl, .t rfl, trivial⟩))
  ·try simp only [bsx] at hc1
   have hs18 := hc1
   refine JC.skip ?_
   exact JQ.join1 (contS (Q4 ts)) (by rw [signO, if_neg (by rcases N0 (X4 (atT (Q4 ts) 0).coef) with h | h | h <;> omega)]) (Q8 (X3 (.k (.k .nil))) (Z3 ⟨.t rfl, .t rfl, .t rfl, trivial⟩))
 intro g hj5
 have hgc := hj5
 refine JC.seq (JC.g (J.M rfl rfl ?_))
 refine J.o (T8 (.t rfl) R3 rfl) rfl ?_
 refine J.m .is rfl (J.e (JC.block ?_))
 refine JC.loop (ι := Nat) (fun k => [(2, tSl X5 ([])), (3, sIs b7 0 ((Q4 ts).length) ((Q4 ts).length)), (4, X7 b4 0), (22, tIs (.int .i64 ((((Q4 ts).length : Nat) : Int)))), (23, tIs (.int .i64 (k : Int)))]) (fun k => [⟨b4, 25, cTs (iT (ofI g))⟩, ⟨b7, 97, Y5 X5 ((fillT (divT g) (Q4 ts) k)) cap7⟩]) (fun k => k ≤ (Q4 ts).length) (fun k => (Q4 ts).length - k) 0 (by omega) ?lsub0 ?round0
 case lsub0 => exact Q8 (X3 (.k (.keep (K8 fillT_zero) .nil))) (Z3 ⟨.t rfl, .t rfl, .t rfl, .t rfl, .eq (.t rfl) (by first | rfl | (congr 3; omega) | (congr 2; omega)), trivial⟩)
 intro k hinv
 have hfl := fillT_len (f := divT g) (ts := Q4 ts) k
 refine (JC.g (J.o (Y6 (.t rfl) (.t rfl)) rfl (J.e (JC.seq ?_))))
 refine JC.cond (.t rfl) (fun hc2 => ?_) (fun hc2 => ?_)
 ·try simp only [bsx] at hc2
  have hs24 := hc2
  refine JC.skip (JQ.then_normal (JC.seq (JC.block (JC.g (J.M rfl rfl (J.A rfl rfl (J.e ?_)))))))
  refine JC.drawS (Γ' := ?g1) (H' := [⟨b4, 25, cTs (iT (ofI g))⟩, ⟨b7, 97, Y5 X5 (((fillT (divT g) (Q4 ts) k)).set k (Tm.mk (ofI (X4 (atT (Q4 ts) k).coef / g)) ((atT (Q4 ts) k).exp))) cap7⟩]) 14 (fun i => [11].contains i) mo (by kernel_rfl) rfl ?tw1 ?st1 ?k1
  case tw1 =>
   refine TS.op (Y0 (.t rfl)) rfl (ltN rfl) rfl rfl ?_
   refine TS.op (Y0 (.t rfl)) rfl (ltN rfl) rfl rfl ?_
   refine TS.op (Y0 (.t rfl)) rfl (ltN rfl) rfl rfl ?_
   refine TS.op (Y0 (.t rfl)) rfl (ltN rfl) rfl rfl ?_
   refine TS.op (X9 (T' := X7 b7 (0 + k * 6)) (oix (.t rfl) (.t rfl) R3 (by omega) (by omega)) (Z7 (by omega))) rfl (ltN rfl) rfl rfl ?_
   refine TS.op (ofa (.t rfl) fd97_0) rfl (ltN rfl) rfl rfl ?_
   refine TS.op (oa (.t rfl) (.tail _ (.head _)) ag25 (row_aggF (n := 6) (m := 2) (off := 0) (g := zT) (y := (atT (Q4 ts) k).coef) (fillT_el (by omega)) rfl rfl)) rfl (ltN rfl) rfl rfl ?_
   refine TS.op (oa (.t rfl) (.head _) ag25 (Q6 (g := zT) (y := (ofI g)) rfl rfl)) rfl (ltN rfl) rfl rfl ?_
   refine TS.op (X9 (T' := V5 [tV R9 (ofI (X4 (atT (Q4 ts) k).coef / g)), tIs (.int .i64 0)]) (oc fn101 (dexactG_c ((atT (Q4 ts) k).coef) (ofI g) (Nat.le_trans (hz2 _ (atT_mem (by omega))) (by omega)) (signO_lenB hgc hcB) (signO_valB hgc hc)) (.cons (.t rfl) (.cons (.t rfl) .nil))) (by rw [Y9, if_pos (hgc ▸ hdv _ (atT_mem (by omega))), if_pos (hgc ▸ hdv _ (atT_mem (by omega)))])) rfl (ltN rfl) rfl rfl ?_
   refine TS.op (Y0 (.t rfl)) rfl (ltN rfl) rfl rfl ?_
   refine TS.op (Z1 (.t rfl) rfl) rfl (ltN rfl) rfl rfl ?_
   refine TS.opf (fun _ => Z1 (.t rfl) rfl) rfl (ltN rfl) rfl ?_
   refine TS.op (X9 (T' := X7 b7 (0 + k * 6)) (oix (.t rfl) (.t rfl) R3 (by omega) (by omega)) (Z7 (by omega))) rfl (ltN rfl) rfl rfl ?_
   refine TS.op (ofa (.t rfl) fd97_0) rfl (ltN rfl) rfl rfl ?_
   exact TS.nil
  case st1 =>
   intro Γx hx
   refine ⟨rfl, J.done fun Q hq => ?_⟩
   refine J.store (.move hx (.t rfl) (by kernel_rfl)) (.move hx (.t rfl) (by kernel_rfl)) (.there .here) sz25 (row_setF (n := 6) (m := 2) (off := 0) (i := k) (x := atT (Q4 ts) k) (x' := Tm.mk (ofI (X4 (atT (Q4 ts) k).coef / g)) ((atT (Q4 ts) k).exp)) (y := ofI (X4 (atT (Q4 ts) k).coef / g)) (fillT_el (by omega)) rfl rfl) ?_
   exact J.nil hq
  refine JQ.block_normal (JQ.then_normal (JC.region ?_))
  refine J.o (Z6 (.t rfl) .is (w64 (by omega) (by omega))) rfl (J.M rfl rfl (J.nil ?_))
  exact JQ.round (k + 1) (by omega) (by omega) (Q8 (X3 (.k (.keep (K8 (fillT_set (by omega))) .nil))) (Z3 ⟨.t rfl, .t rfl, .t rfl, .t rfl, .eq (.t rfl) (by first | rfl | (congr 3; omega) | (congr 2; omega)), trivial⟩))
 ·try simp only [bsx] at hc2
  have hs24 := hc2
  refine JC.exit (JQ.then_exit (JQ.then_exit (JQ.block_exit (JQ.then_normal (JC.seq ?_)))))
  refine JC.weak (U9 (E := X5) (xs := (fillT (divT g) (Q4 ts) k)) (n := (Q4 ts).length) (c := (Q4 ts).length) [3] ⟨rfl, trivial⟩ (.there .here) (by rw [fillT_len]) (by omega)) (JC.region (J.M rfl rfl (J.A rfl rfl (J.e (JC.ret ?_)))))
  exact JQ.ret1 rfl (.tmp (.eq (.t rfl) (by rw [fillT_full (by omega), hgc, signO_lc]; rfl)))

theorem sptermsG_c {B : Nat} (ts : List Tm) (hl : ts.length ≤ 4294967295) (hd : ∀ t ∈ ts, U7 t.coef.abs) (hz : ∀ t ∈ ts, t.coef.abs.length ≤ B) (hb : B ≤ 1000000000000) : Ctr Try.prog 71 [tSl X5 ts] (tClo 102 [tPtr (cTs [tSl X5 (Q4 ts)])]) := by
 refine Ctr.of Try.func71 rfl Try.ntmps71 (Nat.le_of_ble_eq_true rfl) fun w0 M0 => (JC.g ?_)
 refine J.a .is rfl (J.e (JC.g (J.M rfl rfl ?_)))
 refine J.o (oc fn93 (normSG_c ts (by assumption) (by assumption) (by assumption) (by assumption)) (.cons (.t rfl) .nil)) rfl ?_
 refine J.alloc (R := cTs [tSl X5 ([])]) zr54 (fun _ => ⟨Q9 _ _, rfl, trivial⟩) (ltN rfl) fun b3 => ?_
 refine J.store (.t rfl) (.t rfl) .here sz54 (st_cell (o := 0) one_sl rfl) (J.e (JC.seq ?_))
 refine JC.weak (sub_freezeP (R' := cTs [tSl X5 (Q4 ts)]) [3] ⟨rfl, trivial⟩ .here (fun _ _ h => h)) (JC.region ?_)
 refine J.o (ot_clo (.cons (.t rfl) .nil)) rfl (J.A rfl rfl (J.e (JC.ret ?_)))
 exact JQ.ret1 rfl (.tmp (.t rfl))

theorem ofG_c {B D : Nat} (ts : List Tm) (hl : ts.length ≤ 4294967295) (hd : ∀ t ∈ ts, U7 t.coef.abs) (hz : ∀ t ∈ ts, t.coef.abs.length ≤ B) (hb : B ≤ 1000000000000) (hm : ∀ t ∈ Q4 ts, ∀ i, i < 4 → t.exp.at i < 4294967295) (hc : ∀ t ∈ Q4 ts, t.coef.abs.length ≤ D) (hD : D ≤ 100000000000) : Ctr Try.prog 27 [tSl X5 ts] (tV Q5 (ofS (Q4 ts))) := by
 have hnl : (Q4 ts).length ≤ 4294967295 := Nat.le_trans (normS_len ts) hl
 have hcf : ∀ t ∈ Q4 ts, (ofI (X4 t.coef)).abs.length ≤ D := fun t h => by rw [← normS_ofI h]; exact hc t h
 have hm2 : ∀ t ∈ Q4 ts, ∀ i, i < 4 → t.exp.at i < 4294967296 := fun t h i hi => by have := hm t h i hi; omega
 refine Ctr.ofM Try.func27 rfl Try.ntmps27 (Nat.le_of_ble_eq_true rfl) fun w0 M0 => (JC.g ?_)
 refine J.alloc (R := cTs zP) W9 (fun _ => ⟨rfl, rfl, rfl, rfl, Q9 _ _, rfl, Q9 _ _, rfl, trivial⟩) (ltN rfl) fun b2 => (J.e (JC.g ?_))
 refine J.o (X9 (T' := tV Q5 (Pol.mk 0 (Z.mk false ([])) ([]))) (V7 (Ts := zP) pl28 (fun _ => ⟨rfl, rfl, rfl, rfl, Q9 _ _, rfl, Q9 _ _, rfl, trivial⟩) (.nil) rfl) (tV_F' (Q0 _))) rfl ?_
 refine J.alloc (R := cTs zP) W9 (fun _ => ⟨rfl, rfl, rfl, rfl, Q9 _ _, rfl, Q9 _ _, rfl, trivial⟩) (ltN rfl) fun b3 => ?_
 refine J.store (.t rfl) (.eq (.t rfl) (K2 (Ts := zP) (Q0 _))) .here U4 (Z4 (Ts' := zP) (o := 0) rfl) (J.e (JC.seq (JC.g (J.M rfl rfl ?_))))
 refine J.o (oc fn71 (sptermsG_c ts (by assumption) (by assumption) (by assumption) (by assumption)) (.cons (.t rfl) .nil)) rfl (J.e (JC.block ?_))
 refine JC.rangeFunc (ps := [13, 14]) (f := 102) (Us := [tPtr (cTs [tSl X5 (Q4 ts)])]) (n := (Q4 ts).length) (Ts := fun k => [tV encMo ((atT (Q4 ts) k).exp), tV R9 (ofI (X4 (atT (Q4 ts) k).coef))]) (Γ0 := [(2, X7 b2 0), (3, X7 b3 0), (12, tClo 102 [tPtr (cTs [tSl X5 (Q4 ts)])])]) (fun k => [⟨b3, 28, cTs (pT (ofK (Q4 ts) k))⟩, ⟨b2, 28, cTs zP⟩]) (.t rfl) fn102 (termsY (Q4 ts) (by omega) (fun t h => Nat.le_trans (hc t h) (by omega))) rfl ?rs0 (fun _ => rfl) rfl (fun _ => rfl) ?rr0 ?rd0
 case rs0 => exact Q8 (X3 (.k (.k .nil))) (Z3 ⟨.t rfl, .t rfl, .t rfl, trivial⟩)
 case rr0 =>
  intro k hk l w0 M0 L Q1 hend1
  have hmk := hm _ (atT_mem hk)
  have hck := hcf _ (atT_mem hk)
  have hft := ofK_fit hm2 hcf k (by omega)
  have htf := termP_fit (hm2 _ (atT_mem hk)) hck
  refine JCR.weak (Γ' := [(14, tV R9 (ofI (X4 (atT (Q4 ts) k).coef))), (13, tV encMo ((atT (Q4 ts) k).exp)), (2, X7 b2 0), (3, X7 b3 0), (12, tClo 102 [tPtr (cTs [tSl X5 (Q4 ts)])])]) (H' := [⟨b3, 28, cTs (pT (ofK (Q4 ts) k))⟩, ⟨b2, 28, cTs zP⟩]) (fun _ _ h => h) ?_
  refine JCR.seq (JCR.region ?_)
  refine J.alloc (R := cTs [tIs (.int .i64 0), tIs (.int .i64 0), tIs (.int .i64 0), tIs (.int .i64 0)]) zr95 (fun _ => ⟨rfl, rfl, rfl, rfl, rfl, rfl, rfl, rfl, trivial⟩) (ltN rfl) fun b4 => ?_
  refine J.store (.t rfl) (.eq (.t rfl) (K2 (Ts := [tIs (.int .i64 (((atT (Q4 ts) k).exp).a)), tIs (.int .i64 (((atT (Q4 ts) k).exp).b)), tIs (.int .i64 (((atT (Q4 ts) k).exp).c)), tIs (.int .i64 (((atT (Q4 ts) k).exp).d))]) rfl)) .here sz95 (Z4 (Ts' := [tIs (.int .i64 (((atT (Q4 ts) k).exp).a)), tIs (.int .i64 (((atT (Q4 ts) k).exp).b)), tIs (.int .i64 (((atT (Q4 ts) k).exp).c)), tIs (.int .i64 (((atT (Q4 ts) k).exp).d))]) (o := 0) rfl) (J.nil (JQR.then_normal (JCR.region ?_)))
  refine J.alloc (R := cTs [tIs (.bool false), tSl X8 ([])]) zr25 (fun _ => ⟨rfl, rfl, Q9 _ _, rfl, trivial⟩) (ltN rfl) fun b5 => ?_
  refine J.store (.t rfl) (.eq (.t rfl) (K2 (Ts := (iT (ofI (X4 (atT (Q4 ts) k).coef)))) rfl)) .here sz25 (Z4 (Ts' := (iT (ofI (X4 (atT (Q4 ts) k).coef)))) (o := 0) rfl) (J.nil ?_)
  refine hend1 _ _ fun w1 M1 L1 Q2 hend2 => ?_
  refine JCR.block (JCR.seq (JCR.region (J.o (oa (.t rfl) (.head _) ag25 (Q6 (g := zT) (y := (ofI (X4 (atT (Q4 ts) k).coef))) rfl rfl)) rfl ?_)))
  refine J.o (X9 (T' := tV Q5 (Pol.mk 0 (ofI (X4 (atT (Q4 ts) k).coef)) ([]))) (V7 (Ts := zP) pl28 (fun _ => ⟨rfl, rfl, rfl, rfl, Q9 _ _, rfl, Q9 _ _, rfl, trivial⟩) ((.agg (off := 1) rfl (.eq (.t rfl) (K2 (Ts := (iT (ofI (X4 (atT (Q4 ts) k).coef)))) rfl)) (Ts' := [tIs (.int .i64 0), tIs (.bool ((ofI (X4 (atT (Q4 ts) k).coef)).neg)), tSl X8 ((ofI (X4 (atT (Q4 ts) k).coef)).abs), tSl Q5 ([])]) rfl rfl .nil)) rfl) (tV_F' (Q0 _))) rfl ?_
  refine J.alloc (R := cTs zP) W9 (fun _ => ⟨rfl, rfl, rfl, rfl, Q9 _ _, rfl, Q9 _ _, rfl, trivial⟩) (ltN rfl) fun b6 => ?_
  refine J.store (.t rfl) (.eq (.t rfl) (K2 (Ts := [tIs (.int .i64 0), tIs (.bool ((ofI (X4 (atT (Q4 ts) k).coef)).neg)), tSl X8 ((ofI (X4 (atT (Q4 ts) k).coef)).abs), tSl Q5 ([])]) (Q0 _))) .here U4 (Z4 (Ts' := [tIs (.int .i64 0), tIs (.bool ((ofI (X4 (atT (Q4 ts) k).coef)).neg)), tSl X8 ((ofI (X4 (atT (Q4 ts) k).coef)).abs), tSl Q5 ([])]) (o := 0) rfl) (J.nil (JQR.then_normal (JCR.seq (JCR.seq (JCR.region (J.o (oa (.t rfl) (.tail _ (.tail _ (.head _))) ag95 (Q6 (g := moT) (y := ((atT (Q4 ts) k).exp)) rfl rfl)) rfl ?_))))))
  refine J.m .is rfl (J.nil (JQR.then_normal (JCR.block ?_)))
  refine JCR.loop (ι := Nat) (fun i => [(2, X7 b2 0), (3, X7 b3 0), (6, X7 b6 0), (17, tV encMo ((atT (Q4 ts) k).exp)), (18, tIs (.int .i64 (i : Int)))]) (fun i => [⟨b6, 28, cTs (pT (monoP (atT (Q4 ts) k).exp (Pol.mk 0 (ofI (X4 (atT (Q4 ts) k).coef)) []) i))⟩, ⟨b5, 25, cTs (iT (ofI (X4 (atT (Q4 ts) k).coef)))⟩, ⟨b4, 95, cTs [tIs (.int .i64 (((atT (Q4 ts) k).exp).a)), tIs (.int .i64 (((atT (Q4 ts) k).exp).b)), tIs (.int .i64 (((atT (Q4 ts) k).exp).c)), tIs (.int .i64 (((atT (Q4 ts) k).exp).d))]⟩, ⟨b3, 28, cTs (pT (ofK (Q4 ts) k))⟩, ⟨b2, 28, cTs zP⟩]) (fun i => i ≤ 4) (fun i => 4 - i) 0 (by omega) ?lsub0 ?round0
  case lsub0 => exact Q8 (X3 (.k (.k (.k (.k (.k .nil)))))) (Z3 ⟨.t rfl, .t rfl, .t rfl, .t rfl, .eq (.t rfl) (by first | rfl | (congr 3; omega) | (congr 2; omega)), trivial⟩)
  intro i hinv
  refine JCR.seq (JCR.region (J.o (Y6 (.t rfl) .is) rfl (J.nil (JQR.then_normal (JCR.seq ?_)))))
  refine JCR.cond (.t rfl) (fun hc0 => ?_) (fun hc0 => ?_)
  ·try simp only [bsx] at hc0
   have hs19 := hc0
   refine JCR.skip (JQR.then_normal (JCR.seq (JCR.block (JCR.seq (JCR.region (J.M rfl rfl ?_))))))
   refine J.o (X9 (T' := tIs (.int .i64 (((atT (Q4 ts) k).exp).at i))) (ot_indexA (.t rfl) (.t rfl) ar4_95 (by omega) (by omega)) (by congr 3 <;> omega)) rfl (J.A rfl rfl (J.A rfl rfl (J.nil (JQR.then_normal (JCR.seq (JCR.region (J.M rfl rfl (J.o (ot_gtr (.t rfl) .is) rfl (J.nil (JQR.then_normal ?_))))))))))
   refine JCR.cond (.t rfl) (fun hc1 => ?_) (fun hc1 => ?_)
   ·try simp only [bsx] at hc1
    have hs23 := hc1
    have hmi := hmk i (by omega)
    refine JCR.seq (JCR.region (J.M rfl rfl ?_))
    refine J.o (Z6 (.t rfl) .is (w64 (by omega) (by omega))) rfl ?_
    refine J.make (E := Q5) (z := p0) (n := ((atT (Q4 ts) k).exp.at i).toNat + 1) W5 (.eq (.t rfl) (by congr 2; omega)) (.eq (.t rfl) (by congr 2; omega)) W9 (fun _ => encP_zero) (by decide) (by omega) (by omega) (ltN rfl) fun b26 => (J.A rfl rfl (J.nil (JQR.then_normal (JCR.seq (JCR.region (J.M rfl rfl (J.M rfl rfl (J.o (oa (.t rfl) (.tail _ (.head _)) Z9 (Q6 (g := Y4) (y := (monoP (atT (Q4 ts) k).exp (Pol.mk 0 (ofI (X4 (atT (Q4 ts) k).coef)) []) i)) (Q0 (monoP (atT (Q4 ts) k).exp (Pol.mk 0 (ofI (X4 (atT (Q4 ts) k).coef)) []) i)).symm rfl)) rfl ?_))))))))
    refine J.o (X9 (T' := X7 b26 (0 + (((atT (Q4 ts) k).exp.at i).toNat) * 4)) (oix (.t rfl) (.t rfl) W5 (by omega) (by omega)) (Z7 (by omega))) rfl ?_
    refine J.store (.t rfl) (.t rfl) .here U4 (T4 (by simp)) (J.nil (JQR.then_normal ?_))
    refine JCR.weak (U9 (E := Q5) (xs := (List.replicate (((atT (Q4 ts) k).exp.at i).toNat + 1) p0).set (((atT (Q4 ts) k).exp.at i).toNat) (monoP (atT (Q4 ts) k).exp (Pol.mk 0 (ofI (X4 (atT (Q4 ts) k).coef)) []) i)) (n := ((atT (Q4 ts) k).exp.at i).toNat + 1) (c := ((atT (Q4 ts) k).exp.at i).toNat + 1) [27, 9, 26] ⟨rfl, rfl, rfl, trivial⟩ .here (by simp) (by omega)) ?_
    refine JCR.region (J.M rfl rfl ?_)
    refine J.o (Z6 (.t rfl) .is (w64 (by omega) (by omega))) rfl (J.M rfl rfl ?_)
    refine J.o (X9 (T' := tV Q5 (Pol.mk ((i : Int) + 1) (Z.mk false ([])) ((List.replicate (((atT (Q4 ts) k).exp.at i).toNat + 1) p0).set (((atT (Q4 ts) k).exp.at i).toNat) (monoP (atT (Q4 ts) k).exp (Pol.mk 0 (ofI (X4 (atT (Q4 ts) k).coef)) []) i)))) (V7 (Ts := zP) pl28 (fun _ => ⟨rfl, rfl, rfl, rfl, Q9 _ _, rfl, Q9 _ _, rfl, trivial⟩) ((.one (off := 0) rfl (.t rfl) (one_is rfl rfl) (Ts' := [tIs (.int .i64 ((i : Int) + 1)), tIs (.bool false), tSl X8 ([]), tSl Q5 ([])]) rfl rfl (.one (off := 3) rfl (.t rfl) one_sl (Ts' := [tIs (.int .i64 ((i : Int) + 1)), tIs (.bool false), tSl X8 ([]), tSl Q5 ((List.replicate (((atT (Q4 ts) k).exp.at i).toNat + 1) p0).set (((atT (Q4 ts) k).exp.at i).toNat) (monoP (atT (Q4 ts) k).exp (Pol.mk 0 (ofI (X4 (atT (Q4 ts) k).coef)) []) i))]) rfl rfl .nil))) rfl) (tV_F' (Q0 _))) rfl ?_
    refine J.store (.t rfl) (.eq (.t rfl) (K2 (Ts := [tIs (.int .i64 ((i : Int) + 1)), tIs (.bool false), tSl X8 ([]), tSl Q5 ((List.replicate (((atT (Q4 ts) k).exp.at i).toNat + 1) p0).set (((atT (Q4 ts) k).exp.at i).toNat) (monoP (atT (Q4 ts) k).exp (Pol.mk 0 (ofI (X4 (atT (Q4 ts) k).coef)) []) i))]) (Q0 _))) .here U4 (Z4 (Ts' := [tIs (.int .i64 ((i : Int) + 1)), tIs (.bool false), tSl X8 ([]), tSl Q5 ((List.replicate (((atT (Q4 ts) k).exp.at i).toNat + 1) p0).set (((atT (Q4 ts) k).exp.at i).toNat) (monoP (atT (Q4 ts) k).exp (Pol.mk 0 (ofI (X4 (atT (Q4 ts) k).coef)) []) i))]) (o := 0) rfl) (J.nil (JQ.block_normal (JQR.then_normal (JCR.region ?_))))
    refine J.o (Z6 (.t rfl) .is (w64 (by omega) (by omega))) rfl (J.M rfl rfl (J.nil ?_))
    exact JQ.round (i + 1) (by omega) (by omega) (Q8 (X3 (.keep (fun _ _ h => by rw [← monoP_yes (by omega)]; exact h) (.k (.k (.k (.k .nil)))))) (Z3 ⟨.t rfl, .t rfl, .t rfl, .t rfl, .eq (.t rfl) (by first | rfl | (congr 3; omega) | (congr 2; omega)), trivial⟩))
   ·try simp only [bsx] at hc1
    have hs23 := hc1
    have hno := monoP_no (m := (atT (Q4 ts) k).exp) (t := Pol.mk 0 (ofI (X4 (atT (Q4 ts) k).coef)) []) (i := i) (by omega)
    refine JCR.skip (JQ.block_normal (JQR.then_normal (JCR.region ?_)))
    refine J.o (Z6 (.t rfl) .is (w64 (by omega) (by omega))) rfl (J.M rfl rfl (J.nil ?_))
    exact JQ.round (i + 1) (by omega) (by omega) (Q8 (X3 (.keep (fun _ _ h => hno ▸ h) (.k (.k (.k (.k .nil)))))) (Z3 ⟨.t rfl, .t rfl, .t rfl, .t rfl, .eq (.t rfl) (by first | rfl | (congr 3; omega) | (congr 2; omega)), trivial⟩))
  ·try simp only [bsx] at hc0
   have hs19 := hc0
   refine JCR.exit (JQ.then_exit (JQ.then_exit (JQ.block_exit (JQR.then_normal (JCR.region (J.o (oa (.t rfl) (.tail _ (.tail _ (.tail _ (.head _)))) Z9 (Q6 (g := Y4) (y := (ofK (Q4 ts) k)) (Q0 (ofK (Q4 ts) k)).symm rfl)) rfl (J.o (oa (.t rfl) (.head _) Z9 (Q6 (g := Y4) (y := (monoP (atT (Q4 ts) k).exp (Pol.mk 0 (ofI (X4 (atT (Q4 ts) k).coef)) []) i)) (Q0 (monoP (atT (Q4 ts) k).exp (Pol.mk 0 (ofI (X4 (atT (Q4 ts) k).coef)) []) i)).symm rfl)) rfl ?_)))))))
   refine J.o (oc fn72 (add_c 4 (ofK (Q4 ts) k) (monoP (atT (Q4 ts) k).exp (Pol.mk 0 (ofI (X4 (atT (Q4 ts) k).coef)) []) i) (ofK_lev _ _) ((monoP_lev i).mono (by omega)) hft ((monoP_fit (hm2 _ (atT_mem hk)) (.mk (digs_dig _) hck (Nat.zero_le _) (fun q h => by cases h)) i (by omega)).mono (Nat.le_add_right D k)) (by omega)) (.cons (.t rfl) (.cons (.t rfl) .nil))) rfl ?_
   refine J.store (.t rfl) (.eq (.t rfl) (K2 (Ts := (pT (K0 4 (ofK (Q4 ts) k) (monoP (atT (Q4 ts) k).exp (Pol.mk 0 (ofI (X4 (atT (Q4 ts) k).coef)) []) i)))) (Q0 _))) (.there (.there (.there .here))) U4 (Z4 (Ts' := (pT (K0 4 (ofK (Q4 ts) k) (monoP (atT (Q4 ts) k).exp (Pol.mk 0 (ofI (X4 (atT (Q4 ts) k).coef)) []) i)))) (o := 0) rfl) (J.nil (JQ.block_normal ?_))
   exact JQ.weak (Q8 (X3 (.drop (.drop (.drop (.keep (fun _ _ h => by have hi4 : i = 4 := (by omega); subst hi4; exact h) (.k .nil)))))) sub_nil) hend2
 case rd0 =>
  intro D w1 M1 L1 hrb
  refine JQ.block_normal (JQ.then_normal (JC.g (J.o (oa (.t rfl) (.head _) Z9 (Q6 (g := Y4) (y := (ofK (Q4 ts) ((Q4 ts).length))) (Q0 (ofK (Q4 ts) ((Q4 ts).length))).symm rfl)) rfl ?_)))
  refine J.store (.t rfl) (.eq (.t rfl) (K2 (Ts := (pT (ofK (Q4 ts) ((Q4 ts).length)))) (Q0 _))) (.there .here) U4 (Z4 (Ts' := (pT (ofK (Q4 ts) ((Q4 ts).length)))) (o := 0) rfl) (J.e (JC.ret ?_))
  exact JQ.retM1_ret hrb rfl (.agg (.t rfl) (.tail _ (.head _)) Z9 (U3 (T := tV Q5 (ofK (Q4 ts) ((Q4 ts).length))) (T' := tV Q5 (ofS (Q4 ts))) (by rfl) (Q6 (g := Y4) (y := (ofK (Q4 ts) ((Q4 ts).length))) (Q0 (ofK (Q4 ts) ((Q4 ts).length))).symm rfl)))

theorem toG_c {B : Nat} (p : Pol) (hf : Fit B p) (np : nrm p < B32 ^ B) (hcn : cnt p ≤ 1000000000) (hb : B ≤ 1000000000) (hlen : (W8 (W3 p) mo0).length ≤ 4294967295) : Ctr Try.prog 61 [tV Q5 p] (tSl X5 (toS (W3 p))) := by
 have hnn : nrm (W3 p) < B32 ^ B := Nat.lt_of_le_of_lt (nrm_norm p) np
 have hfn := (sz_norm p).fit (by omega) hnn
 have hlv := lev_norm p
 refine Ctr.of Try.func61 rfl Try.ntmps61 (Nat.le_of_ble_eq_true rfl) fun w0 M0 => (JC.g ?_)
 refine J.boxF (Ts := (pT p)) (.t rfl) (Q0 _) (ltN rfl) fun b1 => ?_
 refine J.o (Y2 (.nil (E := X5))) rfl (J.e (JC.g (J.o (oa (.t rfl) (.head _) Z9 (Q6 (g := Y4) (y := p) (Q0 p).symm rfl)) rfl ?_)))
 refine J.o (oc fn45 (rnormalG_c p hf np hcn hb) (.cons (.t rfl) .nil)) rfl ?_
 refine J.o (X9 (T' := tV encMo mo0) (ot_buildA0 ar4_95 zr95) rfl) rfl ?_
 refine J.o (oc fn95 (terms_c (W3 p) mo0 hlv (by show (W8 (W3 p) mo0).length ≤ _; omega) hfn) (.cons (.t rfl) (.cons (.t rfl) .nil))) rfl ?_
 refine J.o (oc fn93 (normSG_c (W8 (W3 p) mo0) hlen (fun t ht => (termsP_fit hfn t ht).1) (fun t ht => (termsP_fit hfn t ht).2) (by omega)) (.cons (.t rfl) .nil)) rfl (J.A rfl rfl (J.e (JC.ret ?_)))
 exact JQ.ret1 rfl (.tmp (.eq (.t rfl) (by first | rfl | (congr 3; omega) | (congr 2; omega) | simp [*])))

theorem msign_c {B : Nat} (p : Pol) (hf : Fit B p) (np : nrm p < B32 ^ B) (hcn : cnt p ≤ 1000000000) (hb : B ≤ 1000000000) (hlen : (W8 (W3 p) mo0).length ≤ 4294967295) (hne : W3 p ≠ p0) : Ctr Try.prog 21 [tV Q5 p] (tV Q5 (msign p)) := by
 have hM := msF np hcn hlen hne
 refine Ctr.of Try.func21 rfl Try.ntmps21 (Nat.le_of_ble_eq_true rfl) fun w0 M0 => (JC.g ?_)
 refine J.boxF (Ts := (pT p)) (.t rfl) (Q0 _) (ltN rfl) fun b1 => ?_
 refine J.alloc (R := cTs zP) W9 (fun _ => ⟨rfl, rfl, rfl, rfl, Q9 _ _, rfl, Q9 _ _, rfl, trivial⟩) (ltN rfl) fun b2 => (J.e (JC.g (J.o (oa (.t rfl) (.tail _ (.head _)) Z9 (Q6 (g := Y4) (y := p) (Q0 p).symm rfl)) rfl ?_)))
 refine J.o (oc fn61 (toG_c p hf np hcn hb hlen) (.cons (.t rfl) .nil)) rfl ?_
 refine J.o (X9 (T' := tSl X5 (sgnT (toS (W3 p)))) (oc fn66 (signN_c (toS (W3 p)) hM.tl hM.td hM.tz (by omega) (by rw [hM.n1]; exact hM.tn)) (.cons (.t rfl) .nil)) (by rw [hM.n1])) rfl ?_
 refine J.o (X9 (T' := tV Q5 (msign p)) (oc fn27 (ofG_c (sgnT (toS (W3 p))) hM.sl hM.sd hM.sz (by omega) (by rw [hM.n2]; exact hM.se) (by rw [hM.n2]; exact hM.sz) (by omega)) (.cons (.t rfl) .nil)) (by rw [hM.n2]; rfl)) rfl ?_
 refine J.store (.t rfl) (.eq (.t rfl) (K2 (Ts := (pT (msign p))) (Q0 _))) .here U4 (Z4 (Ts' := (pT (msign p))) (o := 0) rfl) (J.e (JC.ret ?_))
 exact JQ.ret1 rfl (.agg (.t rfl) (.head _) Z9 (Q6 (g := Y4) (y := (msign p)) (Q0 (msign p)).symm rfl))

theorem joinL_c (b n : Nat) (l : Int) (cs : List Pol) (hn : cs.length = n) (h2 : 2 ≤ n) (hl : n ≤ 4294967296) (hz : (atP cs (n - 1)).c.abs.length ≤ 1099511627776) (hlast : Z5 (atP cs (n - 1)) = false) : CtrL Try.prog 103 [tIs (.int .i64 l), sIs b 0 n n] b 28 (Y5 Q5 cs n) (Y5 Q5 cs n) (tV (encL 4) [tIs (.int .i64 l), tIs (.bool false), tSl X8 ([]), sIs b 0 n n]) := by
 refine CtrL.of Try.func103 rfl Try.ntmps103 (Nat.le_of_ble_eq_true rfl) fun w0 M0 => (JC.g ?_)
 refine J.alloc (R := cTs zP) W9 (fun _ => ⟨rfl, rfl, rfl, rfl, Q9 _ _, rfl, Q9 _ _, rfl, trivial⟩) (ltN rfl) fun b4 => (J.e (JC.g (J.M rfl rfl ?_)))
 refine J.o (T8 (.t rfl) W5 rfl) rfl (J.A rfl rfl (J.e (JC.seq (JC.block ?_))))
 refine JC.loop (ι := Nat) (fun i => [(0, tIs (.int .i64 l)), (1, sIs b 0 n n), (4, X7 b4 0), (5, tIs (.int .i64 (i : Int)))]) (fun i => [⟨b4, 28, cTs zP⟩, ⟨b, 28, Y5 Q5 cs n⟩]) (fun i => i = n) (fun i => i) n rfl ?lsub0 ?round0
 case lsub0 => exact Q8 (X3 (.k (.k .nil))) (Z3 ⟨.t rfl, .t rfl, .t rfl, .t rfl, trivial⟩)
 intro i hinv
 refine JC.seq (JC.g (J.M rfl rfl (J.o (ot_gtr (.t rfl) .is) rfl (J.M rfl rfl ?_))))
 refine J.opg rfl rfl rfl (ltN rfl) (fun hg => Y0 (.t rfl)) rfl (ltN rfl) ?_
 refine J.opg rfl rfl rfl (ltN rfl) (fun hg => Y0 (.t rfl)) rfl (ltN rfl) ?_
 refine J.opg rfl rfl rfl (ltN rfl) (fun hg => (by have hg' := hg; (try simp only [bsx] at hg'); exact K4 (.iff hg (.t rfl)) .is (w64 (by omega) (by omega)))) rfl (ltN rfl) ?_
 refine J.opg rfl rfl rfl (ltN rfl) (fun hg => (by have hg' := hg; (try simp only [bsx] at hg'); exact X9 (T' := X7 b (0 + (i - 1) * 4)) (oix (.iff hg (.t rfl)) (.iff hg (.t rfl)) W5 (by omega) (by omega)) (Z7 (by omega)))) rfl (ltN rfl) ?_
 refine J.opg rfl rfl rfl (ltN rfl) (fun hg => (by have hg' := hg; (try simp only [bsx] at hg'); exact oa (.iff hg (.t rfl)) (.tail _ (.head _)) Z9 (row_agg rfl (atP_some (by omega))))) rfl (ltN rfl) ?_
 refine J.opg rfl rfl rfl (ltN rfl) (fun hg => oc fn76 (pzero_c (atP cs (i - 1)) (by rw [hinv]; exact hz)) (.cons (.iff hg (.t rfl)) .nil)) rfl (ltN rfl) ?_
 refine J.o (R4 (.t rfl) (.t rfl) .is) rfl (J.e ?_)
 refine JC.cond_false (.eq (.t rfl) (by rw [hinv, hlast]; simp)) ?_
 refine JC.exit (JQ.then_exit (JQ.then_exit (JQ.block_exit (JQ.then_normal (JC.seq (JC.g (J.M rfl rfl (J.o (U5 (.t rfl) .is) rfl (J.e ?_)))))))))
 refine JC.cond_false (.eq (.t rfl) (by rw [decide_eq_false (by omega)])) (JC.skip (JQ.then_normal (JC.seq (JC.g (J.M rfl rfl (J.o (U5 (.t rfl) .is) rfl (J.e ?_)))))))
 refine JC.cond_false (.eq (.t rfl) (by rw [decide_eq_false (by omega)])) (JC.skip (JQ.then_normal (JC.g (J.M rfl rfl (J.M rfl rfl (J.M rfl rfl (J.M rfl rfl ?_)))))))
 refine J.o (ot_slice3_own (h := n) (m := n) (kh := .i64) (km := .i64) (.t rfl) W5 (.eq (.t rfl) (by rw [hinv])) (.eq (.t rfl) (by rw [hinv])) (Nat.le_refl _) (Nat.le_refl _)) rfl ?_
 refine J.o (V7 (Ts := zP) pl28 (fun _ => ⟨rfl, rfl, rfl, rfl, Q9 _ _, rfl, Q9 _ _, rfl, trivial⟩) ((.one (off := 0) rfl (.t rfl) (one_is rfl rfl) (Ts' := [tIs (.int .i64 l), tIs (.bool false), tSl X8 ([]), tSl Q5 ([])]) rfl rfl (.one (off := 3) rfl (.t rfl) (one_is rfl rfl) (Ts' := [tIs (.int .i64 l), tIs (.bool false), tSl X8 ([]), sIs b 0 n n]) rfl rfl .nil))) rfl) rfl ?_
 refine J.store (.t rfl) (.t rfl) .here U4 (Z4 (Ts' := [tIs (.int .i64 l), tIs (.bool false), tSl X8 ([]), sIs b 0 n n]) (o := 0) rfl) (J.e (JC.ret ?_))
 exact JQ.retLr rfl (.tail _ (.head _)) (fun _ _ h => h) (.agg (.t rfl) (.head _) Z9 (Q6 (g := fun Ts => Ts) (y := [tIs (.int .i64 l), tIs (.bool false), tSl X8 ([]), sIs b 0 n n]) rfl rfl))

theorem scaleV_c {B : Nat} (p : Pol) (z : Z) (hf : Fit B p) (hz : U7 z.abs) (hb : B + z.abs.length ≤ 1099511627776) (hl : ¬ p.lv = 0) (h2 : 2 ≤ p.cs.length) (hzl : (atP (p.cs.map (Z2 · (X4 z))) (p.cs.length - 1)).c.abs.length ≤ 1099511627776) (hlast : Z5 (atP (p.cs.map (Z2 · (X4 z))) (p.cs.length - 1)) = false) : CtrV Try.prog 79 [tV Q5 p, tV R9 z] 28 (fun b cap => tV (encL 4) [tIs (.int .i64 (p.lv)), tIs (.bool false), tSl X8 ([]), sIs b 0 (p.cs.length) (p.cs.length)]) (fun cap => Y5 Q5 (p.cs.map (Z2 · (X4 z))) (p.cs.length)) := by
 have hc := hf.c
 have hcs := hf.cs
 refine CtrV.of Try.func79 rfl Try.ntmps79 (Nat.le_of_ble_eq_true rfl) fun w0 M0 => (JC.g ?_)
 refine J.boxF (Ts := (pT p)) (.t rfl) (Q0 _) (ltN rfl) fun b2 => ?_
 refine J.boxF (Ts := (iT z)) (.t rfl) rfl (ltN rfl) fun b3 => ?_
 refine J.alloc (R := cTs zP) W9 (fun _ => ⟨rfl, rfl, rfl, rfl, Q9 _ _, rfl, Q9 _ _, rfl, trivial⟩) (ltN rfl) fun b4 => (J.e (JC.seq (JC.g (J.o (ofa (.t rfl) T1) rfl (J.o (ol (.t rfl) (.tail _ (.tail _ (.head _))) sc3 (Z8 rfl)) rfl (J.o (U5 (.t rfl) .is) rfl (J.e ?_)))))))
 refine JC.cond_false (.eq (.t rfl) (by rw [decide_eq_false hl])) (JC.skip (JQ.then_normal (JC.g (J.o (ofa (.t rfl) fd28_2) rfl (J.o (ol (.t rfl) (.tail _ (.tail _ (.head _))) sc26 (Z8 rfl)) rfl (J.o (Y8 (.t rfl) W5 rfl) rfl ?_))))))
 refine J.make (E := Q5) (z := p0) (n := p.cs.length) W5 (.eq (.t rfl) rfl) (.eq (.t rfl) rfl) W9 (fun _ => encP_zero) (by decide) (by omega) (by omega) (ltN rfl) fun b19 => (J.A rfl rfl (J.e (JC.seq (JC.g (J.o (ofa (.t rfl) fd28_2) rfl (J.o (ol (.t rfl) (.tail _ (.tail _ (.tail _ (.head _)))) sc26 (Z8 rfl)) rfl (J.o (Y8 (.t rfl) W5 rfl) rfl ?_)))))))
 refine J.m .is rfl (J.e (JC.block ?_))
 refine JC.loop (ι := Nat) (fun k => [(2, X7 b2 0), (3, X7 b3 0), (4, X7 b4 0), (5, sIs b19 0 (p.cs.length) (p.cs.length)), (21, tSl Q5 (p.cs)), (22, tIs (.int .i64 (((p.cs).length : Int)))), (23, tIs (.int .i64 (k : Int)))]) (fun k => [⟨b19, 28, Y5 Q5 (fillP (Z2 · (X4 z)) p.cs k) (p.cs.length)⟩, ⟨b4, 28, cTs zP⟩, ⟨b3, 25, cTs (iT z)⟩, ⟨b2, 28, cTs (pT p)⟩]) (fun k => k ≤ p.cs.length) (fun k => p.cs.length - k) 0 (by omega) ?lsub0 ?round0
 case lsub0 => exact Q8 (X3 (.keep (K8 fillP_zero) (.k (.k (.k .nil))))) (Z3 ⟨.t rfl, .t rfl, .t rfl, .t rfl, .t rfl, .t rfl, .eq (.t rfl) (by first | rfl | (congr 3; omega) | (congr 2; omega)), trivial⟩)
 intro k hinv
 have hfl := fillP_len (f := (Z2 · (X4 z))) hinv
 refine (JC.g (J.o (Y6 (.t rfl) (.t rfl)) rfl (J.e (JC.seq ?_))))
 refine JC.cond (.t rfl) (fun hc1 => ?_) (fun hc1 => ?_)
 ·try simp only [bsx] at hc1
  have hs24 := hc1
  refine JC.skip (JQ.then_normal (JC.seq (JC.block (JC.g (J.M rfl rfl ?_)))))
  refine J.o (ixo (z := atP p.cs k) (.t rfl) (.t rfl) W5 (by omega) (atP_at (by omega) (by omega))) rfl (J.o (lda (.t rfl) Z9 V0) rfl ?_)
  refine J.alloc (R := cTs zP) W9 (fun _ => ⟨rfl, rfl, rfl, rfl, Q9 _ _, rfl, Q9 _ _, rfl, trivial⟩) (ltN rfl) fun b7 => (J.A rfl rfl ?_)
  refine J.store (.t rfl) (.eq (.t rfl) (K2 (Ts := (pT (atP p.cs k))) (Q0 _))) .here U4 (Z4 (Ts' := (pT (atP p.cs k))) (o := 0) rfl) (J.e (JC.region (J.M rfl rfl (J.M rfl rfl (J.o (oa (.t rfl) (.head _) Z9 (Q6 (g := Y4) (y := (atP p.cs k)) (Q0 (atP p.cs k)).symm rfl)) rfl (J.o (oa (.t rfl) (.tail _ (.tail _ (.tail _ (.head _)))) ag25 (Q6 (g := zT) (y := z) rfl rfl)) rfl ?_))))))
  refine J.o (oc fn79 (scale_c (atP p.cs k) z (hf.at (by omega)) hz hb) (.cons (.t rfl) (.cons (.t rfl) .nil))) rfl ?_
  refine J.o (X9 (T' := X7 b19 (0 + k * 4)) (oix (.t rfl) (.t rfl) W5 (by omega) (by omega)) (Z7 (by omega))) rfl ?_
  refine J.store (.t rfl) (.t rfl) (.there .here) U4 (T4 (by omega)) (J.nil (JQ.block_normal (JQ.then_normal (JC.region ?_))))
  refine J.o (Z6 (.t rfl) .is (w64 (by omega) (by omega))) rfl (J.M rfl rfl (J.nil ?_))
  exact JQ.round (k + 1) (by omega) (by omega) (Q8 (X3 (.drop (.keep (K8 (fillP_set (by omega))) (.k (.k (.k .nil)))))) (Z3 ⟨.t rfl, .t rfl, .t rfl, .t rfl, .t rfl, .t rfl, .eq (.t rfl) (by first | rfl | (congr 3; omega) | (congr 2; omega)), trivial⟩))
 ·try simp only [bsx] at hc1
  have hs24 := hc1
  have hk : k = p.cs.length := by omega
  have hfe := fillP_full (f := (Z2 · (X4 z))) (cs := p.cs) (k := k) (by omega)
  refine JC.exit (JQ.then_exit (JQ.then_exit (JQ.block_exit (JQ.then_normal (JC.g (J.o (ofa (.t rfl) T1) rfl (J.o (ol (.t rfl) (.tail _ (.tail _ (.tail _ (.head _)))) sc3 (Z8 rfl)) rfl (J.M rfl rfl ?_))))))))
  refine J.callL (R' := Y5 Q5 (fillP (Z2 · (X4 z)) p.cs k) (p.cs.length)) (Us := []) (cap := []) fn103 (.func (fun _ => rfl)) (joinL_c b19 p.cs.length p.lv (fillP (Z2 · (X4 z)) p.cs k) (by omega) h2 (by omega) (by rw [hfe]; exact hzl) (by rw [hfe]; exact hlast)) (.cons (.t rfl) (.cons (.t rfl) .nil)) (fun _ => trivial) .here (ltN rfl) ?_
  refine J.store (.t rfl) (.t rfl) (.there .here) U4 (Z4 (Ts' := [tIs (.int .i64 (p.lv)), tIs (.bool false), tSl X8 ([]), sIs b19 0 (p.cs.length) (p.cs.length)]) (o := 0) rfl) (J.e (JC.ret ?_))
  exact JQ.retV (b := b19) (cap := p.cs.length) (T := fun b cap => tV (encL 4) [tIs (.int .i64 (p.lv)), tIs (.bool false), tSl X8 ([]), sIs b 0 (p.cs.length) (p.cs.length)]) (R := fun cap => Y5 Q5 (p.cs.map (Z2 · (X4 z))) (p.cs.length)) rfl (hfe ▸ .head _) (.agg (.t rfl) (.tail _ (.head _)) Z9 (Q6 (g := fun Ts => Ts) (y := [tIs (.int .i64 (p.lv)), tIs (.bool false), tSl X8 ([]), sIs b19 0 (p.cs.length) (p.cs.length)]) rfl rfl))

theorem copiedV_c {D B : Nat} (p : Pol) (hp : Pg D B p) (hb : D ≤ 4294967296 ∧ B ≤ 90000000000) (hl : ¬ p.lv = 0) : CtrV Try.prog 89 [tV Q5 p] 28 (fun b cap => tV (encL 4) [tIs (.int .i64 (p.lv)), tIs (.bool false), tSl X8 ([]), sIs b 0 (p.cs.length) (p.cs.length)]) (fun cap => Y5 Q5 (p.cs) (p.cs.length)) := by
 have hf := hp.fit hb.1
 have hc := hf.c
 have hcs := hf.cs
 obtain ⟨e2, e3, e4, e5⟩ := hp.can.ends hl
 have hmap := map_one hp.can
 have hV := scaleV_c p (ofI 1) hf (digs_dig _) (by rw [ofI1_len]; omega) hl e2 (by rw [hmap]; exact Nat.le_trans (hf.at (by omega)).c (by omega)) (by rw [hmap]; exact e3)
 rw [hmap] at hV
 refine CtrV.of Try.func89 rfl Try.ntmps89 (Nat.le_of_ble_eq_true rfl) fun w0 M0 => (JC.g ?_)
 refine J.boxF (Ts := (pT p)) (.t rfl) (Q0 _) (ltN rfl) fun b1 => ?_
 refine J.alloc (R := cTs zP) W9 (fun _ => ⟨rfl, rfl, rfl, rfl, Q9 _ _, rfl, Q9 _ _, rfl, trivial⟩) (ltN rfl) fun b2 => (J.e (JC.seq ?_))
 refine JC.drawAt (Γ' := ?g1) 2 mo (by kernel_rfl) ?tw1 ?k1
 case tw1 =>
  refine TW.o (oa (.t rfl) (.tail _ (.head _)) Z9 (Q6 (g := Y4) (y := p) (Q0 p).symm rfl)) rfl ?_
  refine TW.o (oc fn37 (intOf_c 1 (by omega)) (.cons .is .nil)) rfl ?_
  exact TW.nil
 refine J.callV (T := fun b cap => tV (encL 4) [tIs (.int .i64 (p.lv)), tIs (.bool false), tSl X8 ([]), sIs b 0 (p.cs.length) (p.cs.length)]) (R := fun cap => Y5 Q5 (p.cs) (p.cs.length)) fn79 (hV ) (.cons (.t rfl) (.cons (.t rfl) .nil)) (ltN rfl) fun b5 cap5 => ?_
 refine J.store (.t rfl) (.t rfl) (.there .here) U4 (Z4 (Ts' := [tIs (.int .i64 (p.lv)), tIs (.bool false), tSl X8 ([]), sIs b5 0 (p.cs.length) (p.cs.length)]) (o := 0) rfl) (J.e (JC.ret ?_))
 exact JQ.retV (b := b5) (cap := p.cs.length) (T := fun b cap => tV (encL 4) [tIs (.int .i64 (p.lv)), tIs (.bool false), tSl X8 ([]), sIs b 0 (p.cs.length) (p.cs.length)]) (R := fun cap => Y5 Q5 (p.cs) (p.cs.length)) rfl (.head _) (.agg (.t rfl) (.tail _ (.head _)) Z9 (Q6 (g := fun Ts => Ts) (y := [tIs (.int .i64 (p.lv)), tIs (.bool false), tSl X8 ([]), sIs b5 0 (p.cs.length) (p.cs.length)]) rfl rfl))

theorem normalV_c {D B : Nat} (p : Pol) (hp : Pg D B p) (hb : D ≤ 4294967296 ∧ B ≤ 90000000000) (hl : ¬ p.lv = 0) : CtrV Try.prog 45 [tV Q5 p] 28 (fun b cap => tV (encL 4) [tIs (.int .i64 (p.lv)), tIs (.bool false), tSl X8 ([]), sIs b 0 (p.cs.length) (p.cs.length)]) (fun cap => Y5 Q5 (p.cs) (p.cs.length)) := by
 have hf := hp.fit hb.1
 have hc := hf.c
 have hcs := hf.cs
 obtain ⟨e2, e3, e4, e5⟩ := hp.can.ends hl
 refine CtrV.of Try.func45 rfl Try.ntmps45 (Nat.le_of_ble_eq_true rfl) fun w0 M0 => (JC.g ?_)
 refine J.boxF (Ts := (pT p)) (.t rfl) (Q0 _) (ltN rfl) fun b1 => ?_
 refine J.alloc (R := cTs zP) W9 (fun _ => ⟨rfl, rfl, rfl, rfl, Q9 _ _, rfl, Q9 _ _, rfl, trivial⟩) (ltN rfl) fun b2 => (J.e (JC.seq (JC.g (J.o (ofa (.t rfl) T1) rfl (J.o (ol (.t rfl) (.tail _ (.head _)) sc3 (Z8 rfl)) rfl (J.o (ot_leq (.t rfl) .is) rfl (J.e ?_)))))))
 refine JC.cond_false (.eq (.t rfl) (by rw [decide_eq_false (by omega)])) (JC.skip (JQ.then_normal (JC.seq (JC.g (J.o (ofa (.t rfl) T1) rfl (J.o (ol (.t rfl) (.tail _ (.head _)) sc3 (Z8 rfl)) rfl (J.o (ot_gtr (.t rfl) .is) rfl (J.e ?_))))))))
 refine JC.cond_false (.eq (.t rfl) (by rw [decide_eq_false (by omega)])) (JC.skip (JQ.then_normal (JC.seq (JC.g (J.o (oa (.t rfl) (.tail _ (.head _)) Z9 (Q6 (g := Y4) (y := p) (Q0 p).symm rfl)) rfl ?_)))))
 refine J.o (oc fn88 (canonical_c p 5 hf (by omega)) (.cons (.t rfl) (.cons .is .nil))) rfl (J.e ?_)
 refine JC.cond_true (.eq (.t rfl) (by rw [hp.canon])) (JC.g (J.o (oa (.t rfl) (.tail _ (.head _)) Z9 (Q6 (g := Y4) (y := p) (Q0 p).symm rfl)) rfl ?_))
 refine J.callV (T := fun b cap => tV (encL 4) [tIs (.int .i64 (p.lv)), tIs (.bool false), tSl X8 ([]), sIs b 0 (p.cs.length) (p.cs.length)]) (R := fun cap => Y5 Q5 (p.cs) (p.cs.length)) fn89 (copiedV_c p hp hb hl) (.cons (.t rfl) .nil) (ltN rfl) fun b20 cap20 => ?_
 refine J.store (.t rfl) (.t rfl) (.there .here) U4 (Z4 (Ts' := [tIs (.int .i64 (p.lv)), tIs (.bool false), tSl X8 ([]), sIs b20 0 (p.cs.length) (p.cs.length)]) (o := 0) rfl) (J.e (JC.ret (JQ.then_ret ?_)))
 exact JQ.retV (b := b20) (cap := p.cs.length) (T := fun b cap => tV (encL 4) [tIs (.int .i64 (p.lv)), tIs (.bool false), tSl X8 ([]), sIs b 0 (p.cs.length) (p.cs.length)]) (R := fun cap => Y5 Q5 (p.cs) (p.cs.length)) rfl (.head _) (.agg (.t rfl) (.tail _ (.head _)) Z9 (Q6 (g := fun Ts => Ts) (y := [tIs (.int .i64 (p.lv)), tIs (.bool false), tSl X8 ([]), sIs b20 0 (p.cs.length) (p.cs.length)]) rfl rfl))

theorem normK_c {D B : Nat} (p : Pol) (hp : Pg D B p) (hb : D ≤ 4294967296 ∧ B ≤ 90000000000) : Ctr Try.prog 45 [tV Q5 p] (tV Q5 p) := by
 have h := rnormal_c p (hp.fit hb.1) (by omega) (.inr (.inr hp.canon))
 rw [normC_can hp.can] at h
 exact h

theorem isZeroK_c {D B : Nat} (p : Pol) (hp : Pg D B p) (hb : D ≤ 4294967296 ∧ B ≤ 90000000000) : Ctr Try.prog 30 [tV Q5 p] (tIs (.bool (Z5 p))) := by
 have hc := hp.c_len hb.1
 refine Ctr.of Try.func30 rfl Try.ntmps30 (Nat.le_of_ble_eq_true rfl) fun w0 M0 => (JC.g ?_)
 refine J.boxF (Ts := (pT p)) (.t rfl) (Q0 _) (ltN rfl) fun b1 => ?_
 refine J.a .is rfl (J.e (JC.g (J.o (oa (.t rfl) (.head _) Z9 (Q6 (g := Y4) (y := p) (Q0 p).symm rfl)) rfl ?_)))
 refine J.o (oc fn45 (normK_c p (by assumption) (by omega)) (.cons (.t rfl) .nil)) rfl ?_
 refine J.o (oc fn76 (pzero_c p (by omega)) (.cons (.t rfl) .nil)) rfl (J.A rfl rfl (J.e (JC.ret ?_)))
 exact JQ.ret1 rfl (.tmp (.t rfl))

theorem valid_c (l : Int) : Ctr Try.prog 84 [tIs (.int .i64 l)] (tIs (.bool (decide (1 ≤ l) && decide (l ≤ 4)))) := by
 refine Ctr.of Try.func84 rfl Try.ntmps84 (Nat.le_of_ble_eq_true rfl) fun w0 M0 => (JC.g ?_)
 refine J.a .is rfl (J.e (JC.g (J.M rfl rfl (J.o (ot_geq (.t rfl) .is) rfl (J.M rfl rfl ?_)))))
 refine J.opg rfl rfl rfl (ltN rfl) (fun hg => Y0 (.t rfl)) rfl (ltN rfl) ?_
 refine J.opg rfl rfl rfl (ltN rfl) (fun hg => ot_leq (.iff hg (.t rfl)) .is) rfl (ltN rfl) ?_
 refine J.o (R4 (.t rfl) (.t rfl) .is) rfl (J.A rfl rfl (J.e (JC.ret ?_)))
 exact JQ.ret1 rfl (.tmp (.eq (.t rfl) (by first | rfl | (congr 3; omega) | (congr 2; omega) | simp [*])))

theorem coefsO_c {D B : Nat} (p : Pol) (hp : Pg D B p) (hb : D ≤ 4294967296 ∧ B ≤ 90000000000) (l : Int) (hlv : p.lv = l) (hl : ¬ p.lv = 0) : CtrO Try.prog 90 [tV Q5 p, tIs (.int .i64 l)] 28 (p.cs.length) (p.cs.length) (fun cap => Y5 Q5 (p.cs) (p.cs.length)) := by
 have hf := hp.fit hb.1
 have hc := hf.c
 have hcs := hf.cs
 obtain ⟨e2, e3, e4, e5⟩ := hp.can.ends hl
 refine CtrO.of Try.func90 rfl Try.ntmps90 (Nat.le_of_ble_eq_true rfl) fun w0 M0 => (JC.g ?_)
 refine J.boxF (Ts := (pT p)) (.t rfl) (Q0 _) (ltN rfl) fun b2 => ?_
 refine J.boxS (.t rfl) (one_is rfl rfl) (ltN rfl) fun b3 => ?_
 refine J.a .is rfl (J.e (JC.g (J.o (oa (.t rfl) (.tail _ (.head _)) Z9 (Q6 (g := Y4) (y := p) (Q0 p).symm rfl)) rfl ?_)))
 refine J.callV (T := fun b cap => tV (encL 4) [tIs (.int .i64 (p.lv)), tIs (.bool false), tSl X8 ([]), sIs b 0 (p.cs.length) (p.cs.length)]) (R := fun cap => Y5 Q5 (p.cs) (p.cs.length)) fn45 (normalV_c p hp hb hl) (.cons (.t rfl) .nil) (ltN rfl) fun b14 cap14 => ?_
 refine J.alloc (R := cTs zP) W9 (fun _ => ⟨rfl, rfl, rfl, rfl, Q9 _ _, rfl, Q9 _ _, rfl, trivial⟩) (ltN rfl) fun b5 => ?_
 refine J.store (.t rfl) (.t rfl) .here U4 (Z4 (Ts' := [tIs (.int .i64 (p.lv)), tIs (.bool false), tSl X8 ([]), sIs b14 0 (p.cs.length) (p.cs.length)]) (o := 0) rfl) (J.e (JC.seq (JC.g (J.o (oa (.t rfl) (.head _) Z9 (Q6 (g := fun Ts => Ts) (y := [tIs (.int .i64 (p.lv)), tIs (.bool false), tSl X8 ([]), sIs b14 0 (p.cs.length) (p.cs.length)]) rfl rfl)) rfl ?_))))
 refine J.callB fn30 (isZeroK_c p hp hb) (sub_freezeV (E := Q5) (xs := p.cs) (A := [tIs (.int .i64 (p.lv)), tIs (.bool false), tSl X8 ([])]) (t := 15) rfl (.there .here) rfl (by omega)) (.cons (.eq (.t rfl) (tV_F' (polT_node hp.can hl))) .nil) (ltN rfl) (J.e ?_)
 refine JC.cond_false (.eq (.t rfl) (by unfold Z5; rw [decide_eq_false hl]; rfl)) (JC.skip (JQ.then_normal (JC.seq (JC.g (J.o (ol (.t rfl) (.tail _ (.tail _ (.head _))) sc3 (Z8 rfl)) rfl ?_)))))
 refine J.o (oc fn84 (valid_c l ) (.cons (.t rfl) .nil)) rfl (J.o (ot_not (.t rfl)) rfl (J.M rfl rfl ?_))
 refine J.opg rfl rfl rfl (ltN rfl) (fun hg => ofa (.t rfl) T1) rfl (ltN rfl) ?_
 refine J.opg rfl rfl rfl (ltN rfl) (fun hg => ol (.iff hg (.t rfl)) (.head _) sc3 (Z8 rfl)) rfl (ltN rfl) ?_
 refine J.opg rfl rfl rfl (ltN rfl) (fun hg => ol (.t rfl) (.tail _ (.tail _ (.head _))) sc3 (Z8 rfl)) rfl (ltN rfl) ?_
 refine J.opg rfl rfl rfl (ltN rfl) (fun hg => Y6 (.iff hg (.t rfl)) (.iff hg (.t rfl))) rfl (ltN rfl) ?_
 refine J.o (ot_or2 (.t rfl) .is (.t rfl)) rfl (J.e ?_)
 refine JC.cond_false (.eq (.t rfl) (by rw [decide_eq_true (show 1 ≤ l by omega), decide_eq_true (show l ≤ 4 by omega), decide_eq_false (show ¬ p.lv < l by omega)]; rfl)) (JC.skip (JQ.then_normal (JC.seq (JC.g (J.o (ofa (.t rfl) T1) rfl (J.o (ol (.t rfl) (.head _) sc3 (Z8 rfl)) rfl (J.o (ol (.t rfl) (.tail _ (.tail _ (.head _))) sc3 (Z8 rfl)) rfl (J.o (U5 (.t rfl) (.t rfl)) rfl (J.e ?_)))))))))
 refine JC.cond_true (.eq (.t rfl) (by rw [decide_eq_true hlv])) (JC.g (J.o (ofa (.t rfl) fd28_2) rfl (J.o (ol (.t rfl) (.head _) sc26 (Z8 rfl)) rfl (J.A rfl rfl (J.e (JC.ret (JQ.then_ret ?_)))))))
 exact JQ.retO (b := b14) (cap := p.cs.length) (n := p.cs.length) (cp := p.cs.length) (R := fun cap => Y5 Q5 (p.cs) (p.cs.length)) rfl (.tail _ (.head _)) (.eq (.t rfl) rfl)

theorem rsame_c {B : Nat} (p : Pol) (hf : Fit B p) (hb : B ≤ 1000000000000) : Ctr Try.prog 77 [tV Q5 p, tV Q5 p] (tIs (.bool true)) := by
 induction p using Pol.ind
 rename_i p ih
 have hc := hf.c
 have hcs := hf.cs
 refine Ctr.of Try.func77 rfl Try.ntmps77 (Nat.le_of_ble_eq_true rfl) fun w0 M0 => (JC.g ?_)
 refine J.boxF (Ts := (pT p)) (.t rfl) (Q0 _) (ltN rfl) fun b2 => ?_
 refine J.boxF (Ts := (pT p)) (.t rfl) (Q0 _) (ltN rfl) fun b3 => ?_
 refine J.a .is rfl (J.e (JC.seq (JC.g (J.o (ofa (.t rfl) T1) rfl (J.o (ol (.t rfl) (.tail _ (.head _)) sc3 (Z8 rfl)) rfl (J.o (ofa (.t rfl) T1) rfl (J.o (ol (.t rfl) (.head _) sc3 (Z8 rfl)) rfl (J.o (ot_neq (.t rfl) (.t rfl)) rfl (J.M rfl rfl ?_)))))))))
 refine J.opg rfl rfl rfl (ltN rfl) (fun hg => ofa (.t rfl) fd28_2) rfl (ltN rfl) ?_
 refine J.opg rfl rfl rfl (ltN rfl) (fun hg => ol (.iff hg (.t rfl)) (.tail _ (.head _)) sc26 (Z8 rfl)) rfl (ltN rfl) ?_
 refine J.opg rfl rfl rfl (ltN rfl) (fun hg => Y8 (.iff hg (.t rfl)) W5 rfl) rfl (ltN rfl) ?_
 refine J.opg rfl rfl rfl (ltN rfl) (fun hg => ofa (.t rfl) fd28_2) rfl (ltN rfl) ?_
 refine J.opg rfl rfl rfl (ltN rfl) (fun hg => ol (.iff hg (.t rfl)) (.head _) sc26 (Z8 rfl)) rfl (ltN rfl) ?_
 refine J.opg rfl rfl rfl (ltN rfl) (fun hg => Y8 (.iff hg (.t rfl)) W5 rfl) rfl (ltN rfl) ?_
 refine J.opg rfl rfl rfl (ltN rfl) (fun hg => ot_neq (.iff hg (.t rfl)) (.iff hg (.t rfl))) rfl (ltN rfl) ?_
 refine J.o (ot_or2 (.t rfl) .is (.t rfl)) rfl (J.M rfl rfl ?_)
 refine J.opg rfl rfl rfl (ltN rfl) (fun hg => ofa (.t rfl) fd28_1) rfl (ltN rfl) ?_
 refine J.opg rfl rfl rfl (ltN rfl) (fun hg => oa (.iff hg (.t rfl)) (.tail _ (.head _)) ag25 (Q6 (g := zT) (y := p.c) rfl rfl)) rfl (ltN rfl) ?_
 refine J.opg rfl rfl rfl (ltN rfl) (fun hg => ofa (.t rfl) fd28_1) rfl (ltN rfl) ?_
 refine J.opg rfl rfl rfl (ltN rfl) (fun hg => oa (.iff hg (.t rfl)) (.head _) ag25 (Q6 (g := zT) (y := p.c) rfl rfl)) rfl (ltN rfl) ?_
 refine J.opg rfl rfl rfl (ltN rfl) (fun hg => (by have hg' := hg; (try simp only [bsx] at hg'); exact oc fn92 (intSame_c p.c p.c (by omega) (by omega)) (.cons (.iff hg (.t rfl)) (.cons (.iff hg (.t rfl)) .nil)))) rfl (ltN rfl) ?_
 refine J.opg rfl rfl rfl (ltN rfl) (fun hg => ot_not (.iff hg (.t rfl))) rfl (ltN rfl) ?_
 refine J.o (ot_or2 (.t rfl) .is (.t rfl)) rfl (J.e ?_)
 refine JC.cond_false (.eq (.t rfl) (by simp)) (JC.skip (JQ.then_normal (JC.seq (JC.g (J.o (ofa (.t rfl) fd28_2) rfl (J.o (ol (.t rfl) (.tail _ (.head _)) sc26 (Z8 rfl)) rfl (J.o (Y8 (.t rfl) W5 rfl) rfl ?_)))))))
 refine J.m .is rfl (J.e (JC.block ?_))
 refine JC.loop (ι := Nat) (fun k => [(3, X7 b3 0), (30, tSl Q5 (p.cs)), (31, tIs (.int .i64 (((p.cs).length : Int)))), (32, tIs (.int .i64 (k : Int)))]) (fun k => [⟨b3, 28, cTs (pT p)⟩, ⟨b2, 28, cTs (pT p)⟩]) (fun k => k ≤ p.cs.length) (fun k => p.cs.length - k) 0 (by omega) ?lsub0 ?round0
 case lsub0 => exact Q8 (X3 (.k (.k .nil))) (Z3 ⟨.t rfl, .t rfl, .t rfl, .eq (.t rfl) (by first | rfl | (congr 3; omega) | (congr 2; omega)), trivial⟩)
 intro k hinv
 refine (JC.g (J.o (Y6 (.t rfl) (.t rfl)) rfl (J.e (JC.seq ?_))))
 refine JC.cond (.t rfl) (fun hc1 => ?_) (fun hc1 => ?_)
 ·try simp only [bsx] at hc1
  have hs33 := hc1
  refine JC.skip (JQ.then_normal (JC.seq (JC.block (JC.g (J.M rfl rfl ?_)))))
  refine J.o (ixo (z := atP p.cs k) (.t rfl) (.t rfl) W5 (by omega) (atP_at (by omega) (by omega))) rfl (J.o (lda (.t rfl) Z9 V0) rfl ?_)
  refine J.alloc (R := cTs zP) W9 (fun _ => ⟨rfl, rfl, rfl, rfl, Q9 _ _, rfl, Q9 _ _, rfl, trivial⟩) (ltN rfl) fun b6 => (J.A rfl rfl ?_)
  refine J.store (.t rfl) (.eq (.t rfl) (K2 (Ts := (pT (atP p.cs k))) (Q0 _))) .here U4 (Z4 (Ts' := (pT (atP p.cs k))) (o := 0) rfl) (J.e (JC.seq ?_))
  refine JC.draw (Γ' := ?g1) mo (by kernel_rfl) ?tw1 ?k1
  case tw1 =>
   refine TW.o (oa (.t rfl) (.head _) Z9 (Q6 (g := Y4) (y := (atP p.cs k)) (Q0 (atP p.cs k)).symm rfl)) rfl (TW.o (ofa (.t rfl) fd28_2) rfl (TW.o (ol (.t rfl) (.tail _ (.head _)) sc26 (Z8 rfl)) rfl (TW.M rfl rfl ?_)))
   refine TW.o (ixo (z := atP p.cs k) (.t rfl) (.t rfl) W5 (by omega) (atP_at (by omega) (by omega))) rfl (TW.o (lda (.t rfl) Z9 V0) rfl ?_)
   refine TW.o (oc fn77 (ih (atP p.cs k) (Y3 (by omega)) (hf.at (by omega))) (.cons (.t rfl) (.cons (.t rfl) .nil))) rfl (TW.o (ot_not (.t rfl)) rfl ?_)
   exact TW.nil
  refine JQ.then_normal ?_
  refine JC.cond_false (.eq (.t rfl) (by rfl)) (JC.skip (JQ.block_normal (JQ.then_normal (JC.region ?_))))
  refine J.o (Z6 (.t rfl) .is (w64 (by omega) (by omega))) rfl (J.M rfl rfl (J.nil ?_))
  exact JQ.round (k + 1) (by omega) (by omega) (Q8 (X3 (.drop (.k (.k .nil)))) (Z3 ⟨.t rfl, .t rfl, .t rfl, .eq (.t rfl) (by first | rfl | (congr 3; omega) | (congr 2; omega)), trivial⟩))
 ·try simp only [bsx] at hc1
  have hs33 := hc1
  refine JC.exit (JQ.then_exit (JQ.then_exit (JQ.block_exit (JQ.then_normal (JC.g ?_)))))
  refine J.a .is rfl (J.e (JC.ret ?_))
  exact JQ.ret1 rfl (.tmp (.t rfl))

theorem sameK_c {D B : Nat} (p q : Pol) (hp : Pg D B p) (hb : D ≤ 4294967296 ∧ B ≤ 90000000000) (h : p = q) : Ctr Try.prog 31 [tV Q5 p, tV Q5 q] (tIs (.bool true)) := by
 refine Ctr.of Try.func31 rfl Try.ntmps31 (Nat.le_of_ble_eq_true rfl) fun w0 M0 => (JC.g ?_)
 refine J.boxF (Ts := (pT p)) (.t rfl) (Q0 _) (ltN rfl) fun b2 => ?_
 refine J.boxF (Ts := (pT q)) (.t rfl) (Q0 _) (ltN rfl) fun b3 => ?_
 refine J.a .is rfl (J.e (JC.seq ?_))
 refine JC.draw (Γ' := ?g1) mo (by kernel_rfl) ?tw1 ?k1
 case tw1 =>
  refine TW.o (oa (.t rfl) (.tail _ (.head _)) Z9 (Q6 (g := Y4) (y := p) (Q0 p).symm rfl)) rfl ?_
  refine TW.o (oc fn45 (normK_c p (by assumption) (by omega)) (.cons (.t rfl) .nil)) rfl (TW.o (oa (.t rfl) (.head _) Z9 (Q6 (g := Y4) (y := q) (Q0 q).symm rfl)) rfl ?_)
  refine TW.o (oc fn45 (normK_c q (h ▸ hp) hb) (.cons (.t rfl) .nil)) rfl ?_
  refine TW.o (oc fn77 (rsame_c p (hp.fit hb.1) (by omega)) (.cons (.t rfl) (.cons (.eq (.t rfl) (by rw [h])) .nil))) rfl ?_
  refine TW.o (Y2 (.t rfl)) rfl ?_
  exact TW.nil
 refine JQ.then_normal (JC.ret ?_)
 exact JQ.ret1 rfl (.tmp (.t rfl))

theorem mulK_c {D E B C : Nat} (p q : Pol) (hp : Pg D B p) (hq : Pg E C q) (hb : (1 ≤ D ∧ 1 ≤ E ∧ D + E ≤ 4294967296) ∧ B + C ≤ 80000000000) : Ctr Try.prog 29 [tV Q5 p, tV Q5 q] (tV Q5 (K3 4 p q)) := by
 refine Ctr.of Try.func29 rfl Try.ntmps29 (Nat.le_of_ble_eq_true rfl) fun w0 M0 => (JC.g ?_)
 refine J.boxF (Ts := (pT p)) (.t rfl) (Q0 _) (ltN rfl) fun b2 => ?_
 refine J.boxF (Ts := (pT q)) (.t rfl) (Q0 _) (ltN rfl) fun b3 => ?_
 refine J.alloc (R := cTs zP) W9 (fun _ => ⟨rfl, rfl, rfl, rfl, Q9 _ _, rfl, Q9 _ _, rfl, trivial⟩) (ltN rfl) fun b4 => (J.e (JC.seq ?_))
 refine JC.drawAt (Γ' := ?g1) 5 mo (by kernel_rfl) ?tw1 ?k1
 case tw1 =>
  refine TW.o (oa (.t rfl) (.tail _ (.tail _ (.head _))) Z9 (Q6 (g := Y4) (y := p) (Q0 p).symm rfl)) rfl ?_
  refine TW.o (oc fn45 (normK_c p (by assumption) (by omega)) (.cons (.t rfl) .nil)) rfl (TW.o (oa (.t rfl) (.tail _ (.head _)) Z9 (Q6 (g := Y4) (y := q) (Q0 q).symm rfl)) rfl ?_)
  refine TW.o (oc fn45 (normK_c q (by assumption) (by omega)) (.cons (.t rfl) .nil)) rfl ?_
  refine TW.o (oc fn75 (rmul_c 4 p q hp.can.lev hq.can.lev hp.sz hq.sz (Nat.le_refl _) ⟨by omega, by omega, by omega⟩ hp.nr hq.nr (by omega)) (.cons (.t rfl) (.cons (.t rfl) .nil))) rfl ?_
  exact TW.nil
 refine J.store (.t rfl) (.eq (.t rfl) (K2 (Ts := (pT (K3 4 p q))) (Q0 _))) .here U4 (Z4 (Ts' := (pT (K3 4 p q))) (o := 0) rfl) (J.e (JC.ret ?_))
 exact JQ.ret1 rfl (.agg (.t rfl) (.head _) Z9 (Q6 (g := Y4) (y := (K3 4 p q)) (Q0 (K3 4 p q)).symm rfl))

theorem negK_c {D B : Nat} (p : Pol) (hp : Pg D B p) (hb : D ≤ 4294967296 ∧ B ≤ 90000000000) : Ctr Try.prog 54 [tV Q5 p] (tV Q5 (Z2 p (-1))) := by
 have hf := hp.fit hb.1
 refine Ctr.of Try.func54 rfl Try.ntmps54 (Nat.le_of_ble_eq_true rfl) fun w0 M0 => (JC.g ?_)
 refine J.boxF (Ts := (pT p)) (.t rfl) (Q0 _) (ltN rfl) fun b1 => ?_
 refine J.alloc (R := cTs zP) W9 (fun _ => ⟨rfl, rfl, rfl, rfl, Q9 _ _, rfl, Q9 _ _, rfl, trivial⟩) (ltN rfl) fun b2 => (J.e (JC.g (J.o (oa (.t rfl) (.tail _ (.head _)) Z9 (Q6 (g := Y4) (y := p) (Q0 p).symm rfl)) rfl ?_)))
 refine J.o (oc fn45 (normK_c p (by assumption) (by omega)) (.cons (.t rfl) .nil)) rfl ?_
 refine J.o (oc fn37 (intOf_c (-1) (by omega)) (.cons .is .nil)) rfl ?_
 refine J.o (X9 (T' := tV Q5 (Z2 p (-1))) (oc fn79 (scale_c p (ofI (-1)) hf (digs_dig _) (by rw [ofIm1_len]; omega)) (.cons (.t rfl) (.cons (.t rfl) .nil))) (by rw [Y9])) rfl ?_
 refine J.store (.t rfl) (.eq (.t rfl) (K2 (Ts := (pT (Z2 p (-1)))) (Q0 _))) .here U4 (Z4 (Ts' := (pT (Z2 p (-1)))) (o := 0) rfl) (J.e (JC.ret ?_))
 exact JQ.ret1 rfl (.agg (.t rfl) (.head _) Z9 (Q6 (g := Y4) (y := (Z2 p (-1))) (Q0 (Z2 p (-1))).symm rfl))

theorem addK_c {D B : Nat} (p q : Pol) (hp : Pg D B p) (hq : Pg D B q) (hb : D ≤ 4294967296 ∧ B ≤ 90000000000) : Ctr Try.prog 40 [tV Q5 p, tV Q5 q] (tV Q5 (K0 4 p q)) := by
 refine Ctr.of Try.func40 rfl Try.ntmps40 (Nat.le_of_ble_eq_true rfl) fun w0 M0 => (JC.g ?_)
 refine J.boxF (Ts := (pT p)) (.t rfl) (Q0 _) (ltN rfl) fun b2 => ?_
 refine J.boxF (Ts := (pT q)) (.t rfl) (Q0 _) (ltN rfl) fun b3 => ?_
 refine J.alloc (R := cTs zP) W9 (fun _ => ⟨rfl, rfl, rfl, rfl, Q9 _ _, rfl, Q9 _ _, rfl, trivial⟩) (ltN rfl) fun b4 => (J.e (JC.seq ?_))
 refine JC.drawAt (Γ' := ?g1) 5 mo (by kernel_rfl) ?tw1 ?k1
 case tw1 =>
  refine TW.o (oa (.t rfl) (.tail _ (.tail _ (.head _))) Z9 (Q6 (g := Y4) (y := p) (Q0 p).symm rfl)) rfl ?_
  refine TW.o (oc fn45 (normK_c p (by assumption) (by omega)) (.cons (.t rfl) .nil)) rfl (TW.o (oa (.t rfl) (.tail _ (.head _)) Z9 (Q6 (g := Y4) (y := q) (Q0 q).symm rfl)) rfl ?_)
  refine TW.o (oc fn45 (normK_c q (by assumption) (by omega)) (.cons (.t rfl) .nil)) rfl ?_
  refine TW.o (oc fn72 (add_c 4 p q hp.can.lev hq.can.lev (hp.fit hb.1) (hq.fit hb.1) (by omega)) (.cons (.t rfl) (.cons (.t rfl) .nil))) rfl ?_
  exact TW.nil
 refine J.store (.t rfl) (.eq (.t rfl) (K2 (Ts := (pT (K0 4 p q))) (Q0 _))) .here U4 (Z4 (Ts' := (pT (K0 4 p q))) (o := 0) rfl) (J.e (JC.ret ?_))
 exact JQ.ret1 rfl (.agg (.t rfl) (.head _) Z9 (Q6 (g := Y4) (y := (K0 4 p q)) (Q0 (K0 4 p q)).symm rfl))

theorem subK_c {D B : Nat} (p q : Pol) (hp : Pg D B p) (hq : Pg D B q) (hb : D ≤ 4294967296 ∧ B ≤ 90000000000) : Ctr Try.prog 68 [tV Q5 p, tV Q5 q] (tV Q5 (K0 4 p (Z2 q (-1)))) := by
 refine Ctr.of Try.func68 rfl Try.ntmps68 (Nat.le_of_ble_eq_true rfl) fun w0 M0 => (JC.g ?_)
 refine J.boxF (Ts := (pT p)) (.t rfl) (Q0 _) (ltN rfl) fun b2 => ?_
 refine J.boxF (Ts := (pT q)) (.t rfl) (Q0 _) (ltN rfl) fun b3 => ?_
 refine J.alloc (R := cTs zP) W9 (fun _ => ⟨rfl, rfl, rfl, rfl, Q9 _ _, rfl, Q9 _ _, rfl, trivial⟩) (ltN rfl) fun b4 => (J.e (JC.seq ?_))
 refine JC.drawAt (Γ' := ?g1) 5 mo (by kernel_rfl) ?tw1 ?k1
 case tw1 =>
  refine TW.o (oa (.t rfl) (.tail _ (.tail _ (.head _))) Z9 (Q6 (g := Y4) (y := p) (Q0 p).symm rfl)) rfl ?_
  refine TW.o (oc fn45 (normK_c p (by assumption) (by omega)) (.cons (.t rfl) .nil)) rfl (TW.o (oa (.t rfl) (.tail _ (.head _)) Z9 (Q6 (g := Y4) (y := q) (Q0 q).symm rfl)) rfl ?_)
  refine TW.o (oc fn54 (negK_c q (by assumption) (by omega)) (.cons (.t rfl) .nil)) rfl ?_
  refine TW.o (oc fn72 (add_c 4 p (Z2 q (-1)) hp.can.lev hq.neg.can.lev (hp.fit hb.1) (hq.neg.fit hb.1) (by omega)) (.cons (.t rfl) (.cons (.t rfl) .nil))) rfl ?_
  exact TW.nil
 refine J.store (.t rfl) (.eq (.t rfl) (K2 (Ts := (pT (K0 4 p (Z2 q (-1))))) (Q0 _))) .here U4 (Z4 (Ts' := (pT (K0 4 p (Z2 q (-1))))) (o := 0) rfl) (J.e (JC.ret ?_))
 exact JQ.ret1 rfl (.agg (.t rfl) (.head _) Z9 (Q6 (g := Y4) (y := (K0 4 p (Z2 q (-1)))) (Q0 (K0 4 p (Z2 q (-1)))).symm rfl))

theorem constK_c (z : Z) (hzl : z.abs.length ≤ 1000000000) : Ctr Try.prog 36 [tV R9 z] (tV Q5 (R1 (X4 z))) := by
 refine Ctr.of Try.func36 rfl Try.ntmps36 (Nat.le_of_ble_eq_true rfl) fun w0 M0 => (JC.g ?_)
 refine J.boxF (Ts := (iT z)) (.t rfl) rfl (ltN rfl) fun b1 => ?_
 refine J.alloc (R := cTs zP) W9 (fun _ => ⟨rfl, rfl, rfl, rfl, Q9 _ _, rfl, Q9 _ _, rfl, trivial⟩) (ltN rfl) fun b2 => (J.e (JC.g (J.o (oa (.t rfl) (.tail _ (.head _)) ag25 (Q6 (g := zT) (y := z) rfl rfl)) rfl ?_)))
 refine J.o (oc fn81 (intNormal_c z (by omega)) (.cons (.t rfl) .nil)) rfl ?_
 refine J.o (X9 (T' := tV Q5 (Pol.mk 0 (ofI (X4 z)) ([]))) (V7 (Ts := zP) pl28 (fun _ => ⟨rfl, rfl, rfl, rfl, Q9 _ _, rfl, Q9 _ _, rfl, trivial⟩) ((.agg (off := 1) rfl (.eq (.t rfl) (K2 (Ts := (iT (ofI (X4 z)))) rfl)) (Ts' := [tIs (.int .i64 0), tIs (.bool ((ofI (X4 z)).neg)), tSl X8 ((ofI (X4 z)).abs), tSl Q5 ([])]) rfl rfl .nil)) rfl) (tV_F' (Q0 _))) rfl ?_
 refine J.store (.t rfl) (.eq (.t rfl) (K2 (Ts := [tIs (.int .i64 0), tIs (.bool ((ofI (X4 z)).neg)), tSl X8 ((ofI (X4 z)).abs), tSl Q5 ([])]) (Q0 _))) .here U4 (Z4 (Ts' := [tIs (.int .i64 0), tIs (.bool ((ofI (X4 z)).neg)), tSl X8 ((ofI (X4 z)).abs), tSl Q5 ([])]) (o := 0) rfl) (J.e (JC.ret ?_))
 exact JQ.ret1 rfl (.agg (.t rfl) (.head _) Z9 (U3 (T := tV Q5 (Pol.mk 0 (ofI (X4 z)) ([]))) (T' := tV Q5 (R1 (X4 z))) (by rfl) (Q6 (g := Y4) (y := (Pol.mk 0 (ofI (X4 z)) ([]))) (Q0 (Pol.mk 0 (ofI (X4 z)) ([]))).symm rfl)))

theorem joinK_c {D B n : Nat} (cs : List Pol) (l : Nat) (lv : Int) (hlv : lv = ((l + 1 : Nat) : Int)) (hl : l < 4) (hc : ∀ z ∈ cs, CanP l z) (hs : ∀ z ∈ cs, Sz D z) (hn : cs.length ≤ n) (hN : V3 cs < B32 ^ B) (hb : D ≤ 1000000000 ∧ B ≤ 1000000000 ∧ n ≤ 4294967296) (hcnt : 1 + n * ((D + 1) ^ l + 1) ≤ 1000000000) : Ctr Try.prog 91 [tSl Q5 cs, tIs (.int .i64 lv)] (tV Q5 (U0 lv cs)) := by
 refine Ctr.of Try.func91 rfl Try.ntmps91 (Nat.le_of_ble_eq_true rfl) fun w0 M0 => (JC.g ?_)
 refine J.alloc (R := cTs zP) W9 (fun _ => ⟨rfl, rfl, rfl, rfl, Q9 _ _, rfl, Q9 _ _, rfl, trivial⟩) (ltN rfl) fun b4 => (J.e (JC.seq (JC.g (J.M rfl rfl ?_))))
 refine J.o (oc fn84 (valid_c lv ) (.cons (.t rfl) .nil)) rfl (J.o (ot_not (.t rfl)) rfl (J.e ?_))
 refine JC.cond_false (.eq (.t rfl) (by rw [decide_eq_true (show 1 ≤ lv by omega), decide_eq_true (show lv ≤ 4 by omega)]; rfl)) (JC.skip (JQ.then_normal (JC.g (J.M rfl rfl (J.M rfl rfl ?_)))))
 refine J.o (X9 (T' := tV Q5 (Pol.mk lv (Z.mk false ([])) cs)) (V7 (Ts := zP) pl28 (fun _ => ⟨rfl, rfl, rfl, rfl, Q9 _ _, rfl, Q9 _ _, rfl, trivial⟩) ((.one (off := 0) rfl (.t rfl) (one_is rfl rfl) (Ts' := [tIs (.int .i64 lv), tIs (.bool false), tSl X8 ([]), tSl Q5 ([])]) rfl rfl (.one (off := 3) rfl (.t rfl) one_sl (Ts' := [tIs (.int .i64 lv), tIs (.bool false), tSl X8 ([]), tSl Q5 cs]) rfl rfl .nil))) rfl) (tV_F' (Q0 _))) rfl ?_
 refine J.o (X9 (T' := tV Q5 (U0 lv cs)) (oc fn45 (rnormalG_c (Pol.mk lv (Z.mk false ([])) cs) (fit_node hs (by omega) (by omega) hN) (by rw [show Z.mk false [] = z0 from rfl, nrm_node]; exact hN) (by rw [hlv]; exact Nat.le_trans (cnt_node hc hs hn) hcnt) (by omega)) (.cons (.t rfl) .nil)) (by rw [hlv]; exact congrArg _ (norm_join hl hc))) rfl ?_
 refine J.store (.t rfl) (.eq (.t rfl) (K2 (Ts := (pT (U0 lv cs))) (Q0 _))) .here U4 (Z4 (Ts' := (pT (U0 lv cs))) (o := 0) rfl) (J.e (JC.ret ?_))
 exact JQ.ret1 rfl (.agg (.t rfl) (.head _) Z9 (Q6 (g := Y4) (y := (U0 lv cs)) (Q0 (U0 lv cs)).symm rfl))

theorem pexact_c {D E u B : Nat} (k : Nat) (f g : Pol) (hk : k ≤ 4) (cf : CanP k f) (cg : CanP k g) (hz : Z5 g = false) (sf : Sz D f) (sg : Sz E g) (ng : nrm g + 2 ≤ B32 ^ u) (nf : nrm f < B32 ^ B) (rm : Rm k D E u B) : Ctr Try.prog 74 [tV Q5 f, tV Q5 g] (V5 [tV Q5 ((X6 k f g).getD p0), tIs (.bool ((X6 k f g).isSome))]) := by
 induction k using Nat.strongRecOn generalizing f g D B
 rename_i k ih
 have hlf := cf.lev.lv
 have hlg := cg.lev.lv
 have hb := rm.base
 have pf : Pg D B f := ⟨cf.mono hk, sf, nf⟩
 have pg : Pg E u g := ⟨cg.mono hk, sg, by omega⟩
 have ff := pf.fit (by omega)
 have fg := pg.fit (by omega)
 have hfc := ff.c
 have hgc := fg.c
 have hfcs := sf.cs
 have hgcs := sg.cs
 refine Ctr.of Try.func74 rfl Try.ntmps74 (Nat.le_of_ble_eq_true rfl) fun w0 M0 => (JC.g ?_)
 refine J.boxF (Ts := (pT f)) (.t rfl) (Q0 _) (ltN rfl) fun b2 => ?_
 refine J.boxF (Ts := (pT g)) (.t rfl) (Q0 _) (ltN rfl) fun b3 => ?_
 refine J.alloc (R := cTs zP) W9 (fun _ => ⟨rfl, rfl, rfl, rfl, Q9 _ _, rfl, Q9 _ _, rfl, trivial⟩) (ltN rfl) fun b4 => ?_
 refine J.a .is rfl (J.e (JC.seq (JC.g (J.o (oa (.t rfl) (.tail _ (.tail _ (.head _))) Z9 (Q6 (g := Y4) (y := f) (Q0 f).symm rfl)) rfl ?_))))
 refine J.o (oc fn30 (isZeroK_c f pf ⟨by omega, by omega⟩) (.cons (.t rfl) .nil)) rfl (J.e ?_)
 refine JC.cond (.t rfl) (fun hc0 => ?_) (fun hc0 => ?_)
 ·try simp only [bsx] at hc0
  have hs25 := hc0
  refine (JC.g (J.o (oa (.t rfl) (.tail _ (.tail _ (.head _))) Z9 (Q6 (g := Y4) (y := f) (Q0 f).symm rfl)) rfl ?_))
  refine J.store (.t rfl) (.eq (.t rfl) (K2 (Ts := (pT f)) (Q0 _))) .here U4 (Z4 (Ts' := (pT f)) (o := 0) rfl) ?_
  refine J.a .is rfl (J.e (JC.ret (JQ.then_ret ?_)))
  exact JQ.ret2 rfl (.agg (.t rfl) (.head _) Z9 (U3 (T := tV Q5 f) (T' := tV Q5 ((X6 k f g).getD p0)) (by rw [exactF_zero (by simpa using hs25)]; rfl) (Q6 (g := Y4) (y := f) (Q0 f).symm rfl))) (.tmp (.eq (.t rfl) (by rw [exactF_zero (by simpa using hs25)]; rfl)))
 ·try simp only [bsx] at hc0
  have hs25 := hc0
  have hfz : Z5 f = false := by simpa using hs25
  refine JC.skip (JQ.then_normal (JC.seq (JC.g (J.o (ofa (.t rfl) T1) rfl (J.o (ol (.t rfl) (.tail _ (.tail _ (.head _))) sc3 (Z8 rfl)) rfl (J.o (ofa (.t rfl) T1) rfl (J.o (ol (.t rfl) (.tail _ (.head _)) sc3 (Z8 rfl)) rfl (J.o (Y6 (.t rfl) (.t rfl)) rfl (J.e ?_)))))))))
  refine JC.cond (.t rfl) (fun hc1 => ?_) (fun hc1 => ?_)
  ·try simp only [bsx] at hc1
   have hs31 := hc1
   refine (JC.g ?_)
   refine J.o (X9 (T' := tV Q5 (Pol.mk 0 (Z.mk false ([])) ([]))) (V7 (Ts := zP) pl28 (fun _ => ⟨rfl, rfl, rfl, rfl, Q9 _ _, rfl, Q9 _ _, rfl, trivial⟩) (.nil) rfl) (tV_F' (Q0 _))) rfl ?_
   refine J.store (.t rfl) (.eq (.t rfl) (K2 (Ts := zP) (Q0 _))) .here U4 (Z4 (Ts' := zP) (o := 0) rfl) ?_
   refine J.a .is rfl (J.e (JC.ret (JQ.then_ret ?_)))
   exact JQ.ret2 rfl (.agg (.t rfl) (.head _) Z9 (U3 (T := tV Q5 (Pol.mk 0 (Z.mk false ([])) ([]))) (T' := tV Q5 ((X6 k f g).getD p0)) (by rw [exactF_lt hfz hs31]; rfl) (Q6 (g := Y4) (y := (Pol.mk 0 (Z.mk false ([])) ([]))) (Q0 (Pol.mk 0 (Z.mk false ([])) ([]))).symm rfl))) (.tmp (.eq (.t rfl) (by rw [exactF_lt hfz hs31]; rfl)))
  ·try simp only [bsx] at hc1
   have hs31 := hc1
   refine JC.skip (JQ.then_normal (JC.seq (JC.g (J.o (ofa (.t rfl) T1) rfl (J.o (ol (.t rfl) (.tail _ (.tail _ (.head _))) sc3 (Z8 rfl)) rfl (J.o (U5 (.t rfl) .is) rfl (J.e ?_)))))))
   refine JC.cond (.t rfl) (fun hc2 => ?_) (fun hc2 => ?_)
   ·try simp only [bsx] at hc2
    have hs35 := hc2
    have hg0 : g.lv = 0 := by omega
    have hgn : X4 g.c ≠ 0 := fun e => by rw [Z5, decide_eq_true hg0, decide_eq_true e] at hz; cases hz
    refine (JC.g (J.o (ofa (.t rfl) fd28_1) rfl (J.o (oa (.t rfl) (.tail _ (.tail _ (.head _))) ag25 (Q6 (g := zT) (y := f.c) rfl rfl)) rfl (J.o (ofa (.t rfl) fd28_1) rfl (J.o (oa (.t rfl) (.tail _ (.head _)) ag25 (Q6 (g := zT) (y := g.c) rfl rfl)) rfl ?_)))))
    refine J.o (oc fn101 (dexactG_c f.c g.c (by omega) (by omega) (by have := zval_val g.c; omega)) (.cons (.t rfl) (.cons (.t rfl) .nil))) rfl (J.M rfl rfl ?_)
    refine J.o (Z1 (.t rfl) rfl) rfl ?_
    refine J.o (Z1 (.t rfl) rfl) rfl ?_
    refine J.alloc (R := cTs [tIs (.bool false), tSl X8 ([])]) zr25 (fun _ => ⟨rfl, rfl, Q9 _ _, rfl, trivial⟩) (ltN rfl) fun b6 => ?_
    refine J.store (.t rfl) (.eq (.t rfl) (K2 (Ts := (iT (if X4 g.c ∣ X4 f.c then ofI (X4 f.c / X4 g.c) else z0))) rfl)) .here sz25 (Z4 (Ts' := (iT (if X4 g.c ∣ X4 f.c then ofI (X4 f.c / X4 g.c) else z0))) (o := 0) rfl) (J.A rfl rfl (J.e (JC.g (J.o (oa (.t rfl) (.head _) ag25 (Q6 (g := zT) (y := (if X4 g.c ∣ X4 f.c then ofI (X4 f.c / X4 g.c) else z0)) rfl rfl)) rfl ?_))))
    refine J.o (oc fn36 (constK_c (if X4 g.c ∣ X4 f.c then ofI (X4 f.c / X4 g.c) else z0) (by split; (exact Nat.le_trans (quo_len ff.d hfc) (by omega)); (exact Nat.zero_le _))) (.cons (.t rfl) .nil)) rfl (J.M rfl rfl (J.o (U5 (.t rfl) .is) rfl ?_))
    refine J.store (.t rfl) (.eq (.t rfl) (K2 (Ts := (pT (R1 (X4 (if X4 g.c ∣ X4 f.c then ofI (X4 f.c / X4 g.c) else z0))))) (Q0 _))) (.there .here) U4 (Z4 (Ts' := (pT (R1 (X4 (if X4 g.c ∣ X4 f.c then ofI (X4 f.c / X4 g.c) else z0))))) (o := 0) rfl) (J.A rfl rfl (J.e (JC.ret (JQ.then_ret ?_))))
    exact JQ.ret2 rfl (.agg (.t rfl) (.tail _ (.head _)) Z9 (U3 (T := tV Q5 (R1 (X4 (if X4 g.c ∣ X4 f.c then ofI (X4 f.c / X4 g.c) else z0)))) (T' := tV Q5 ((X6 k f g).getD p0)) (by rw [exactF_const hfz hs31 hs35, constF]; split <;> first | (rw [Y9]; rfl) | (rw [zval_z0, constP_zero]; rfl)) (Q6 (g := Y4) (y := (R1 (X4 (if X4 g.c ∣ X4 f.c then ofI (X4 f.c / X4 g.c) else z0)))) (Q0 (R1 (X4 (if X4 g.c ∣ X4 f.c then ofI (X4 f.c / X4 g.c) else z0)))).symm rfl))) (.tmp (.eq (.t rfl) (by rw [exactF_const hfz hs31 hs35, constF]; split <;> rfl)))
   ·try simp only [bsx] at hc2
    have hs35 := hc2
    refine JC.skip (JQ.then_normal (JC.g (J.o (ofa (.t rfl) T1) rfl (J.o (ol (.t rfl) (.tail _ (.tail _ (.head _))) sc3 (Z8 rfl)) rfl (J.A rfl rfl (J.e (JC.seq (JC.g (J.o (ofa (.t rfl) T1) rfl (J.o (ol (.t rfl) (.tail _ (.head _)) sc3 (Z8 rfl)) rfl (J.M rfl rfl (J.o (Y6 (.t rfl) (.t rfl)) rfl (J.e ?_)))))))))))))
    refine JC.cond (.t rfl) (fun hc3 => ?_) (fun hc3 => ?_)
    ·try simp only [bsx] at hc3
     have hs53 := hc3
     obtain ⟨m, hm⟩ : ∃ m, k = m + 1 := ⟨k - 1, by omega⟩
     have rm1 : Rm (m + 1) D E u B := hm ▸ rm
     have hDE := rm1.2.2.2.base
     obtain ⟨l, hl⟩ : ∃ l : Nat, f.lv = ((l + 1 : Nat) : Int) := ⟨f.lv.toNat - 1, by omega⟩
     have hlm : l ≤ m := by omega
     have hcs := cf.sub_can hl
     have cgl : CanP l g := cg.lower (by omega)
     have hnc := cf.c_node hl
     have ihc := fun c (hc : c ∈ f.cs) => ih m (by omega) (D := D) (B := B) c g (by omega) ((hcs c hc).mono hlm) (cgl.mono hlm) hz (sf.sub c hc) sg ng (Nat.lt_of_le_of_lt (nrmL_sub hc) nf) (Rm.down hb.1 (by omega) (by omega) rm1.2.2.2)
     refine (JC.g (J.o (ofa (.t rfl) fd28_2) rfl (J.o (ol (.t rfl) (.tail _ (.tail _ (.head _))) sc26 (Z8 rfl)) rfl (J.o (Y8 (.t rfl) W5 rfl) rfl ?_))))
     refine J.make (E := Q5) (z := p0) (n := f.cs.length) W5 (.eq (.t rfl) rfl) (.eq (.t rfl) rfl) W9 (fun _ => encP_zero) (by decide) (by omega) (by omega) (ltN rfl) fun b57 => (J.A rfl rfl (J.e (JC.seq (JC.g (J.o (ofa (.t rfl) fd28_2) rfl (J.o (ol (.t rfl) (.tail _ (.tail _ (.tail _ (.head _)))) sc26 (Z8 rfl)) rfl (J.o (Y8 (.t rfl) W5 rfl) rfl ?_)))))))
     refine J.m .is rfl (J.e (JC.block ?_))
     refine JC.loop (ι := Nat) (fun i => [(2, X7 b2 0), (3, X7 b3 0), (4, X7 b4 0), (8, tIs (.int .i64 (f.lv))), (9, sIs b57 0 (f.cs.length) (f.cs.length)), (59, tSl Q5 (f.cs)), (60, tIs (.int .i64 (((f.cs).length : Int)))), (61, tIs (.int .i64 (i : Int)))]) (fun i => [⟨b57, 28, Y5 Q5 ((fillP (fun c => (X6 m c g).getD p0) f.cs i)) (f.cs.length)⟩, ⟨b4, 28, cTs zP⟩, ⟨b3, 28, cTs (pT g)⟩, ⟨b2, 28, cTs (pT f)⟩]) (fun i => i ≤ f.cs.length ∧ (f.cs.take i).all (fun c => (X6 m c g).isSome) = true) (fun i => f.cs.length - i) 0 ⟨by omega, by simp⟩ ?lsub0 ?round0
     case lsub0 => exact Q8 (X3 (.keep (K8 fillP_zero) (.k (.k (.k .nil))))) (Z3 ⟨.t rfl, .t rfl, .t rfl, .t rfl, .t rfl, .t rfl, .t rfl, .eq (.t rfl) (by first | rfl | (congr 3; omega) | (congr 2; omega)), trivial⟩)
     intro i hinv
     obtain ⟨hi, hall⟩ := hinv
     have hfl := fillP_len (f := (fun c => (X6 m c g).getD p0)) hi
     refine (JC.g (J.o (Y6 (.t rfl) (.t rfl)) rfl (J.e (JC.seq ?_))))
     refine JC.cond (.t rfl) (fun hc4 => ?_) (fun hc4 => ?_)
     ·try simp only [bsx] at hc4
      have hs62 := hc4
      refine JC.skip (JQ.then_normal (JC.seq (JC.block (JC.g (J.M rfl rfl ?_)))))
      refine J.o (ixo (z := atP f.cs i) (.t rfl) (.t rfl) W5 (by omega) (atP_at (by omega) (by omega))) rfl (J.o (lda (.t rfl) Z9 V0) rfl ?_)
      refine J.alloc (R := cTs zP) W9 (fun _ => ⟨rfl, rfl, rfl, rfl, Q9 _ _, rfl, Q9 _ _, rfl, trivial⟩) (ltN rfl) fun b11 => (J.A rfl rfl ?_)
      refine J.store (.t rfl) (.eq (.t rfl) (K2 (Ts := (pT (atP f.cs i))) (Q0 _))) .here U4 (Z4 (Ts' := (pT (atP f.cs i))) (o := 0) rfl) (J.e (JC.g (J.o (oa (.t rfl) (.head _) Z9 (Q6 (g := Y4) (y := (atP f.cs i)) (Q0 (atP f.cs i)).symm rfl)) rfl (J.o (oa (.t rfl) (.tail _ (.tail _ (.tail _ (.head _)))) Z9 (Q6 (g := Y4) (y := g) (Q0 g).symm rfl)) rfl ?_))))
      refine J.o (oc fn74 (ihc (atP f.cs i) (Y3 (by omega))) (.cons (.t rfl) (.cons (.t rfl) .nil))) rfl (J.M rfl rfl ?_)
      refine J.o (Z1 (.t rfl) rfl) rfl ?_
      refine J.o (Z1 (.t rfl) rfl) rfl ?_
      refine J.alloc (R := cTs zP) W9 (fun _ => ⟨rfl, rfl, rfl, rfl, Q9 _ _, rfl, Q9 _ _, rfl, trivial⟩) (ltN rfl) fun b12 => ?_
      refine J.store (.t rfl) (.eq (.t rfl) (K2 (Ts := (pT ((X6 m (atP f.cs i) g).getD p0))) (Q0 _))) .here U4 (Z4 (Ts' := (pT ((X6 m (atP f.cs i) g).getD p0))) (o := 0) rfl) (J.A rfl rfl (J.e (JC.seq (JC.g (J.M rfl rfl (J.o (ot_not (.t rfl)) rfl (J.e ?_)))))))
      refine JC.cond (.t rfl) (fun hc5 => ?_) (fun hc5 => ?_)
      ·try simp only [bsx] at hc5
       have hs73 := hc5
       have hno : (X6 m (atP f.cs i) g).isSome = false := by simpa using hs73
       refine (JC.g ?_)
       refine J.o (X9 (T' := tV Q5 (Pol.mk 0 (Z.mk false ([])) ([]))) (V7 (Ts := zP) pl28 (fun _ => ⟨rfl, rfl, rfl, rfl, Q9 _ _, rfl, Q9 _ _, rfl, trivial⟩) (.nil) rfl) (tV_F' (Q0 _))) rfl ?_
       refine J.store (.t rfl) (.eq (.t rfl) (K2 (Ts := zP) (Q0 _))) (.there (.there (.there .here))) U4 (Z4 (Ts' := zP) (o := 0) rfl) ?_
       refine J.a .is rfl (J.e (JC.ret (JQ.then_ret (JQ.block_ret (JQ.then_ret (JQ.then_ret (JQ.block_ret (JQ.then_ret (JQ.then_ret ?_)))))))))
       exact JQ.ret2 rfl (.agg (.t rfl) (.tail _ (.tail _ (.tail _ (.head _)))) Z9 (U3 (T := tV Q5 (Pol.mk 0 (Z.mk false ([])) ([]))) (T' := tV Q5 ((X6 k f g).getD p0)) (by rw [hm, exactF_coef hfz hs31 hs35 hs53, coefF_none (Y3 (cs := f.cs) (i := i) (by omega)) hno]; rfl) (Q6 (g := Y4) (y := (Pol.mk 0 (Z.mk false ([])) ([]))) (Q0 (Pol.mk 0 (Z.mk false ([])) ([]))).symm rfl))) (.tmp (.eq (.t rfl) (by rw [hm, exactF_coef hfz hs31 hs35 hs53, coefF_none (Y3 (cs := f.cs) (i := i) (by omega)) hno]; rfl)))
      ·try simp only [bsx] at hc5
       have hs73 := hc5
       have hok : (X6 m (atP f.cs i) g).isSome = true := by simpa using hs73
       refine JC.skip (JQ.then_normal (JC.region (J.M rfl rfl (J.M rfl rfl (J.o (oa (.t rfl) (.head _) Z9 (Q6 (g := Y4) (y := ((X6 m (atP f.cs i) g).getD p0)) (Q0 ((X6 m (atP f.cs i) g).getD p0)).symm rfl)) rfl ?_)))))
       refine J.o (X9 (T' := X7 b57 (0 + i * 4)) (oix (.t rfl) (.t rfl) W5 (by omega) (by omega)) (Z7 (by omega))) rfl ?_
       refine J.store (.t rfl) (.t rfl) (.there (.there .here)) U4 (T4 (by omega)) (J.nil (JQ.block_normal (JQ.then_normal (JC.region ?_))))
       refine J.o (Z6 (.t rfl) .is (w64 (by omega) (by omega))) rfl (J.M rfl rfl (J.nil ?_))
       exact JQ.round (i + 1) ⟨by omega, all_take (by omega) hall hok⟩ (by omega) (Q8 (X3 (.drop (.drop (.keep (K8 (fillP_set (f := fun c => (X6 m c g).getD p0) (by omega))) (.k (.k (.k .nil))))))) (Z3 ⟨.t rfl, .t rfl, .t rfl, .t rfl, .t rfl, .t rfl, .t rfl, .eq (.t rfl) (by first | rfl | (congr 3; omega) | (congr 2; omega)), trivial⟩))
     ·try simp only [bsx] at hc4
      have hs62 := hc4
      have hif : i = f.cs.length := by omega
      have hfull := fillP_full (f := fun c => (X6 m c g).getD p0) (cs := f.cs) (k := i) (by omega)
      have hco := coefF_all (E := (X6 m · g)) (by rw [hif, List.take_length] at hall; exact hall)
      have hex := exactF_coef (k := m) hfz hs31 hs35 hs53
      rw [hco] at hex
      have hJ := coef_facts hlm (by omega) hcs cgl hz sf.sub sg hb.1 hb.2.1 ng hco
      refine JC.exit (JQ.then_exit (JQ.then_exit (JQ.block_exit (JQ.then_normal (JC.seq ?_)))))
      refine JC.weak (U9 (E := Q5) (xs := (fillP (fun c => (X6 m c g).getD p0) f.cs i)) (n := f.cs.length) (c := f.cs.length) [9] ⟨rfl, trivial⟩ .here (by omega) (by omega)) (JC.region (J.M rfl rfl (J.M rfl rfl ?_)))
      refine J.o (oc fn91 (joinK_c (fillP (fun c => (X6 m c g).getD p0) f.cs i) l f.lv hl (by omega) (by rw [hfull]; exact hJ.1) (by rw [hfull]; exact hJ.2.1) (by rw [hfull, List.length_map]; exact hfcs) (by rw [hfull]; exact nrm_room hJ.2.2 hnc nf) ⟨by omega, by have := rm1.gm; have := gM_succ (k := m) (D := D) (E := E) (g := u) hb.1; omega, by omega⟩ (cnt_room hlm rm1.2.2.1)) (.cons (.t rfl) (.cons (.t rfl) .nil))) rfl ?_
      refine J.store (.t rfl) (.eq (.t rfl) (K2 (Ts := (pT (U0 f.lv (fillP (fun c => (X6 m c g).getD p0) f.cs i)))) (Q0 _))) .here U4 (Z4 (Ts' := (pT (U0 f.lv (fillP (fun c => (X6 m c g).getD p0) f.cs i)))) (o := 0) rfl) ?_
      refine J.a .is rfl (J.e (JC.ret (JQ.then_ret ?_)))
      exact JQ.ret2 rfl (.agg (.t rfl) (.head _) Z9 (U3 (T := tV Q5 (U0 f.lv (fillP (fun c => (X6 m c g).getD p0) f.cs i))) (T' := tV Q5 ((X6 k f g).getD p0)) (by rw [hm, hex, hfull]; rfl) (Q6 (g := Y4) (y := (U0 f.lv (fillP (fun c => (X6 m c g).getD p0) f.cs i))) (Q0 (U0 f.lv (fillP (fun c => (X6 m c g).getD p0) f.cs i))).symm rfl))) (.tmp (.eq (.t rfl) (by rw [hm, hex]; rfl)))
    ·try simp only [bsx] at hc3
     have hs53 := hc3
     obtain ⟨m, hm⟩ : ∃ m, k = m + 1 := ⟨k - 1, by omega⟩
     have rm1 : Rm (m + 1) D E u B := hm ▸ rm
     have hDE := rm1.2.2.2.base
     obtain ⟨l, hl⟩ : ∃ l : Nat, f.lv = ((l + 1 : Nat) : Int) := ⟨f.lv.toNat - 1, by omega⟩
     have hlm : l ≤ m := by omega
     have hcs := cf.sub_can hl
     have hgs := cg.sub_can (l := l) (by omega)
     obtain ⟨e2, e3, _, _⟩ := cg.ends (by omega)
     have hnf : V3 f.cs ≤ nrm f := by rw [nrm_eq]; exact Nat.le_add_left _ _
     have hng : V3 g.cs ≤ nrm g := by rw [nrm_eq]; exact Nat.le_add_left _ _
     refine JC.skip (JQ.then_normal (JC.seq ?_))
     refine JC.drawM (ι := Nat × Nat) (Hb := fun κ => [⟨κ.1, 28, Y5 Q5 (f.cs) (f.cs.length)⟩, ⟨b4, 28, cTs zP⟩, ⟨b3, 28, cTs (pT g)⟩, ⟨b2, 28, cTs (pT f)⟩]) (Tn := fun κ => sIs κ.1 0 (f.cs.length) (f.cs.length)) (Γn := [(84, tIs (.int .i64 (f.lv))), (83, tV Q5 f), (53, tIs (.bool (decide (g.lv < f.lv)))), (52, tIs (.int .i64 (f.lv))), (51, tIs (.int .i64 (g.lv))), (50, X7 b3 0), (8, tIs (.int .i64 (f.lv))), (49, tIs (.int .i64 (f.lv))), (48, X7 b2 0), (35, tIs (.bool (decide (f.lv = 0)))), (34, tIs (.int .i64 (f.lv))), (33, X7 b2 0), (31, tIs (.bool (decide (f.lv < g.lv)))), (30, tIs (.int .i64 (g.lv))), (29, X7 b3 0), (28, tIs (.int .i64 (f.lv))), (27, X7 b2 0), (25, tIs (.bool (Z5 f))), (24, tV Q5 f), (5, tIs (.bool false)), (4, X7 b4 0), (3, X7 b3 0), (2, X7 b2 0), (0, tV Q5 f), (1, tV Q5 g)]) (Γ' := ?g1) 2 (fun i => [3, 4, 6].contains i) mo (by kernel_rfl) rfl rfl ?tw1 ?st1 ?k1
     case tw1 =>
      refine TM.pre (oa (.t rfl) (.tail _ (.tail _ (.head _))) Z9 (Q6 (g := Y4) (y := f) (Q0 f).symm rfl)) rfl (ltN rfl) rfl rfl ?_
      refine TM.pre (Y0 (.t rfl)) rfl (ltN rfl) rfl rfl ?_
      refine TM.mid rfl (ltN rfl) rfl ?_
      refine TM.any (ofa (.t rfl) fd28_2) (fun κ => ofa (.t rfl) fd28_2) rfl (ltN rfl) rfl rfl ?_
      refine TM.any (ol (.t rfl) (.tail _ (.head _)) sc26 (Z8 rfl)) (fun κ => ol (.t rfl) (.tail _ (.tail _ (.head _))) sc26 (Z8 rfl)) rfl (ltN rfl) rfl rfl ?_
      refine TM.post (T := fun κ => sIs κ.1 0 (f.cs.length) (f.cs.length)) (fun κ => Y2 (.t rfl)) rfl (ltN rfl) rfl rfl ?_
      refine TM.any (Y2 (.t rfl)) (fun κ => Y2 (.t rfl)) rfl (ltN rfl) rfl rfl ?_
      exact TM.nil
     case st1 =>
      intro Γx hx
      exact J.callO (R := fun cap => Y5 Q5 (f.cs) (f.cs.length)) fn90 (coefsO_c f pf ⟨by omega, by omega⟩ f.lv rfl hs35) (.cons (.move hx (.t rfl) (by kernel_rfl)) (.cons (.move hx (.t rfl) (by kernel_rfl)) .nil)) (ltN rfl) fun b cap => J.midO (Hb := fun κ => [⟨κ.1, 28, Y5 Q5 (f.cs) (f.cs.length)⟩, ⟨b4, 28, cTs zP⟩, ⟨b3, 28, cTs (pT g)⟩, ⟨b2, 28, cTs (pT f)⟩]) (Tn := fun κ => sIs κ.1 0 (f.cs.length) (f.cs.length)) (b, cap)
     intro κ; obtain ⟨b85, cap85⟩ := κ
     refine JQ.weak (Γ' := [(15, tSl Q5 (g.cs)), (14, sIs b85 0 (f.cs.length) (f.cs.length)), (87, tSl Q5 (g.cs)), (86, X7 b3 3), (85, sIs b85 0 (f.cs.length) (f.cs.length)), (84, tIs (.int .i64 (f.lv))), (83, tV Q5 f), (53, tIs (.bool (decide (g.lv < f.lv)))), (52, tIs (.int .i64 (f.lv))), (51, tIs (.int .i64 (g.lv))), (50, X7 b3 0), (8, tIs (.int .i64 (f.lv))), (49, tIs (.int .i64 (f.lv))), (48, X7 b2 0), (35, tIs (.bool (decide (f.lv = 0)))), (34, tIs (.int .i64 (f.lv))), (33, X7 b2 0), (31, tIs (.bool (decide (f.lv < g.lv)))), (30, tIs (.int .i64 (g.lv))), (29, X7 b3 0), (28, tIs (.int .i64 (f.lv))), (27, X7 b2 0), (25, tIs (.bool (Z5 f))), (24, tV Q5 f), (5, tIs (.bool false)), (4, X7 b4 0), (3, X7 b3 0), (2, X7 b2 0), (0, tV Q5 f), (1, tV Q5 g)]) (H' := [⟨b85, 28, Y5 Q5 (f.cs) (f.cs.length)⟩, ⟨b4, 28, cTs zP⟩, ⟨b3, 28, cTs (pT g)⟩, ⟨b2, 28, cTs (pT f)⟩]) (fun _ _ h => h) (JQ.then_normal (JC.seq (JC.g (J.M rfl rfl ?_))))
     refine J.o (T8 (.t rfl) W5 rfl) rfl (J.M rfl rfl (J.o (Y8 (.t rfl) W5 rfl) rfl (J.o (Y6 (.t rfl) (.t rfl)) rfl (J.e ?_))))
     refine JC.cond (.t rfl) (fun hc6 => ?_) (fun hc6 => ?_)
     ·try simp only [bsx] at hc6
      have hs92 := hc6
      have hsh : f.cs.length < g.cs.length := by omega
      refine (JC.g ?_)
      refine J.o (X9 (T' := tV Q5 (Pol.mk 0 (Z.mk false ([])) ([]))) (V7 (Ts := zP) pl28 (fun _ => ⟨rfl, rfl, rfl, rfl, Q9 _ _, rfl, Q9 _ _, rfl, trivial⟩) (.nil) rfl) (tV_F' (Q0 _))) rfl ?_
      refine J.store (.t rfl) (.eq (.t rfl) (K2 (Ts := zP) (Q0 _))) (.there .here) U4 (Z4 (Ts' := zP) (o := 0) rfl) ?_
      refine J.a .is rfl (J.e (JC.ret (JQ.then_ret ?_)))
      exact JQ.ret2 rfl (.agg (.t rfl) (.tail _ (.head _)) Z9 (U3 (T := tV Q5 (Pol.mk 0 (Z.mk false ([])) ([]))) (T' := tV Q5 ((X6 k f g).getD p0)) (by rw [hm, exactF_short hfz hs31 hs35 hs53 hsh]; rfl) (Q6 (g := Y4) (y := (Pol.mk 0 (Z.mk false ([])) ([]))) (Q0 (Pol.mk 0 (Z.mk false ([])) ([]))).symm rfl))) (.tmp (.eq (.t rfl) (by rw [hm, exactF_short hfz hs31 hs35 hs53 hsh]; rfl)))
     ·try simp only [bsx] at hc6
      have hs92 := hc6
      have hsh : ¬ f.cs.length < g.cs.length := by omega
      have hex := exactF_long (k := m) hfz hs31 hs35 hs53 hsh
      have hLB : LB l E g.cs := ⟨hgs, sg.sub, by omega, e3⟩
      have hd : LD m l D E u B (f.cs.length - g.cs.length + 1) f.cs g.cs := ⟨hLB, hlm, by omega, hb.1, hb.2.1, by omega, Nat.lt_of_le_of_lt hnf nf, by omega⟩
      have hgl : Z5 (atP g.cs (g.cs.length - 1)) = false := e3
      have hgm := Y3 (cs := g.cs) (i := g.cs.length - 1) (by omega)
      refine JC.skip (JQ.then_normal (JC.g (J.M rfl rfl ?_)))
      refine J.o (T8 (.t rfl) W5 rfl) rfl (J.M rfl rfl (J.o (Y8 (.t rfl) W5 rfl) rfl ?_))
      refine J.o (K4 (.t rfl) (.t rfl) (w64 (by omega) (by omega))) rfl ?_
      refine J.o (Z6 (.t rfl) .is (w64 (by omega) (by omega))) rfl ?_
      refine J.make (E := Q5) (z := p0) (n := (f.cs.length - g.cs.length + 1)) W5 (.eq (.t rfl) (by congr 2; omega)) (.eq (.t rfl) (by congr 2; omega)) W9 (fun _ => encP_zero) (by decide) (by omega) (by omega) (ltN rfl) fun b100 => (J.A rfl rfl (J.e (JC.seq (JC.g (J.M rfl rfl ?_)))))
      refine J.o (T8 (.t rfl) W5 rfl) rfl ?_
      refine J.o (K4 (.t rfl) .is (w64 (by omega) (by omega))) rfl (J.A rfl rfl (J.e (JC.block ?_)))
      refine JC.loop3 (α := Nat) (β := List Pol) (γ := List Pol) (fun s A O => [(4, X7 b4 0), (8, tIs (.int .i64 (f.lv))), (14, sIs b85 0 (f.cs.length) (f.cs.length)), (15, tSl Q5 (g.cs)), (16, sIs b100 0 (f.cs.length - g.cs.length + 1) (f.cs.length - g.cs.length + 1)), (17, tIs (.int .i64 ((s : Int) - 1)))]) (fun s A O => [⟨b100, 28, Y5 Q5 O (f.cs.length - g.cs.length + 1)⟩, ⟨b85, 28, Y5 Q5 A (f.cs.length)⟩, ⟨b4, 28, cTs zP⟩, ⟨b3, 28, cTs (pT g)⟩, ⟨b2, 28, cTs (pT f)⟩]) (fun s A O => LI l D E (V3 f.cs) (KM m D E u) (f.cs.length - g.cs.length + 1) s g.cs A O ∧ longF (X6 m) g.cs s A O = longF (X6 m) g.cs (f.cs.length - g.cs.length + 1) f.cs (List.replicate (f.cs.length - g.cs.length + 1) p0)) (fun s A O => s) (f.cs.length - g.cs.length + 1) f.cs (List.replicate (f.cs.length - g.cs.length + 1) p0) ⟨LI.first (by omega) (by omega) hcs sf.sub (Nat.le_refl _), rfl⟩ ?lsub1 ?round1
      case lsub1 => exact Q8 (X3 (.keep (fun _ _ h => by first | exact h | simpa using h) (.k (.k (.k (.k .nil)))))) (Z3 ⟨.t rfl, .t rfl, .t rfl, .t rfl, .t rfl, .t rfl, trivial⟩)
      intro s A O hinv
      obtain ⟨hL, hv⟩ := hinv
      have hLA := hL.lenA
      have hLO := hL.lenO
      have hLe := hL.le
      refine JC.seq (JC.g (J.M rfl rfl (J.o (ot_geq (.t rfl) .is) rfl (J.e ?_))))
      refine JC.cond (.t rfl) (fun hc7 => ?_) (fun hc7 => ?_)
      ·try simp only [bsx] at hc7
       have hs105 := hc7
       obtain ⟨t, ht⟩ : ∃ t, s = t + 1 := ⟨s - 1, by omega⟩
       have hs1 : s - 1 = t := by omega
       have hLt : LI l D E (V3 f.cs) (KM m D E u) (f.cs.length - g.cs.length + 1) (s - 1 + 1) g.cs A O := by rw [show s - 1 + 1 = s by omega]; exact hL
       have hta := hLt.top hd
       have hmt := Y3 hta
       have hpt := hLt.el hd hmt
       refine JC.skip (JQ.then_normal (JC.seq (JC.block (JC.seq ?_))))
       refine JC.weak (Γ' := [(105, tIs (.bool (decide (0 ≤ ((s : Int) - 1))))), (104, tIs (.int .i64 ((s : Int) - 1))), (4, X7 b4 0), (8, tIs (.int .i64 (f.lv))), (14, sIs b85 0 (f.cs.length) (f.cs.length)), (15, tSl Q5 (g.cs)), (16, sIs b100 0 (f.cs.length - g.cs.length + 1) (f.cs.length - g.cs.length + 1)), (17, tIs (.int .i64 ((s : Int) - 1)))]) (H' := [⟨b100, 28, Y5 Q5 O (f.cs.length - g.cs.length + 1)⟩, ⟨b85, 28, Y5 Q5 A (f.cs.length)⟩, ⟨b4, 28, cTs zP⟩, ⟨b3, 28, cTs (pT g)⟩, ⟨b2, 28, cTs (pT f)⟩]) (Q8 (X3 (.k (.k (.k (.k (.k .nil)))))) (Z3 ⟨.t rfl, .t rfl, .t rfl, .t rfl, .t rfl, .t rfl, .t rfl, .t rfl, trivial⟩)) ?_
       refine JC.drawP (Ts := [sIs b85 0 (f.cs.length) (f.cs.length), tIs (.int .i64 ((s : Int) - 1)), tSl Q5 (g.cs), tIs (.int .i64 (((g.cs).length : Int))), tIs (.int .i64 (((s : Int) - 1) + ((g.cs).length : Int))), tIs (.int .i64 ((((s : Int) - 1) + ((g.cs).length : Int)) - 1)), X7 b85 (0 + (s - 1 + g.cs.length - 1) * 4), tV Q5 (atP A (s - 1 + g.cs.length - 1)), tSl Q5 (g.cs), tSl Q5 (g.cs), tIs (.int .i64 (((g.cs).length : Int))), tIs (.int .i64 (((g.cs).length : Int) - 1)), tPtr (cEnc Q5 (atP g.cs (g.cs.length - 1))), tV Q5 (atP g.cs (g.cs.length - 1)), V5 [tV Q5 ((X6 m (atP A (s - 1 + g.cs.length - 1)) (atP g.cs (g.cs.length - 1))).getD p0), tIs (.bool ((X6 m (atP A (s - 1 + g.cs.length - 1)) (atP g.cs (g.cs.length - 1))).isSome))], V5 [tV Q5 ((X6 m (atP A (s - 1 + g.cs.length - 1)) (atP g.cs (g.cs.length - 1))).getD p0), tIs (.bool ((X6 m (atP A (s - 1 + g.cs.length - 1)) (atP g.cs (g.cs.length - 1))).isSome))], tV Q5 ((X6 m (atP A (s - 1 + g.cs.length - 1)) (atP g.cs (g.cs.length - 1))).getD p0), tIs (.bool ((X6 m (atP A (s - 1 + g.cs.length - 1)) (atP g.cs (g.cs.length - 1))).isSome)), K5, K5, K5]) (un := (fun i => [18, 19].contains i)) mo (by kernel_rfl) ?_
       refine RP.step (al := (fun i => [0, 1, 2, 3, 4, 5, 6, 7, 8, 9, 10, 11, 12, 13, 14, 15, 16, 17].contains i)) (Γn := [(125, tIs (.bool ((X6 m (atP A (s - 1 + g.cs.length - 1)) (atP g.cs (g.cs.length - 1))).isSome))), (124, tV Q5 ((X6 m (atP A (s - 1 + g.cs.length - 1)) (atP g.cs (g.cs.length - 1))).getD p0)), (108, V5 [tV Q5 ((X6 m (atP A (s - 1 + g.cs.length - 1)) (atP g.cs (g.cs.length - 1))).getD p0), tIs (.bool ((X6 m (atP A (s - 1 + g.cs.length - 1)) (atP g.cs (g.cs.length - 1))).isSome))]), (123, V5 [tV Q5 ((X6 m (atP A (s - 1 + g.cs.length - 1)) (atP g.cs (g.cs.length - 1))).getD p0), tIs (.bool ((X6 m (atP A (s - 1 + g.cs.length - 1)) (atP g.cs (g.cs.length - 1))).isSome))]), (122, tV Q5 (atP g.cs (g.cs.length - 1))), (121, tPtr (cEnc Q5 (atP g.cs (g.cs.length - 1)))), (120, tIs (.int .i64 (((g.cs).length : Int) - 1))), (119, tIs (.int .i64 (((g.cs).length : Int)))), (118, tSl Q5 (g.cs)), (117, tSl Q5 (g.cs)), (116, tV Q5 (atP A (s - 1 + g.cs.length - 1))), (115, X7 b85 (0 + (s - 1 + g.cs.length - 1) * 4)), (114, tIs (.int .i64 ((((s : Int) - 1) + ((g.cs).length : Int)) - 1))), (113, tIs (.int .i64 (((s : Int) - 1) + ((g.cs).length : Int)))), (112, tIs (.int .i64 (((g.cs).length : Int)))), (111, tSl Q5 (g.cs)), (110, tIs (.int .i64 ((s : Int) - 1))), (109, sIs b85 0 (f.cs.length) (f.cs.length)), (105, tIs (.bool (decide (0 ≤ ((s : Int) - 1))))), (104, tIs (.int .i64 ((s : Int) - 1))), (4, X7 b4 0), (8, tIs (.int .i64 (f.lv))), (14, sIs b85 0 (f.cs.length) (f.cs.length)), (15, tSl Q5 (g.cs)), (16, sIs b100 0 (f.cs.length - g.cs.length + 1) (f.cs.length - g.cs.length + 1)), (17, tIs (.int .i64 ((s : Int) - 1)))]) (Γ' := ?pg1) 18 (by kernel_rfl) (by kernel_rfl) ?tp1 ?nx1
       case tp1 =>
        refine TP.op (Y0 (.t rfl)) rfl (ltN rfl) rfl rfl ?_
        refine TP.op (Y0 (.t rfl)) rfl (ltN rfl) rfl rfl ?_
        refine TP.op (Y0 (.t rfl)) rfl (ltN rfl) rfl rfl ?_
        refine TP.op (Y8 (.t rfl) W5 rfl) rfl (ltN rfl) rfl rfl ?_
        refine TP.op (Z6 (.t rfl) (.t rfl) (w64 (by omega) (by omega))) rfl (ltN rfl) rfl rfl ?_
        refine TP.op (K4 (.t rfl) .is (w64 (by omega) (by omega))) rfl (ltN rfl) rfl rfl ?_
        refine TP.op (X9 (T' := X7 b85 (0 + (s - 1 + g.cs.length - 1) * 4)) (oix (.t rfl) (.t rfl) W5 (by omega) (by omega)) (Z7 (by omega))) rfl (ltN rfl) rfl rfl ?_
        refine TP.op (oa (.t rfl) (.tail _ (.head _)) Z9 (row_agg rfl (atP_some (by omega)))) rfl (ltN rfl) rfl rfl ?_
        refine TP.op (Y0 (.t rfl)) rfl (ltN rfl) rfl rfl ?_
        refine TP.op (Y0 (.t rfl)) rfl (ltN rfl) rfl rfl ?_
        refine TP.op (Y8 (.t rfl) W5 rfl) rfl (ltN rfl) rfl rfl ?_
        refine TP.op (K4 (.t rfl) .is (w64 (by omega) (by omega))) rfl (ltN rfl) rfl rfl ?_
        refine TP.op (ixo (z := atP g.cs (g.cs.length - 1)) (.t rfl) (.t rfl) W5 (by omega) (atP_at (by omega) (by omega))) rfl (ltN rfl) rfl rfl ?_
        refine TP.op (lda (.t rfl) Z9 V0) rfl (ltN rfl) rfl rfl ?_
        refine TP.op (oc fn74 (ih m (by omega) (atP A (s - 1 + g.cs.length - 1)) (atP g.cs (g.cs.length - 1)) (by omega) ((hL.can _ hmt).mono hlm) ((hgs _ hgm).mono hlm) hgl hpt.sz (sg.sub _ hgm) (Nat.le_trans (Nat.add_le_add_right (nrmL_sub hgm) 2) ng) hpt.nr rm1.2.2.2) (.cons (.t rfl) (.cons (.t rfl) .nil))) rfl (ltN rfl) rfl rfl ?_
        refine TP.op (Y0 (.t rfl)) rfl (ltN rfl) rfl rfl ?_
        refine TP.op (Z1 (.t rfl) rfl) rfl (ltN rfl) rfl rfl ?_
        refine TP.op (Z1 (.t rfl) rfl) rfl (ltN rfl) rfl rfl ?_
        refine TP.at rfl rfl ?_
        refine TP.skip0 rfl rfl rfl ?_
        refine TP.skip rfl rfl rfl ?_
        exact TP.nil
       case nx1 =>
       refine OneStep.mk (ι := Nat) (Hb := fun κ => [⟨κ, 28, cTs zP⟩, ⟨b100, 28, Y5 Q5 O (f.cs.length - g.cs.length + 1)⟩, ⟨b85, 28, Y5 Q5 A (f.cs.length)⟩, ⟨b4, 28, cTs zP⟩, ⟨b3, 28, cTs (pT g)⟩, ⟨b2, 28, cTs (pT f)⟩]) (Tb := fun κ => [sIs b85 0 (f.cs.length) (f.cs.length), tIs (.int .i64 ((s : Int) - 1)), tSl Q5 (g.cs), tIs (.int .i64 (((g.cs).length : Int))), tIs (.int .i64 (((s : Int) - 1) + ((g.cs).length : Int))), tIs (.int .i64 ((((s : Int) - 1) + ((g.cs).length : Int)) - 1)), X7 b85 (0 + (s - 1 + g.cs.length - 1) * 4), tV Q5 (atP A (s - 1 + g.cs.length - 1)), tSl Q5 (g.cs), tSl Q5 (g.cs), tIs (.int .i64 (((g.cs).length : Int))), tIs (.int .i64 (((g.cs).length : Int) - 1)), tPtr (cEnc Q5 (atP g.cs (g.cs.length - 1))), tV Q5 (atP g.cs (g.cs.length - 1)), V5 [tV Q5 ((X6 m (atP A (s - 1 + g.cs.length - 1)) (atP g.cs (g.cs.length - 1))).getD p0), tIs (.bool ((X6 m (atP A (s - 1 + g.cs.length - 1)) (atP g.cs (g.cs.length - 1))).isSome))], V5 [tV Q5 ((X6 m (atP A (s - 1 + g.cs.length - 1)) (atP g.cs (g.cs.length - 1))).getD p0), tIs (.bool ((X6 m (atP A (s - 1 + g.cs.length - 1)) (atP g.cs (g.cs.length - 1))).isSome))], tV Q5 ((X6 m (atP A (s - 1 + g.cs.length - 1)) (atP g.cs (g.cs.length - 1))).getD p0), tIs (.bool ((X6 m (atP A (s - 1 + g.cs.length - 1)) (atP g.cs (g.cs.length - 1))).isSome)), X7 κ 0, K5, K5]) (fun i => [18].contains i) (fun i => [19].contains i) rfl rfl (fun _ => ⟨.inr rfl, ⟨.inr rfl, ⟨.inr rfl, ⟨.inr rfl, ⟨.inr rfl, ⟨.inr rfl, ⟨.inr rfl, ⟨.inr rfl, ⟨.inr rfl, ⟨.inr rfl, ⟨.inr rfl, ⟨.inr rfl, ⟨.inr rfl, ⟨.inr rfl, ⟨.inr rfl, ⟨.inr rfl, ⟨.inr rfl, ⟨.inr rfl, ⟨.inl rfl, ⟨.inl rfl, ⟨.inl rfl, trivial⟩⟩⟩⟩⟩⟩⟩⟩⟩⟩⟩⟩⟩⟩⟩⟩⟩⟩⟩⟩⟩) (by kernel_rfl) ?op1_18 ?mx1_18
       case op1_18 =>
        intro Γx hx
        refine J.alloc (R := cTs zP) W9 (fun _ => ⟨rfl, rfl, rfl, rfl, Q9 _ _, rfl, Q9 _ _, rfl, trivial⟩) (ltN rfl) fun b18 => ?_
        exact J.midP (Hb := fun κ => [⟨κ, 28, cTs zP⟩, ⟨b100, 28, Y5 Q5 O (f.cs.length - g.cs.length + 1)⟩, ⟨b85, 28, Y5 Q5 A (f.cs.length)⟩, ⟨b4, 28, cTs zP⟩, ⟨b3, 28, cTs (pT g)⟩, ⟨b2, 28, cTs (pT f)⟩]) (Tb := fun κ => [sIs b85 0 (f.cs.length) (f.cs.length), tIs (.int .i64 ((s : Int) - 1)), tSl Q5 (g.cs), tIs (.int .i64 (((g.cs).length : Int))), tIs (.int .i64 (((s : Int) - 1) + ((g.cs).length : Int))), tIs (.int .i64 ((((s : Int) - 1) + ((g.cs).length : Int)) - 1)), X7 b85 (0 + (s - 1 + g.cs.length - 1) * 4), tV Q5 (atP A (s - 1 + g.cs.length - 1)), tSl Q5 (g.cs), tSl Q5 (g.cs), tIs (.int .i64 (((g.cs).length : Int))), tIs (.int .i64 (((g.cs).length : Int) - 1)), tPtr (cEnc Q5 (atP g.cs (g.cs.length - 1))), tV Q5 (atP g.cs (g.cs.length - 1)), V5 [tV Q5 ((X6 m (atP A (s - 1 + g.cs.length - 1)) (atP g.cs (g.cs.length - 1))).getD p0), tIs (.bool ((X6 m (atP A (s - 1 + g.cs.length - 1)) (atP g.cs (g.cs.length - 1))).isSome))], V5 [tV Q5 ((X6 m (atP A (s - 1 + g.cs.length - 1)) (atP g.cs (g.cs.length - 1))).getD p0), tIs (.bool ((X6 m (atP A (s - 1 + g.cs.length - 1)) (atP g.cs (g.cs.length - 1))).isSome))], tV Q5 ((X6 m (atP A (s - 1 + g.cs.length - 1)) (atP g.cs (g.cs.length - 1))).getD p0), tIs (.bool ((X6 m (atP A (s - 1 + g.cs.length - 1)) (atP g.cs (g.cs.length - 1))).isSome)), X7 κ 0, K5, K5]) (n := 18) b18 rfl
       case mx1_18 =>
        intro b18
        refine RP.step (al := (fun i => [0, 1, 2, 3, 4, 5, 6, 7, 8, 9, 10, 11, 12, 13, 14, 15, 16, 17].contains i)) (Γn := [(18, X7 b18 0), (125, tIs (.bool ((X6 m (atP A (s - 1 + g.cs.length - 1)) (atP g.cs (g.cs.length - 1))).isSome))), (124, tV Q5 ((X6 m (atP A (s - 1 + g.cs.length - 1)) (atP g.cs (g.cs.length - 1))).getD p0)), (108, V5 [tV Q5 ((X6 m (atP A (s - 1 + g.cs.length - 1)) (atP g.cs (g.cs.length - 1))).getD p0), tIs (.bool ((X6 m (atP A (s - 1 + g.cs.length - 1)) (atP g.cs (g.cs.length - 1))).isSome))]), (123, V5 [tV Q5 ((X6 m (atP A (s - 1 + g.cs.length - 1)) (atP g.cs (g.cs.length - 1))).getD p0), tIs (.bool ((X6 m (atP A (s - 1 + g.cs.length - 1)) (atP g.cs (g.cs.length - 1))).isSome))]), (122, tV Q5 (atP g.cs (g.cs.length - 1))), (121, tPtr (cEnc Q5 (atP g.cs (g.cs.length - 1)))), (120, tIs (.int .i64 (((g.cs).length : Int) - 1))), (119, tIs (.int .i64 (((g.cs).length : Int)))), (118, tSl Q5 (g.cs)), (117, tSl Q5 (g.cs)), (116, tV Q5 (atP A (s - 1 + g.cs.length - 1))), (115, X7 b85 (0 + (s - 1 + g.cs.length - 1) * 4)), (114, tIs (.int .i64 ((((s : Int) - 1) + ((g.cs).length : Int)) - 1))), (113, tIs (.int .i64 (((s : Int) - 1) + ((g.cs).length : Int)))), (112, tIs (.int .i64 (((g.cs).length : Int)))), (111, tSl Q5 (g.cs)), (110, tIs (.int .i64 ((s : Int) - 1))), (109, sIs b85 0 (f.cs.length) (f.cs.length)), (105, tIs (.bool (decide (0 ≤ ((s : Int) - 1))))), (104, tIs (.int .i64 ((s : Int) - 1))), (4, X7 b4 0), (8, tIs (.int .i64 (f.lv))), (14, sIs b85 0 (f.cs.length) (f.cs.length)), (15, tSl Q5 (g.cs)), (16, sIs b100 0 (f.cs.length - g.cs.length + 1) (f.cs.length - g.cs.length + 1)), (17, tIs (.int .i64 ((s : Int) - 1)))]) (Γ' := ?pg2) 19 (by kernel_rfl) (by kernel_rfl) ?tp2 ?nx2
        case tp2 =>
         refine TP.op (Y0 (.t rfl)) rfl (ltN rfl) rfl rfl ?_
         refine TP.op (Y0 (.t rfl)) rfl (ltN rfl) rfl rfl ?_
         refine TP.op (Y0 (.t rfl)) rfl (ltN rfl) rfl rfl ?_
         refine TP.op (Y8 (.t rfl) W5 rfl) rfl (ltN rfl) rfl rfl ?_
         refine TP.op (Z6 (.t rfl) (.t rfl) (w64 (by omega) (by omega))) rfl (ltN rfl) rfl rfl ?_
         refine TP.op (K4 (.t rfl) .is (w64 (by omega) (by omega))) rfl (ltN rfl) rfl rfl ?_
         refine TP.op (X9 (T' := X7 b85 (0 + (s - 1 + g.cs.length - 1) * 4)) (oix (.t rfl) (.t rfl) W5 (by omega) (by omega)) (Z7 (by omega))) rfl (ltN rfl) rfl rfl ?_
         refine TP.op (oa (.t rfl) (.tail _ (.tail _ (.head _))) Z9 (row_agg rfl (atP_some (by omega)))) rfl (ltN rfl) rfl rfl ?_
         refine TP.op (Y0 (.t rfl)) rfl (ltN rfl) rfl rfl ?_
         refine TP.op (Y0 (.t rfl)) rfl (ltN rfl) rfl rfl ?_
         refine TP.op (Y8 (.t rfl) W5 rfl) rfl (ltN rfl) rfl rfl ?_
         refine TP.op (K4 (.t rfl) .is (w64 (by omega) (by omega))) rfl (ltN rfl) rfl rfl ?_
         refine TP.op (ixo (z := atP g.cs (g.cs.length - 1)) (.t rfl) (.t rfl) W5 (by omega) (atP_at (by omega) (by omega))) rfl (ltN rfl) rfl rfl ?_
         refine TP.op (lda (.t rfl) Z9 V0) rfl (ltN rfl) rfl rfl ?_
         refine TP.op (oc fn74 (ih m (by omega) (atP A (s - 1 + g.cs.length - 1)) (atP g.cs (g.cs.length - 1)) (by omega) ((hL.can _ hmt).mono hlm) ((hgs _ hgm).mono hlm) hgl hpt.sz (sg.sub _ hgm) (Nat.le_trans (Nat.add_le_add_right (nrmL_sub hgm) 2) ng) hpt.nr rm1.2.2.2) (.cons (.t rfl) (.cons (.t rfl) .nil))) rfl (ltN rfl) rfl rfl ?_
         refine TP.op (Y0 (.t rfl)) rfl (ltN rfl) rfl rfl ?_
         refine TP.op (Z1 (.t rfl) rfl) rfl (ltN rfl) rfl rfl ?_
         refine TP.op (Z1 (.t rfl) rfl) rfl (ltN rfl) rfl rfl ?_
         refine TP.skip rfl rfl rfl ?_
         refine TP.at0 rfl rfl ?_
         refine TP.skip rfl rfl rfl ?_
         exact TP.nil
        case nx2 =>
        refine OneStep.mk (ι := Unit) (Hb := fun κ => [⟨b18, 28, cTs (pT ((X6 m (atP A (s - 1 + g.cs.length - 1)) (atP g.cs (g.cs.length - 1))).getD p0))⟩, ⟨b100, 28, Y5 Q5 O (f.cs.length - g.cs.length + 1)⟩, ⟨b85, 28, Y5 Q5 A (f.cs.length)⟩, ⟨b4, 28, cTs zP⟩, ⟨b3, 28, cTs (pT g)⟩, ⟨b2, 28, cTs (pT f)⟩]) (Tb := fun κ => [sIs b85 0 (f.cs.length) (f.cs.length), tIs (.int .i64 ((s : Int) - 1)), tSl Q5 (g.cs), tIs (.int .i64 (((g.cs).length : Int))), tIs (.int .i64 (((s : Int) - 1) + ((g.cs).length : Int))), tIs (.int .i64 ((((s : Int) - 1) + ((g.cs).length : Int)) - 1)), X7 b85 (0 + (s - 1 + g.cs.length - 1) * 4), tV Q5 (atP A (s - 1 + g.cs.length - 1)), tSl Q5 (g.cs), tSl Q5 (g.cs), tIs (.int .i64 (((g.cs).length : Int))), tIs (.int .i64 (((g.cs).length : Int) - 1)), tPtr (cEnc Q5 (atP g.cs (g.cs.length - 1))), tV Q5 (atP g.cs (g.cs.length - 1)), V5 [tV Q5 ((X6 m (atP A (s - 1 + g.cs.length - 1)) (atP g.cs (g.cs.length - 1))).getD p0), tIs (.bool ((X6 m (atP A (s - 1 + g.cs.length - 1)) (atP g.cs (g.cs.length - 1))).isSome))], V5 [tV Q5 ((X6 m (atP A (s - 1 + g.cs.length - 1)) (atP g.cs (g.cs.length - 1))).getD p0), tIs (.bool ((X6 m (atP A (s - 1 + g.cs.length - 1)) (atP g.cs (g.cs.length - 1))).isSome))], tV Q5 ((X6 m (atP A (s - 1 + g.cs.length - 1)) (atP g.cs (g.cs.length - 1))).getD p0), tIs (.bool ((X6 m (atP A (s - 1 + g.cs.length - 1)) (atP g.cs (g.cs.length - 1))).isSome)), X7 b18 0, K5, tIs (.bool ((X6 m (atP A (s - 1 + g.cs.length - 1)) (atP g.cs (g.cs.length - 1))).isSome))]) (fun i => [0, 1, 2, 3, 4, 5, 6, 7, 8, 9, 10, 11, 12, 13, 14, 15, 16, 18, 19].contains i) (fun _ => false) rfl rfl (fun _ => ⟨.inr rfl, ⟨.inr rfl, ⟨.inr rfl, ⟨.inr rfl, ⟨.inr rfl, ⟨.inr rfl, ⟨.inr rfl, ⟨.inr rfl, ⟨.inr rfl, ⟨.inr rfl, ⟨.inr rfl, ⟨.inr rfl, ⟨.inr rfl, ⟨.inr rfl, ⟨.inr rfl, ⟨.inr rfl, ⟨.inr rfl, ⟨.inr rfl, ⟨.inr rfl, ⟨.inl rfl, ⟨.inl rfl, trivial⟩⟩⟩⟩⟩⟩⟩⟩⟩⟩⟩⟩⟩⟩⟩⟩⟩⟩⟩⟩⟩) (by kernel_rfl) ?op2_19 ?mx2_19
        case op2_19 =>
         intro Γx hx
         refine J.store (.move hx (.t rfl) (by kernel_rfl)) (.eq (.move hx (.t rfl) (by kernel_rfl)) (K2 (Ts := (pT ((X6 m (atP A (s - 1 + g.cs.length - 1)) (atP g.cs (g.cs.length - 1))).getD p0))) (Q0 _))) .here U4 (Z4 (Ts' := (pT ((X6 m (atP A (s - 1 + g.cs.length - 1)) (atP g.cs (g.cs.length - 1))).getD p0))) (o := 0) rfl) ?_
         exact J.midP (Hb := fun κ => [⟨b18, 28, cTs (pT ((X6 m (atP A (s - 1 + g.cs.length - 1)) (atP g.cs (g.cs.length - 1))).getD p0))⟩, ⟨b100, 28, Y5 Q5 O (f.cs.length - g.cs.length + 1)⟩, ⟨b85, 28, Y5 Q5 A (f.cs.length)⟩, ⟨b4, 28, cTs zP⟩, ⟨b3, 28, cTs (pT g)⟩, ⟨b2, 28, cTs (pT f)⟩]) (Tb := fun κ => [sIs b85 0 (f.cs.length) (f.cs.length), tIs (.int .i64 ((s : Int) - 1)), tSl Q5 (g.cs), tIs (.int .i64 (((g.cs).length : Int))), tIs (.int .i64 (((s : Int) - 1) + ((g.cs).length : Int))), tIs (.int .i64 ((((s : Int) - 1) + ((g.cs).length : Int)) - 1)), X7 b85 (0 + (s - 1 + g.cs.length - 1) * 4), tV Q5 (atP A (s - 1 + g.cs.length - 1)), tSl Q5 (g.cs), tSl Q5 (g.cs), tIs (.int .i64 (((g.cs).length : Int))), tIs (.int .i64 (((g.cs).length : Int) - 1)), tPtr (cEnc Q5 (atP g.cs (g.cs.length - 1))), tV Q5 (atP g.cs (g.cs.length - 1)), V5 [tV Q5 ((X6 m (atP A (s - 1 + g.cs.length - 1)) (atP g.cs (g.cs.length - 1))).getD p0), tIs (.bool ((X6 m (atP A (s - 1 + g.cs.length - 1)) (atP g.cs (g.cs.length - 1))).isSome))], V5 [tV Q5 ((X6 m (atP A (s - 1 + g.cs.length - 1)) (atP g.cs (g.cs.length - 1))).getD p0), tIs (.bool ((X6 m (atP A (s - 1 + g.cs.length - 1)) (atP g.cs (g.cs.length - 1))).isSome))], tV Q5 ((X6 m (atP A (s - 1 + g.cs.length - 1)) (atP g.cs (g.cs.length - 1))).getD p0), tIs (.bool ((X6 m (atP A (s - 1 + g.cs.length - 1)) (atP g.cs (g.cs.length - 1))).isSome)), X7 b18 0, K5, tIs (.bool ((X6 m (atP A (s - 1 + g.cs.length - 1)) (atP g.cs (g.cs.length - 1))).isSome))]) (n := 19) () rfl
        case mx2_19 =>
         intro _
         refine RP.last (al := (fun i => [17, 20].contains i)) (Γn := []) (Γ' := [(19, tIs (.bool ((X6 m (atP A (s - 1 + g.cs.length - 1)) (atP g.cs (g.cs.length - 1))).isSome))), (18, X7 b18 0), (125, tIs (.bool ((X6 m (atP A (s - 1 + g.cs.length - 1)) (atP g.cs (g.cs.length - 1))).isSome))), (124, tV Q5 ((X6 m (atP A (s - 1 + g.cs.length - 1)) (atP g.cs (g.cs.length - 1))).getD p0)), (108, V5 [tV Q5 ((X6 m (atP A (s - 1 + g.cs.length - 1)) (atP g.cs (g.cs.length - 1))).getD p0), tIs (.bool ((X6 m (atP A (s - 1 + g.cs.length - 1)) (atP g.cs (g.cs.length - 1))).isSome))]), (123, V5 [tV Q5 ((X6 m (atP A (s - 1 + g.cs.length - 1)) (atP g.cs (g.cs.length - 1))).getD p0), tIs (.bool ((X6 m (atP A (s - 1 + g.cs.length - 1)) (atP g.cs (g.cs.length - 1))).isSome))]), (122, tV Q5 (atP g.cs (g.cs.length - 1))), (121, tPtr (cEnc Q5 (atP g.cs (g.cs.length - 1)))), (120, tIs (.int .i64 (((g.cs).length : Int) - 1))), (119, tIs (.int .i64 (((g.cs).length : Int)))), (118, tSl Q5 (g.cs)), (117, tSl Q5 (g.cs)), (116, tV Q5 (atP A (s - 1 + g.cs.length - 1))), (115, X7 b85 (0 + (s - 1 + g.cs.length - 1) * 4)), (114, tIs (.int .i64 ((((s : Int) - 1) + ((g.cs).length : Int)) - 1))), (113, tIs (.int .i64 (((s : Int) - 1) + ((g.cs).length : Int)))), (112, tIs (.int .i64 (((g.cs).length : Int)))), (111, tSl Q5 (g.cs)), (110, tIs (.int .i64 ((s : Int) - 1))), (109, sIs b85 0 (f.cs.length) (f.cs.length)), (105, tIs (.bool (decide (0 ≤ ((s : Int) - 1))))), (104, tIs (.int .i64 ((s : Int) - 1))), (4, X7 b4 0), (8, tIs (.int .i64 (f.lv))), (14, sIs b85 0 (f.cs.length) (f.cs.length)), (15, tSl Q5 (g.cs)), (16, sIs b100 0 (f.cs.length - g.cs.length + 1) (f.cs.length - g.cs.length + 1)), (17, tIs (.int .i64 ((s : Int) - 1)))]) (by kernel_rfl) (by kernel_rfl) ?tp3 ?_
         case tp3 =>
          refine TP.skip rfl rfl rfl ?_
          refine TP.skip rfl rfl rfl ?_
          refine TP.skip rfl rfl rfl ?_
          refine TP.skip rfl rfl rfl ?_
          refine TP.skip rfl rfl rfl ?_
          refine TP.skip rfl rfl rfl ?_
          refine TP.skip rfl rfl rfl ?_
          refine TP.skip rfl rfl rfl ?_
          refine TP.skip rfl rfl rfl ?_
          refine TP.skip rfl rfl rfl ?_
          refine TP.skip rfl rfl rfl ?_
          refine TP.skip rfl rfl rfl ?_
          refine TP.skip rfl rfl rfl ?_
          refine TP.skip rfl rfl rfl ?_
          refine TP.skip rfl rfl rfl ?_
          refine TP.skip rfl rfl rfl ?_
          refine TP.skip rfl rfl rfl ?_
          refine TP.op (Z1 (.t rfl) rfl) rfl (ltN rfl) rfl rfl ?_
          refine TP.skip rfl rfl rfl ?_
          refine TP.skip0 rfl rfl rfl ?_
          refine TP.op (Y2 (.t rfl)) rfl (ltN rfl) rfl rfl ?_
          exact TP.nil
         refine JQ.then_normal (JC.seq (JC.g (J.M rfl rfl (J.o (ot_not (.t rfl)) rfl (J.e ?_)))))
         refine JC.cond (.t rfl) (fun hc8 => ?_) (fun hc8 => ?_)
         ·try simp only [bsx] at hc8
          have hs127 := hc8
          have hno := none_of (o := X6 m (atP A (s - 1 + g.cs.length - 1)) (atP g.cs (g.cs.length - 1))) (by simpa using hs127)
          have hex0 : X6 (m + 1) f g = none := by rw [hex, ← hv, longF_none (t := s - 1) (by omega) hno]
          refine (JC.g ?_)
          refine J.o (X9 (T' := tV Q5 (Pol.mk 0 (Z.mk false ([])) ([]))) (V7 (Ts := zP) pl28 (fun _ => ⟨rfl, rfl, rfl, rfl, Q9 _ _, rfl, Q9 _ _, rfl, trivial⟩) (.nil) rfl) (tV_F' (Q0 _))) rfl ?_
          refine J.store (.t rfl) (.eq (.t rfl) (K2 (Ts := zP) (Q0 _))) (.there (.there (.there .here))) U4 (Z4 (Ts' := zP) (o := 0) rfl) ?_
          refine J.a .is rfl (J.e (JC.ret (JQ.then_ret (JQ.block_ret (JQ.then_ret (JQ.then_ret (JQ.block_ret (JQ.then_ret ?_))))))))
          exact JQ.ret2 rfl (.agg (.t rfl) (.tail _ (.tail _ (.tail _ (.head _)))) Z9 (U3 (T := tV Q5 (Pol.mk 0 (Z.mk false ([])) ([]))) (T' := tV Q5 ((X6 k f g).getD p0)) (by rw [hm, hex0]; rfl) (Q6 (g := Y4) (y := (Pol.mk 0 (Z.mk false ([])) ([]))) (Q0 (Pol.mk 0 (Z.mk false ([])) ([]))).symm rfl))) (.tmp (.eq (.t rfl) (by rw [hm, hex0]; rfl)))
         ·try simp only [bsx] at hc8
          have hs127 := hc8
          have hok : (X6 m (atP A (s - 1 + g.cs.length - 1)) (atP g.cs (g.cs.length - 1))).isSome = true := by simpa using hs127
          have hsome := some_of hok
          have hQ := hLt.quot hd hsome
          refine JC.skip (JQ.then_normal (JC.g (J.M rfl rfl (J.M rfl rfl (J.o (oa (.t rfl) (.head _) Z9 (Q6 (g := Y4) (y := ((X6 m (atP A (s - 1 + g.cs.length - 1)) (atP g.cs (g.cs.length - 1))).getD p0)) (Q0 ((X6 m (atP A (s - 1 + g.cs.length - 1)) (atP g.cs (g.cs.length - 1))).getD p0)).symm rfl)) rfl ?_)))))
          refine J.o (X9 (T' := X7 b100 (0 + (s - 1) * 4)) (oix (.t rfl) (.t rfl) W5 (by omega) (by omega)) (Z7 (by omega))) rfl ?_
          refine J.store (.t rfl) (.t rfl) (.there .here) U4 (T4 (by omega)) (J.e (JC.g (J.M rfl rfl (J.o (Y8 (.t rfl) W5 rfl) rfl ?_))))
          refine J.m .is rfl (J.e (JC.block ?_))
          refine JC.loop (ι := Nat) (fun i => [(4, X7 b4 0), (8, tIs (.int .i64 (f.lv))), (14, sIs b85 0 (f.cs.length) (f.cs.length)), (15, tSl Q5 (g.cs)), (16, sIs b100 0 (f.cs.length - g.cs.length + 1) (f.cs.length - g.cs.length + 1)), (17, tIs (.int .i64 ((s : Int) - 1))), (18, X7 b18 0), (19, tIs (.bool ((X6 m (atP A (s - 1 + g.cs.length - 1)) (atP g.cs (g.cs.length - 1))).isSome))), (104, tIs (.int .i64 ((s : Int) - 1))), (105, tIs (.bool (decide (0 ≤ ((s : Int) - 1))))), (108, V5 [tV Q5 ((X6 m (atP A (s - 1 + g.cs.length - 1)) (atP g.cs (g.cs.length - 1))).getD p0), tIs (.bool ((X6 m (atP A (s - 1 + g.cs.length - 1)) (atP g.cs (g.cs.length - 1))).isSome))]), (109, sIs b85 0 (f.cs.length) (f.cs.length)), (110, tIs (.int .i64 ((s : Int) - 1))), (111, tSl Q5 (g.cs)), (112, tIs (.int .i64 (((g.cs).length : Int)))), (113, tIs (.int .i64 (((s : Int) - 1) + ((g.cs).length : Int)))), (114, tIs (.int .i64 ((((s : Int) - 1) + ((g.cs).length : Int)) - 1))), (115, X7 b85 (0 + (s - 1 + g.cs.length - 1) * 4)), (116, tV Q5 (atP A (s - 1 + g.cs.length - 1))), (117, tSl Q5 (g.cs)), (118, tSl Q5 (g.cs)), (119, tIs (.int .i64 (((g.cs).length : Int)))), (120, tIs (.int .i64 (((g.cs).length : Int) - 1))), (121, tPtr (cEnc Q5 (atP g.cs (g.cs.length - 1)))), (122, tV Q5 (atP g.cs (g.cs.length - 1))), (123, V5 [tV Q5 ((X6 m (atP A (s - 1 + g.cs.length - 1)) (atP g.cs (g.cs.length - 1))).getD p0), tIs (.bool ((X6 m (atP A (s - 1 + g.cs.length - 1)) (atP g.cs (g.cs.length - 1))).isSome))]), (124, tV Q5 ((X6 m (atP A (s - 1 + g.cs.length - 1)) (atP g.cs (g.cs.length - 1))).getD p0)), (125, tIs (.bool ((X6 m (atP A (s - 1 + g.cs.length - 1)) (atP g.cs (g.cs.length - 1))).isSome))), (126, tIs (.bool ((X6 m (atP A (s - 1 + g.cs.length - 1)) (atP g.cs (g.cs.length - 1))).isSome))), (127, tIs (.bool (!((X6 m (atP A (s - 1 + g.cs.length - 1)) (atP g.cs (g.cs.length - 1))).isSome)))), (129, sIs b100 0 (f.cs.length - g.cs.length + 1) (f.cs.length - g.cs.length + 1)), (130, tIs (.int .i64 ((s : Int) - 1))), (131, tV Q5 ((X6 m (atP A (s - 1 + g.cs.length - 1)) (atP g.cs (g.cs.length - 1))).getD p0)), (132, X7 b100 (0 + (s - 1) * 4)), (133, tSl Q5 (g.cs)), (134, tIs (.int .i64 (((g.cs).length : Int)))), (135, tIs (.int .i64 (i : Int)))]) (fun i => [⟨b18, 28, cTs (pT ((X6 m (atP A (s - 1 + g.cs.length - 1)) (atP g.cs (g.cs.length - 1))).getD p0))⟩, ⟨b100, 28, Y5 Q5 ((O).set (s - 1) ((X6 m (atP A (s - 1 + g.cs.length - 1)) (atP g.cs (g.cs.length - 1))).getD p0)) (f.cs.length - g.cs.length + 1)⟩, ⟨b85, 28, Y5 Q5 ((subI g.cs ((X6 m (atP A (s - 1 + g.cs.length - 1)) (atP g.cs (g.cs.length - 1))).getD p0) (s - 1) i A)) (f.cs.length)⟩, ⟨b4, 28, cTs zP⟩, ⟨b3, 28, cTs (pT g)⟩, ⟨b2, 28, cTs (pT f)⟩]) (fun i => i ≤ g.cs.length) (fun i => g.cs.length - i) 0 (by omega) ?lsub2 ?round2
          case lsub2 => exact Q8 (X3 (.k (.k (.keep (K8 rfl) (.k (.k (.k .nil))))))) (Z3 ⟨.t rfl, .t rfl, .t rfl, .t rfl, .t rfl, .t rfl, .t rfl, .t rfl, .t rfl, .t rfl, .t rfl, .t rfl, .t rfl, .t rfl, .t rfl, .t rfl, .t rfl, .t rfl, .t rfl, .t rfl, .t rfl, .t rfl, .t rfl, .t rfl, .t rfl, .t rfl, .t rfl, .t rfl, .t rfl, .t rfl, .t rfl, .t rfl, .t rfl, .t rfl, .t rfl, .t rfl, .eq (.t rfl) (by first | rfl | (congr 3; omega) | (congr 2; omega)), trivial⟩)
          intro i hinv
          have hsl := subI_len (b := g.cs) (q := ((X6 m (atP A (s - 1 + g.cs.length - 1)) (atP g.cs (g.cs.length - 1))).getD p0)) (s := s - 1) (A := A) i
          refine (JC.g (J.o (Y6 (.t rfl) (.t rfl)) rfl (J.e (JC.seq ?_))))
          refine JC.cond (.t rfl) (fun hc9 => ?_) (fun hc9 => ?_)
          ·try simp only [bsx] at hc9
           have hs136 := hc9
           have hxm := hQ.sub i (by omega) _ (Y3 (cs := (subI g.cs ((X6 m (atP A (s - 1 + g.cs.length - 1)) (atP g.cs (g.cs.length - 1))).getD p0) (s - 1) i A)) (i := s - 1 + i) (by omega))
           have hcm := Y3 (cs := g.cs) (i := i) (by omega)
           have hpc := pg.kid hcm
           have hmq := (hQ.pg.mul hpc (by omega) (by omega))
           have hgm2 := rm1.2.1
           refine JC.skip (JQ.then_normal (JC.seq (JC.block (JC.g (J.M rfl rfl ?_)))))
           refine J.o (ixo (z := atP g.cs i) (.t rfl) (.t rfl) W5 (by omega) (atP_at (by omega) (by omega))) rfl (J.o (lda (.t rfl) Z9 V0) rfl ?_)
           refine J.alloc (R := cTs zP) W9 (fun _ => ⟨rfl, rfl, rfl, rfl, Q9 _ _, rfl, Q9 _ _, rfl, trivial⟩) (ltN rfl) fun b21 => (J.A rfl rfl ?_)
           refine J.store (.t rfl) (.eq (.t rfl) (K2 (Ts := (pT (atP g.cs i))) (Q0 _))) .here U4 (Z4 (Ts' := (pT (atP g.cs i))) (o := 0) rfl) (J.e ?_)
           refine JC.drawAt (Γ' := ?g3) 15 mo (by kernel_rfl) ?tw3 ?k3
           case tw3 =>
            refine TW.M rfl rfl (TW.M rfl rfl (TW.M rfl rfl ?_))
            refine TW.o (Z6 (.t rfl) (.t rfl) (w64 (by omega) (by omega))) rfl (TW.M rfl rfl (TW.M rfl rfl (TW.M rfl rfl ?_)))
            refine TW.o (Z6 (.t rfl) (.t rfl) (w64 (by omega) (by omega))) rfl ?_
            refine TW.o (X9 (T' := X7 b85 (0 + (s - 1 + i) * 4)) (oix (.t rfl) (.t rfl) W5 (by omega) (by omega)) (Z7 (by omega))) rfl (TW.o (oa (.t rfl) (.tail _ (.tail _ (.tail _ (.head _)))) Z9 (row_agg rfl (atP_some (by omega)))) rfl (TW.o (oa (.t rfl) (.tail _ (.head _)) Z9 (Q6 (g := Y4) (y := ((X6 m (atP A (s - 1 + g.cs.length - 1)) (atP g.cs (g.cs.length - 1))).getD p0)) (Q0 ((X6 m (atP A (s - 1 + g.cs.length - 1)) (atP g.cs (g.cs.length - 1))).getD p0)).symm rfl)) rfl (TW.o (oa (.t rfl) (.head _) Z9 (Q6 (g := Y4) (y := (atP g.cs i)) (Q0 (atP g.cs i)).symm rfl)) rfl ?_)))
            refine TW.o (oc fn29 (mulK_c ((X6 m (atP A (s - 1 + g.cs.length - 1)) (atP g.cs (g.cs.length - 1))).getD p0) (atP g.cs i) hQ.pg hpc ⟨⟨by omega, by omega, by omega⟩, by omega⟩) (.cons (.t rfl) (.cons (.t rfl) .nil))) rfl ?_
            refine TW.o (oc fn68 (subK_c (atP (subI g.cs ((X6 m (atP A (s - 1 + g.cs.length - 1)) (atP g.cs (g.cs.length - 1))).getD p0) (s - 1) i A) (s - 1 + i)) (K3 4 ((X6 m (atP A (s - 1 + g.cs.length - 1)) (atP g.cs (g.cs.length - 1))).getD p0) (atP g.cs i)) (hxm.2.mono (D' := D + D * (E - 1) + E) (B' := B + gM (m + 1) D E u + u) (by omega) (by omega)) hmq ⟨by omega, by omega⟩) (.cons (.t rfl) (.cons (.t rfl) .nil))) rfl ?_
            refine TW.o (X9 (T' := X7 b85 (0 + (s - 1 + i) * 4)) (oix (.t rfl) (.t rfl) W5 (by omega) (by omega)) (Z7 (by omega))) rfl ?_
            exact TW.nil
           refine J.store (.t rfl) (.t rfl) (.there (.there (.there .here))) U4 (T4 (by omega)) (J.nil (JQ.block_normal (JQ.then_normal (JC.region ?_))))
           refine J.o (Z6 (.t rfl) .is (w64 (by omega) (by omega))) rfl (J.M rfl rfl (J.nil ?_))
           exact JQ.round (i + 1) (by omega) (by omega) (Q8 (X3 (.drop (.k (.k (.keep (K8 rfl) (.k (.k (.k .nil)))))))) (Z3 ⟨.t rfl, .t rfl, .t rfl, .t rfl, .t rfl, .t rfl, .t rfl, .t rfl, .t rfl, .t rfl, .t rfl, .t rfl, .t rfl, .t rfl, .t rfl, .t rfl, .t rfl, .t rfl, .t rfl, .t rfl, .t rfl, .t rfl, .t rfl, .t rfl, .t rfl, .t rfl, .t rfl, .t rfl, .t rfl, .t rfl, .t rfl, .t rfl, .t rfl, .t rfl, .t rfl, .t rfl, .eq (.t rfl) (by first | rfl | (congr 3; omega) | (congr 2; omega)), trivial⟩))
          ·try simp only [bsx] at hc9
           have hs136 := hc9
           have hib : i = g.cs.length := by omega
           refine JC.exit (JQ.then_exit (JQ.then_exit (JQ.block_exit (JQ.block_normal (JQ.then_normal (JC.region (J.M rfl rfl ?_)))))))
           refine J.o (K4 (.t rfl) .is (w64 (by omega) (by omega))) rfl (J.A rfl rfl (J.nil ?_))
           exact JQ.round3 (i := s) (i2 := A) (i3 := O) (s - 1) (subI g.cs ((X6 m (atP A (s - 1 + g.cs.length - 1)) (atP g.cs (g.cs.length - 1))).getD p0) (s - 1) g.cs.length A) (O.set (s - 1) ((X6 m (atP A (s - 1 + g.cs.length - 1)) (atP g.cs (g.cs.length - 1))).getD p0)) ⟨hQ.next, by rw [← hv]; exact (longF_step (by omega) hsome).symm⟩ (by omega) (Q8 (X3 (.drop (.keep (fun _ _ h => by first | exact h | simpa using h) (.keep (K8 (by rw [hib])) (.k (.k (.k .nil))))))) (Z3 ⟨.t rfl, .t rfl, .t rfl, .t rfl, .t rfl, .eq (.t rfl) (by first | rfl | (congr 3; omega) | (congr 2; omega)), trivial⟩))
      ·try simp only [bsx] at hc7
       have hs105 := hc7
       have hs0 : s = 0 := by omega
       subst hs0
       rw [← hv, longF] at hex
       have hex : X6 (m + 1) f g = if A.all Z5 then some (U0 f.lv O) else none := hex
       refine JC.exit (JQ.then_exit (JQ.then_exit (JQ.block_exit (JQ.then_normal (JC.seq (JC.g (J.M rfl rfl ?_)))))))
       refine J.o (T8 (.t rfl) W5 rfl) rfl ?_
       refine J.m .is rfl (J.e (JC.block ?_))
       refine JC.loop (ι := Nat) (fun i => [(4, X7 b4 0), (8, tIs (.int .i64 (f.lv))), (16, sIs b100 0 (f.cs.length - g.cs.length + 1) (f.cs.length - g.cs.length + 1)), (156, sIs b85 0 (f.cs.length) (f.cs.length)), (157, tIs (.int .i64 (((f.cs.length : Nat) : Int)))), (158, tIs (.int .i64 (i : Int)))]) (fun i => [⟨b100, 28, Y5 Q5 O (f.cs.length - g.cs.length + 1)⟩, ⟨b85, 28, Y5 Q5 A (f.cs.length)⟩, ⟨b4, 28, cTs zP⟩, ⟨b3, 28, cTs (pT g)⟩, ⟨b2, 28, cTs (pT f)⟩]) (fun i => i ≤ A.length ∧ (A.take i).all Z5 = true) (fun i => A.length - i) 0 ⟨by omega, by simp⟩ ?lsub3 ?round3
       case lsub3 => exact Q8 (X3 (.k (.k (.k (.k (.k .nil)))))) (Z3 ⟨.t rfl, .t rfl, .t rfl, .t rfl, .t rfl, .eq (.t rfl) (by first | rfl | (congr 3; omega) | (congr 2; omega)), trivial⟩)
       intro i hinv
       obtain ⟨hi, hall⟩ := hinv
       refine (JC.g (J.o (Y6 (.t rfl) (.t rfl)) rfl (J.e (JC.seq ?_))))
       refine JC.cond (.t rfl) (fun hc10 => ?_) (fun hc10 => ?_)
       ·try simp only [bsx] at hc10
        have hs159 := hc10
        have hel := hL.el hd (Y3 (cs := A) (i := i) (by omega))
        have hDE := rm1.2.2.2.base
        refine JC.skip (JQ.then_normal (JC.seq (JC.block (JC.g ?_))))
        refine J.o (X9 (T' := X7 b85 (0 + i * 4)) (oix (.t rfl) (.t rfl) W5 (by omega) (by omega)) (Z7 (by omega))) rfl (J.o (oa (.t rfl) (.tail _ (.head _)) Z9 (row_agg rfl (atP_some (by omega)))) rfl ?_)
        refine J.alloc (R := cTs zP) W9 (fun _ => ⟨rfl, rfl, rfl, rfl, Q9 _ _, rfl, Q9 _ _, rfl, trivial⟩) (ltN rfl) fun b23 => ?_
        refine J.store (.t rfl) (.eq (.t rfl) (K2 (Ts := (pT (atP A i))) (Q0 _))) .here U4 (Z4 (Ts' := (pT (atP A i))) (o := 0) rfl) (J.e (JC.g (J.o (oa (.t rfl) (.head _) Z9 (Q6 (g := Y4) (y := (atP A i)) (Q0 (atP A i)).symm rfl)) rfl ?_)))
        refine J.o (oc fn30 (isZeroK_c (atP A i) hel ⟨by omega, by have := rm1.2.1; omega⟩) (.cons (.t rfl) .nil)) rfl (J.o (ot_not (.t rfl)) rfl (J.e ?_))
        refine JC.cond (.t rfl) (fun hc11 => ?_) (fun hc11 => ?_)
        ·try simp only [bsx] at hc11
         have hs164 := hc11
         refine (JC.g ?_)
         refine J.o (X9 (T' := tV Q5 (Pol.mk 0 (Z.mk false ([])) ([]))) (V7 (Ts := zP) pl28 (fun _ => ⟨rfl, rfl, rfl, rfl, Q9 _ _, rfl, Q9 _ _, rfl, trivial⟩) (.nil) rfl) (tV_F' (Q0 _))) rfl ?_
         refine J.store (.t rfl) (.eq (.t rfl) (K2 (Ts := zP) (Q0 _))) (.there (.there (.there .here))) U4 (Z4 (Ts' := zP) (o := 0) rfl) ?_
         refine J.a .is rfl (J.e (JC.ret (JQ.block_ret (JQ.then_ret (JQ.then_ret (JQ.block_ret (JQ.then_ret ?_)))))))
         exact JQ.ret2 rfl (.agg (.t rfl) (.tail _ (.tail _ (.tail _ (.head _)))) Z9 (U3 (T := tV Q5 (Pol.mk 0 (Z.mk false ([])) ([]))) (T' := tV Q5 ((X6 k f g).getD p0)) (by rw [hm, hex, if_neg (all_no (Y3 (cs := A) (i := i) (by omega)) (by simpa using hs164))]; rfl) (Q6 (g := Y4) (y := (Pol.mk 0 (Z.mk false ([])) ([]))) (Q0 (Pol.mk 0 (Z.mk false ([])) ([]))).symm rfl))) (.tmp (.eq (.t rfl) (by rw [hm, hex, if_neg (all_no (Y3 (cs := A) (i := i) (by omega)) (by simpa using hs164))]; rfl)))
        ·try simp only [bsx] at hc11
         have hs164 := hc11
         refine JC.skip (JQ.block_normal (JQ.then_normal (JC.region ?_)))
         refine J.o (Z6 (.t rfl) .is (w64 (by omega) (by omega))) rfl (J.M rfl rfl (J.nil ?_))
         exact JQ.round (i + 1) ⟨by omega, all_take (by omega) hall (by simpa using hs164)⟩ (by omega) (Q8 (X3 (.drop (.k (.k (.k (.k (.k .nil))))))) (Z3 ⟨.t rfl, .t rfl, .t rfl, .t rfl, .t rfl, .eq (.t rfl) (by first | rfl | (congr 3; omega) | (congr 2; omega)), trivial⟩))
       ·try simp only [bsx] at hc10
        have hs159 := hc10
        have hz2 : A.all Z5 = true := by rw [show i = A.length by omega, List.take_length] at hall; exact hall
        have hex1 : X6 (m + 1) f g = some (U0 f.lv O) := by rw [hex]; show (if A.all Z5 then _ else _) = _; rw [if_pos hz2]
        have hsm := hL.small hd
        have hgm2 := rm1.2.1
        have hDE := rm1.2.2.2.base
        have hszX := hL.szX hd
        refine JC.exit (JQ.then_exit (JQ.then_exit (JQ.block_exit (JQ.then_normal (JC.seq ?_)))))
        refine JC.weak (U9 (E := Q5) (xs := O) (n := (f.cs.length - g.cs.length + 1)) (c := (f.cs.length - g.cs.length + 1)) [16] ⟨rfl, trivial⟩ .here (by omega) (by omega)) (JC.region (J.M rfl rfl (J.M rfl rfl ?_)))
        refine J.o (oc fn91 (joinK_c O l f.lv hl (by omega) hL.canO (fun z hz => (hL.szO z hz).mono hszX) (by rw [hLO]; exact hd.hn) (Nat.lt_of_le_of_lt (Nat.le_add_left _ _) hsm) ⟨by omega, by omega, by omega⟩ (cnt_room hlm rm1.2.2.1)) (.cons (.t rfl) (.cons (.t rfl) .nil))) rfl ?_
        refine J.store (.t rfl) (.eq (.t rfl) (K2 (Ts := (pT (U0 f.lv O))) (Q0 _))) (.there .here) U4 (Z4 (Ts' := (pT (U0 f.lv O))) (o := 0) rfl) ?_
        refine J.a .is rfl (J.e (JC.ret ?_))
        exact JQ.ret2 rfl (.agg (.t rfl) (.tail _ (.head _)) Z9 (U3 (T := tV Q5 (U0 f.lv O)) (T' := tV Q5 ((X6 k f g).getD p0)) (by rw [hm, hex1]; rfl) (Q6 (g := Y4) (y := (U0 f.lv O)) (Q0 (U0 f.lv O)).symm rfl))) (.tmp (.eq (.t rfl) (by rw [hm, hex1]; rfl)))

theorem zeros_c {D B : Nat} (g : Pol) (hp : Pg D B g) (hb : D ≤ 4294967296 ∧ B ≤ 90000000000) : Ctr Try.prog 73 [tSl Q5 ([g])] (tIs (.int .i64 (if Z5 g = true then 2 else 0 : Int))) := by
 have h1 : ([g] : List Pol).length = 1 := rfl
 refine Ctr.of Try.func73 rfl Try.ntmps73 (Nat.le_of_ble_eq_true rfl) fun w0 M0 => (JC.g ?_)
 refine J.a .is rfl (J.e (JC.seq (JC.g (J.M rfl rfl (J.o (Y8 (.t rfl) W5 rfl) rfl ?_)))))
 refine J.m .is rfl (J.e (JC.block ?_))
 refine JC.loop (ι := Nat) (fun i => [(5, tSl Q5 ([g])), (6, tIs (.int .i64 ((([g]).length : Int)))), (7, tIs (.int .i64 (i : Int)))]) (fun i => []) (fun i => i ≤ 1 ∧ (1 ≤ i → Z5 g = false)) (fun i => 1 - i) 0 ⟨by omega, fun h => by omega⟩ ?lsub0 ?round0
 case lsub0 => exact Q8 (X3 .nil) (Z3 ⟨.t rfl, .t rfl, .eq (.t rfl) (by first | rfl | (congr 3; omega) | (congr 2; omega)), trivial⟩)
 intro i hinv
 obtain ⟨hi, hz⟩ := hinv
 refine (JC.g (J.o (Y6 (.t rfl) (.t rfl)) rfl (J.e (JC.seq ?_))))
 refine JC.cond (.t rfl) (fun hc0 => ?_) (fun hc0 => ?_)
 ·try simp only [bsx] at hc0
  have hs8 := hc0
  refine JC.skip (JQ.then_normal (JC.seq (JC.block (JC.g ?_))))
  refine J.o (ixo (z := g) (.t rfl) (.t rfl) W5 (by omega) (by rw [show (i : Int).toNat = 0 by omega]; rfl)) rfl (J.o (lda (.t rfl) Z9 V0) rfl ?_)
  refine J.alloc (R := cTs zP) W9 (fun _ => ⟨rfl, rfl, rfl, rfl, Q9 _ _, rfl, Q9 _ _, rfl, trivial⟩) (ltN rfl) fun b4 => ?_
  refine J.store (.t rfl) (.eq (.t rfl) (K2 (Ts := (pT g)) (Q0 _))) .here U4 (Z4 (Ts' := (pT g)) (o := 0) rfl) (J.e (JC.g (J.o (oa (.t rfl) (.head _) Z9 (Q6 (g := Y4) (y := g) (Q0 g).symm rfl)) rfl ?_)))
  refine J.o (oc fn30 (isZeroK_c g hp hb) (.cons (.t rfl) .nil)) rfl (J.e ?_)
  refine JC.cond (.t rfl) (fun hc1 => ?_) (fun hc1 => ?_)
  ·try simp only [bsx] at hc1
   have hs12 := hc1
   refine (JC.g ?_)
   refine J.a .is rfl (J.e (JC.ret (JQ.block_ret (JQ.then_ret (JQ.then_ret (JQ.block_ret (JQ.then_ret ?_)))))))
   exact JQ.ret1 rfl (.tmp (.eq (.t rfl) (by rw [if_pos (by simpa using hs12)])))
  ·try simp only [bsx] at hc1
   have hs12 := hc1
   refine JC.skip (JQ.block_normal (JQ.then_normal (JC.region ?_)))
   refine J.o (Z6 (.t rfl) .is (w64 (by omega) (by omega))) rfl (J.M rfl rfl (J.nil ?_))
   exact JQ.round (i + 1) ⟨by omega, fun _ => by simpa using hs12⟩ (by omega) (Q8 (X3 (.drop .nil)) (Z3 ⟨.t rfl, .t rfl, .eq (.t rfl) (by first | rfl | (congr 3; omega) | (congr 2; omega)), trivial⟩))
 ·try simp only [bsx] at hc0
  have hs8 := hc0
  refine JC.exit (JQ.then_exit (JQ.then_exit (JQ.block_exit (JQ.then_normal (JC.g ?_)))))
  refine J.a .is rfl (J.e (JC.ret ?_))
  exact JQ.ret1 rfl (.tmp (.eq (.t rfl) (by rw [if_neg (by rw [hz (by omega)]; decide)])))

theorem pExact_c {D E u B : Nat} (f g : Pol) (pf : Pg D B f) (pg : Pg E u g) (ng : nrm g + 2 ≤ B32 ^ u) (rm : Rm 4 D E u B) : Ctr Try.prog 28 [tV Q5 f, tV Q5 g] (V5 [tV Q5 (exQ f g), tIs (.int .i64 (exE f g))]) := by
 have hb := rm.base
 refine Ctr.of Try.func28 rfl Try.ntmps28 (Nat.le_of_ble_eq_true rfl) fun w0 M0 => (JC.g ?_)
 refine J.boxF (Ts := (pT f)) (.t rfl) (Q0 _) (ltN rfl) fun b2 => ?_
 refine J.boxF (Ts := (pT g)) (.t rfl) (Q0 _) (ltN rfl) fun b3 => ?_
 refine J.alloc (R := cTs zP) W9 (fun _ => ⟨rfl, rfl, rfl, rfl, Q9 _ _, rfl, Q9 _ _, rfl, trivial⟩) (ltN rfl) fun b4 => ?_
 refine J.a .is rfl (J.e (JC.seq (JC.g (J.o (oa (.t rfl) (.tail _ (.head _)) Z9 (Q6 (g := Y4) (y := g) (Q0 g).symm rfl)) rfl ?_))))
 refine J.o (K6 (E := Q5) (zs := [g]) W5 (.cons (.t rfl) .nil) rfl W9 rfl (by decide) (by decide)) rfl ?_
 refine J.o (oc fn73 (zeros_c g pg ⟨by omega, by omega⟩) (.cons (.t rfl) .nil)) rfl (J.A rfl rfl (J.e (JC.g (J.M rfl rfl (J.o (ot_neq (.t rfl) .is) rfl (J.e ?_))))))
 refine JC.cond (.t rfl) (fun hc0 => ?_) (fun hc0 => ?_)
 ·try simp only [bsx] at hc0
  have hs15 := hc0
  have hz : Z5 g = true := by cases hz : Z5 g with | true => rfl | false => rw [hz] at hs15; simp at hs15
  refine (JC.g ?_)
  refine J.o (X9 (T' := tV Q5 (Pol.mk 0 (Z.mk false ([])) ([]))) (V7 (Ts := zP) pl28 (fun _ => ⟨rfl, rfl, rfl, rfl, Q9 _ _, rfl, Q9 _ _, rfl, trivial⟩) (.nil) rfl) (tV_F' (Q0 _))) rfl (J.M rfl rfl ?_)
  refine J.store (.t rfl) (.eq (.t rfl) (K2 (Ts := zP) (Q0 _))) .here U4 (Z4 (Ts' := zP) (o := 0) rfl) (J.A rfl rfl (J.e (JC.ret (JQ.then_ret ?_))))
  exact JQ.ret2 rfl (.agg (.t rfl) (.head _) Z9 (U3 (T := tV Q5 (Pol.mk 0 (Z.mk false ([])) ([]))) (T' := tV Q5 (exQ f g)) (by rw [exQ, if_pos hz]; rfl) (Q6 (g := Y4) (y := (Pol.mk 0 (Z.mk false ([])) ([]))) (Q0 (Pol.mk 0 (Z.mk false ([])) ([]))).symm rfl))) (.tmp (.eq (.t rfl) (by rw [exE, if_pos hz, if_pos hz])))
 ·try simp only [bsx] at hc0
  have hs15 := hc0
  have hz : Z5 g = false := by cases hz : Z5 g with | false => rfl | true => rw [hz] at hs15; simp at hs15
  refine JC.skip (JQ.then_normal (JC.seq ?_))
  refine JC.weak (Γ' := [(5, tIs (.int .i64 0)), (4, X7 b4 0), (3, X7 b3 0), (2, X7 b2 0)]) (H' := [⟨b4, 28, cTs zP⟩, ⟨b3, 28, cTs (pT g)⟩, ⟨b2, 28, cTs (pT f)⟩]) (Q8 (X3 (.k (.k (.k .nil)))) (Z3 ⟨.t rfl, .t rfl, .t rfl, .t rfl, trivial⟩)) ?_
  refine JC.drawP (Ts := [tV Q5 f, tV Q5 f, tV Q5 g, tV Q5 g, K5, K5, K5, K5]) (un := (fun i => [4, 5, 6, 7].contains i)) mo (by kernel_rfl) ?_
  suffices both : ∀ b7 b8, RP _ _ _ _ [⟨b8, 28, cTs zP⟩, ⟨b7, 28, cTs zP⟩, ⟨b4, 28, cTs zP⟩, ⟨b3, 28, cTs (pT g)⟩, ⟨b2, 28, cTs (pT f)⟩] [tV Q5 f, tV Q5 f, tV Q5 g, tV Q5 g, X7 b7 0, X7 b8 0, K5, K5] (fun i => [4, 5].contains i) (fun i => [6, 7].contains i) by
   refine RP.two (al := (fun i => [0, 1, 2, 3].contains i)) (Γn := [(21, tV Q5 g), (20, tV Q5 g), (19, tV Q5 f), (18, tV Q5 f), (5, tIs (.int .i64 0)), (4, X7 b4 0), (3, X7 b3 0), (2, X7 b2 0)]) (Γ' := ?pg1) 4 5 (by kernel_rfl) (by kernel_rfl) ?tp1 ?nx1 ?ny1
   case tp1 =>
    refine TP.op (oa (.t rfl) (.tail _ (.tail _ (.head _))) Z9 (Q6 (g := Y4) (y := f) (Q0 f).symm rfl)) rfl (ltN rfl) rfl rfl ?_
    refine TP.op (oc fn45 (normK_c f pf ⟨by omega, by omega⟩) (.cons (.t rfl) .nil)) rfl (ltN rfl) rfl rfl ?_
    refine TP.op (oa (.t rfl) (.tail _ (.head _)) Z9 (Q6 (g := Y4) (y := g) (Q0 g).symm rfl)) rfl (ltN rfl) rfl rfl ?_
    refine TP.op (oc fn45 (normK_c g pg ⟨by omega, by omega⟩) (.cons (.t rfl) .nil)) rfl (ltN rfl) rfl rfl ?_
    refine TP.at rfl rfl ?_
    refine TP.skip rfl rfl rfl ?_
    refine TP.skip0 rfl rfl rfl ?_
    refine TP.skip0 rfl rfl rfl ?_
    exact TP.nil
   case nx1 =>
    refine OneStep.mk (ι := Nat) (Hb := fun κ => [⟨κ, 28, cTs zP⟩, ⟨b4, 28, cTs zP⟩, ⟨b3, 28, cTs (pT g)⟩, ⟨b2, 28, cTs (pT f)⟩]) (Tb := fun κ => [tV Q5 f, tV Q5 f, tV Q5 g, tV Q5 g, X7 κ 0, K5, K5, K5]) (fun i => [4].contains i) (fun i => [5, 6, 7].contains i) rfl rfl (fun _ => ⟨.inr rfl, ⟨.inr rfl, ⟨.inr rfl, ⟨.inr rfl, ⟨.inl rfl, ⟨.inl rfl, ⟨.inl rfl, ⟨.inl rfl, trivial⟩⟩⟩⟩⟩⟩⟩⟩) (by kernel_rfl) ?op1_4 ?mx1_4
    case op1_4 =>
     intro Γx hx
     refine J.alloc (R := cTs zP) W9 (fun _ => ⟨rfl, rfl, rfl, rfl, Q9 _ _, rfl, Q9 _ _, rfl, trivial⟩) (ltN rfl) fun b7 => ?_
     exact J.midP (Hb := fun κ => [⟨κ, 28, cTs zP⟩, ⟨b4, 28, cTs zP⟩, ⟨b3, 28, cTs (pT g)⟩, ⟨b2, 28, cTs (pT f)⟩]) (Tb := fun κ => [tV Q5 f, tV Q5 f, tV Q5 g, tV Q5 g, X7 κ 0, K5, K5, K5]) (n := 4) b7 rfl
    case mx1_4 =>
     intro b7
     refine RP.step (al := (fun i => [0, 1, 2, 3].contains i)) (Γn := [(7, X7 b7 0), (21, tV Q5 g), (20, tV Q5 g), (19, tV Q5 f), (18, tV Q5 f), (5, tIs (.int .i64 0)), (4, X7 b4 0), (3, X7 b3 0), (2, X7 b2 0)]) (Γ' := ?pg2) 5 (by kernel_rfl) (by kernel_rfl) ?tp2 ?nx2
     case tp2 =>
      refine TP.op (oa (.t rfl) (.tail _ (.tail _ (.tail _ (.head _)))) Z9 (Q6 (g := Y4) (y := f) (Q0 f).symm rfl)) rfl (ltN rfl) rfl rfl ?_
      refine TP.op (oc fn45 (normK_c f pf ⟨by omega, by omega⟩) (.cons (.t rfl) .nil)) rfl (ltN rfl) rfl rfl ?_
      refine TP.op (oa (.t rfl) (.tail _ (.tail _ (.head _))) Z9 (Q6 (g := Y4) (y := g) (Q0 g).symm rfl)) rfl (ltN rfl) rfl rfl ?_
      refine TP.op (oc fn45 (normK_c g pg ⟨by omega, by omega⟩) (.cons (.t rfl) .nil)) rfl (ltN rfl) rfl rfl ?_
      refine TP.skip rfl rfl rfl ?_
      refine TP.at rfl rfl ?_
      refine TP.skip0 rfl rfl rfl ?_
      refine TP.skip0 rfl rfl rfl ?_
      exact TP.nil
     case nx2 =>
     refine OneStep.mk (ι := Nat) (Hb := fun κ => [⟨κ, 28, cTs zP⟩, ⟨b7, 28, cTs zP⟩, ⟨b4, 28, cTs zP⟩, ⟨b3, 28, cTs (pT g)⟩, ⟨b2, 28, cTs (pT f)⟩]) (Tb := fun κ => [tV Q5 f, tV Q5 f, tV Q5 g, tV Q5 g, X7 b7 0, X7 κ 0, K5, K5]) (fun i => [4, 5].contains i) (fun i => [6, 7].contains i) rfl rfl (fun _ => ⟨.inr rfl, ⟨.inr rfl, ⟨.inr rfl, ⟨.inr rfl, ⟨.inr rfl, ⟨.inl rfl, ⟨.inl rfl, ⟨.inl rfl, trivial⟩⟩⟩⟩⟩⟩⟩⟩) (by kernel_rfl) ?op2_5 ?mx2_5
     case op2_5 =>
      intro Γx hx
      refine J.alloc (R := cTs zP) W9 (fun _ => ⟨rfl, rfl, rfl, rfl, Q9 _ _, rfl, Q9 _ _, rfl, trivial⟩) (ltN rfl) fun b8 => ?_
      exact J.midP (Hb := fun κ => [⟨κ, 28, cTs zP⟩, ⟨b7, 28, cTs zP⟩, ⟨b4, 28, cTs zP⟩, ⟨b3, 28, cTs (pT g)⟩, ⟨b2, 28, cTs (pT f)⟩]) (Tb := fun κ => [tV Q5 f, tV Q5 f, tV Q5 g, tV Q5 g, X7 b7 0, X7 κ 0, K5, K5]) (n := 5) b8 rfl
     case mx2_5 =>
      intro b8
      exact both b7 b8
   case ny1 =>
    refine OneStep.mk (ι := Nat) (Hb := fun κ => [⟨κ, 28, cTs zP⟩, ⟨b4, 28, cTs zP⟩, ⟨b3, 28, cTs (pT g)⟩, ⟨b2, 28, cTs (pT f)⟩]) (Tb := fun κ => [tV Q5 f, tV Q5 f, tV Q5 g, tV Q5 g, K5, X7 κ 0, K5, K5]) (fun i => [5].contains i) (fun i => [4, 6, 7].contains i) rfl rfl (fun _ => ⟨.inr rfl, ⟨.inr rfl, ⟨.inr rfl, ⟨.inr rfl, ⟨.inl rfl, ⟨.inl rfl, ⟨.inl rfl, ⟨.inl rfl, trivial⟩⟩⟩⟩⟩⟩⟩⟩) (by kernel_rfl) ?op1_5 ?mx1_5
    case op1_5 =>
     intro Γx hx
     refine J.alloc (R := cTs zP) W9 (fun _ => ⟨rfl, rfl, rfl, rfl, Q9 _ _, rfl, Q9 _ _, rfl, trivial⟩) (ltN rfl) fun b8 => ?_
     exact J.midP (Hb := fun κ => [⟨κ, 28, cTs zP⟩, ⟨b4, 28, cTs zP⟩, ⟨b3, 28, cTs (pT g)⟩, ⟨b2, 28, cTs (pT f)⟩]) (Tb := fun κ => [tV Q5 f, tV Q5 f, tV Q5 g, tV Q5 g, K5, X7 κ 0, K5, K5]) (n := 5) b8 rfl
    case mx1_5 =>
     intro b8
     refine RP.step (al := (fun i => [0, 1, 2, 3].contains i)) (Γn := [(21, tV Q5 g), (20, tV Q5 g), (19, tV Q5 f), (18, tV Q5 f), (5, tIs (.int .i64 0)), (4, X7 b4 0), (3, X7 b3 0), (2, X7 b2 0)]) (Γ' := ?pg3) 4 (by kernel_rfl) (by kernel_rfl) ?tp3 ?nx3
     case tp3 =>
      refine TP.op (oa (.t rfl) (.tail _ (.tail _ (.tail _ (.head _)))) Z9 (Q6 (g := Y4) (y := f) (Q0 f).symm rfl)) rfl (ltN rfl) rfl rfl ?_
      refine TP.op (oc fn45 (normK_c f pf ⟨by omega, by omega⟩) (.cons (.t rfl) .nil)) rfl (ltN rfl) rfl rfl ?_
      refine TP.op (oa (.t rfl) (.tail _ (.tail _ (.head _))) Z9 (Q6 (g := Y4) (y := g) (Q0 g).symm rfl)) rfl (ltN rfl) rfl rfl ?_
      refine TP.op (oc fn45 (normK_c g pg ⟨by omega, by omega⟩) (.cons (.t rfl) .nil)) rfl (ltN rfl) rfl rfl ?_
      refine TP.at rfl rfl ?_
      refine TP.skip rfl rfl rfl ?_
      refine TP.skip0 rfl rfl rfl ?_
      refine TP.skip0 rfl rfl rfl ?_
      exact TP.nil
     case nx3 =>
     refine OneStep.mk (ι := Nat) (Hb := fun κ => [⟨b8, 28, cTs zP⟩, ⟨κ, 28, cTs zP⟩, ⟨b4, 28, cTs zP⟩, ⟨b3, 28, cTs (pT g)⟩, ⟨b2, 28, cTs (pT f)⟩]) (Tb := fun κ => [tV Q5 f, tV Q5 f, tV Q5 g, tV Q5 g, X7 κ 0, X7 b8 0, K5, K5]) (fun i => [4, 5].contains i) (fun i => [6, 7].contains i) rfl rfl (fun _ => ⟨.inr rfl, ⟨.inr rfl, ⟨.inr rfl, ⟨.inr rfl, ⟨.inl rfl, ⟨.inr rfl, ⟨.inl rfl, ⟨.inl rfl, trivial⟩⟩⟩⟩⟩⟩⟩⟩) (by kernel_rfl) ?op3_4 ?mx3_4
     case op3_4 =>
      intro Γx hx
      refine J.alloc (R := cTs zP) W9 (fun _ => ⟨rfl, rfl, rfl, rfl, Q9 _ _, rfl, Q9 _ _, rfl, trivial⟩) (ltN rfl) fun b7 => ?_
      refine fun a w hs => J.midP (Hb := fun κ => [⟨b8, 28, cTs zP⟩, ⟨κ, 28, cTs zP⟩, ⟨b4, 28, cTs zP⟩, ⟨b3, 28, cTs (pT g)⟩, ⟨b2, 28, cTs (pT f)⟩]) (Tb := fun κ => [tV Q5 f, tV Q5 f, tV Q5 g, tV Q5 g, X7 κ 0, X7 b8 0, K5, K5]) (n := 4) b7 rfl a w hs.swap
     case mx3_4 =>
      intro b7
      exact both b7 b8
  intro b7 b8
  refine RP.step (al := (fun i => [0, 1, 2, 3].contains i)) (Γn := [(8, X7 b8 0), (7, X7 b7 0), (21, tV Q5 g), (20, tV Q5 g), (19, tV Q5 f), (18, tV Q5 f), (5, tIs (.int .i64 0)), (4, X7 b4 0), (3, X7 b3 0), (2, X7 b2 0)]) (Γ' := ?pg4) 6 (by kernel_rfl) (by kernel_rfl) ?tp4 ?nx4
  case tp4 =>
   refine TP.op (oa (.t rfl) (.tail _ (.tail _ (.tail _ (.tail _ (.head _))))) Z9 (Q6 (g := Y4) (y := f) (Q0 f).symm rfl)) rfl (ltN rfl) rfl rfl ?_
   refine TP.op (oc fn45 (normK_c f pf ⟨by omega, by omega⟩) (.cons (.t rfl) .nil)) rfl (ltN rfl) rfl rfl ?_
   refine TP.op (oa (.t rfl) (.tail _ (.tail _ (.tail _ (.head _)))) Z9 (Q6 (g := Y4) (y := g) (Q0 g).symm rfl)) rfl (ltN rfl) rfl rfl ?_
   refine TP.op (oc fn45 (normK_c g pg ⟨by omega, by omega⟩) (.cons (.t rfl) .nil)) rfl (ltN rfl) rfl rfl ?_
   refine TP.skip rfl rfl rfl ?_
   refine TP.skip rfl rfl rfl ?_
   refine TP.at0 rfl rfl ?_
   refine TP.skip0 rfl rfl rfl ?_
   exact TP.nil
  case nx4 =>
  refine OneStep.mk (ι := Unit) (Hb := fun κ => [⟨b8, 28, cTs zP⟩, ⟨b7, 28, cTs (pT f)⟩, ⟨b4, 28, cTs zP⟩, ⟨b3, 28, cTs (pT g)⟩, ⟨b2, 28, cTs (pT f)⟩]) (Tb := fun κ => [tV Q5 f, tV Q5 f, tV Q5 g, tV Q5 g, X7 b7 0, X7 b8 0, K5, K5]) (fun i => [0, 1, 2, 3, 4, 5, 6].contains i) (fun i => [7].contains i) rfl rfl (fun _ => ⟨.inr rfl, ⟨.inr rfl, ⟨.inr rfl, ⟨.inr rfl, ⟨.inr rfl, ⟨.inr rfl, ⟨.inl rfl, ⟨.inl rfl, trivial⟩⟩⟩⟩⟩⟩⟩⟩) (by kernel_rfl) ?op4_6 ?mx4_6
  case op4_6 =>
   intro Γx hx
   refine J.store (.move hx (.t rfl) (by kernel_rfl)) (.eq (.move hx (.t rfl) (by kernel_rfl)) (K2 (Ts := (pT f)) (Q0 _))) (.there .here) U4 (Z4 (Ts' := (pT f)) (o := 0) rfl) ?_
   exact J.midP (Hb := fun κ => [⟨b8, 28, cTs zP⟩, ⟨b7, 28, cTs (pT f)⟩, ⟨b4, 28, cTs zP⟩, ⟨b3, 28, cTs (pT g)⟩, ⟨b2, 28, cTs (pT f)⟩]) (Tb := fun κ => [tV Q5 f, tV Q5 f, tV Q5 g, tV Q5 g, X7 b7 0, X7 b8 0, K5, K5]) (n := 6) () rfl
  case mx4_6 =>
   intro _
   refine RP.step (al := (fun _ => false)) (Γn := [(8, X7 b8 0), (7, X7 b7 0), (21, tV Q5 g), (20, tV Q5 g), (19, tV Q5 f), (18, tV Q5 f), (5, tIs (.int .i64 0)), (4, X7 b4 0), (3, X7 b3 0), (2, X7 b2 0)]) (Γ' := ?pg5) 7 (by kernel_rfl) (by kernel_rfl) ?tp5 ?nx5
   case tp5 =>
    refine TP.skip rfl rfl rfl ?_
    refine TP.skip rfl rfl rfl ?_
    refine TP.skip rfl rfl rfl ?_
    refine TP.skip rfl rfl rfl ?_
    refine TP.skip rfl rfl rfl ?_
    refine TP.skip rfl rfl rfl ?_
    refine TP.skip0 rfl rfl rfl ?_
    refine TP.at0 rfl rfl ?_
    exact TP.nil
   case nx5 =>
   refine OneStep.mk (ι := Unit) (Hb := fun κ => [⟨b8, 28, cTs (pT g)⟩, ⟨b7, 28, cTs (pT f)⟩, ⟨b4, 28, cTs zP⟩, ⟨b3, 28, cTs (pT g)⟩, ⟨b2, 28, cTs (pT f)⟩]) (Tb := fun κ => [tV Q5 f, tV Q5 f, tV Q5 g, tV Q5 g, X7 b7 0, X7 b8 0, K5, K5]) (fun i => [0, 1, 2, 3, 4, 5, 6, 7].contains i) (fun _ => false) rfl rfl (fun _ => ⟨.inr rfl, ⟨.inr rfl, ⟨.inr rfl, ⟨.inr rfl, ⟨.inr rfl, ⟨.inr rfl, ⟨.inr rfl, ⟨.inl rfl, trivial⟩⟩⟩⟩⟩⟩⟩⟩) (by kernel_rfl) ?op5_7 ?mx5_7
   case op5_7 =>
    intro Γx hx
    refine J.store (.move hx (.t rfl) (by kernel_rfl)) (.eq (.move hx (.t rfl) (by kernel_rfl)) (K2 (Ts := (pT g)) (Q0 _))) .here U4 (Z4 (Ts' := (pT g)) (o := 0) rfl) ?_
    exact J.midP (Hb := fun κ => [⟨b8, 28, cTs (pT g)⟩, ⟨b7, 28, cTs (pT f)⟩, ⟨b4, 28, cTs zP⟩, ⟨b3, 28, cTs (pT g)⟩, ⟨b2, 28, cTs (pT f)⟩]) (Tb := fun κ => [tV Q5 f, tV Q5 f, tV Q5 g, tV Q5 g, X7 b7 0, X7 b8 0, K5, K5]) (n := 7) () rfl
   case mx5_7 =>
    intro _
    refine RP.last (al := (fun _ => false)) (Γn := []) (Γ' := [(8, X7 b8 0), (7, X7 b7 0), (21, tV Q5 g), (20, tV Q5 g), (19, tV Q5 f), (18, tV Q5 f), (5, tIs (.int .i64 0)), (4, X7 b4 0), (3, X7 b3 0), (2, X7 b2 0)]) (by kernel_rfl) (by kernel_rfl) ?tp6 ?_
    case tp6 =>
     refine TP.skip rfl rfl rfl ?_
     refine TP.skip rfl rfl rfl ?_
     refine TP.skip rfl rfl rfl ?_
     refine TP.skip rfl rfl rfl ?_
     refine TP.skip rfl rfl rfl ?_
     refine TP.skip rfl rfl rfl ?_
     refine TP.skip0 rfl rfl rfl ?_
     refine TP.skip0 rfl rfl rfl ?_
     exact TP.nil
    refine JQ.then_normal (JC.g (J.o (oa (.t rfl) (.tail _ (.head _)) Z9 (Q6 (g := Y4) (y := f) (Q0 f).symm rfl)) rfl (J.o (oa (.t rfl) (.head _) Z9 (Q6 (g := Y4) (y := g) (Q0 g).symm rfl)) rfl ?_)))
    refine J.o (oc fn74 (pexact_c 4 f g (Nat.le_refl 4) pf.can pg.can hz pf.sz pg.sz ng pf.nr rm) (.cons (.t rfl) (.cons (.t rfl) .nil))) rfl (J.M rfl rfl ?_)
    refine J.o (Z1 (.t rfl) rfl) rfl ?_
    refine J.o (Z1 (.t rfl) rfl) rfl ?_
    refine J.alloc (R := cTs zP) W9 (fun _ => ⟨rfl, rfl, rfl, rfl, Q9 _ _, rfl, Q9 _ _, rfl, trivial⟩) (ltN rfl) fun b9 => ?_
    refine J.store (.t rfl) (.eq (.t rfl) (K2 (Ts := (pT ((X6 4 f g).getD p0))) (Q0 _))) .here U4 (Z4 (Ts' := (pT ((X6 4 f g).getD p0))) (o := 0) rfl) (J.A rfl rfl (J.e (JC.seq (JC.g (J.M rfl rfl (J.o (ot_not (.t rfl)) rfl (J.e ?_)))))))
    refine JC.cond (.t rfl) (fun hc1 => ?_) (fun hc1 => ?_)
    ·try simp only [bsx] at hc1
     have hs29 := hc1
     have hno : (X6 4 f g).isSome = false := by simpa using hs29
     refine (JC.g ?_)
     refine J.o (X9 (T' := tV Q5 (Pol.mk 0 (Z.mk false ([])) ([]))) (V7 (Ts := zP) pl28 (fun _ => ⟨rfl, rfl, rfl, rfl, Q9 _ _, rfl, Q9 _ _, rfl, trivial⟩) (.nil) rfl) (tV_F' (Q0 _))) rfl ?_
     refine J.store (.t rfl) (.eq (.t rfl) (K2 (Ts := zP) (Q0 _))) (.there (.there (.there .here))) U4 (Z4 (Ts' := zP) (o := 0) rfl) ?_
     refine J.a .is rfl (J.e (JC.ret (JQ.then_ret ?_)))
     exact JQ.ret2 rfl (.agg (.t rfl) (.tail _ (.tail _ (.tail _ (.head _)))) Z9 (U3 (T := tV Q5 (Pol.mk 0 (Z.mk false ([])) ([]))) (T' := tV Q5 (exQ f g)) (by rw [exQ, if_neg (by rw [hz]; decide), none_of hno]; rfl) (Q6 (g := Y4) (y := (Pol.mk 0 (Z.mk false ([])) ([]))) (Q0 (Pol.mk 0 (Z.mk false ([])) ([]))).symm rfl))) (.tmp (.eq (.t rfl) (by rw [exE, if_neg (by rw [hz]; decide), hno]; rfl)))
    ·try simp only [bsx] at hc1
     have hs29 := hc1
     have hok : (X6 4 f g).isSome = true := by simpa using hs29
     refine JC.skip (JQ.then_normal (JC.g (J.o (oa (.t rfl) (.head _) Z9 (Q6 (g := Y4) (y := ((X6 4 f g).getD p0)) (Q0 ((X6 4 f g).getD p0)).symm rfl)) rfl ?_)))
     refine J.store (.t rfl) (.eq (.t rfl) (K2 (Ts := (pT ((X6 4 f g).getD p0))) (Q0 _))) (.there (.there (.there .here))) U4 (Z4 (Ts' := (pT ((X6 4 f g).getD p0))) (o := 0) rfl) ?_
     refine J.a .is rfl (J.e (JC.ret ?_))
     exact JQ.ret2 rfl (.agg (.t rfl) (.tail _ (.tail _ (.tail _ (.head _)))) Z9 (U3 (T := tV Q5 ((X6 4 f g).getD p0)) (T' := tV Q5 (exQ f g)) (by rw [exQ, if_neg (by rw [hz]; decide)]) (Q6 (g := Y4) (y := ((X6 4 f g).getD p0)) (Q0 ((X6 4 f g).getD p0)).symm rfl))) (.tmp (.eq (.t rfl) (by rw [exE, if_neg (by rw [hz]; decide), hok]; rfl)))

theorem divides_c {D E u B : Nat} (g f : Pol) (pf : Pg D B f) (pg : Pg E u g) (ng : nrm g + 2 ≤ B32 ^ u) (rm : Rm 4 D E u B) (hE : (E + 1) ^ 4 ≤ 1000000000) : Ctr Try.prog 33 [tV Q5 g, tV Q5 f] (tIs (.bool (dvP g f))) := by
 have hb := rm.base
 refine Ctr.of Try.func33 rfl Try.ntmps33 (Nat.le_of_ble_eq_true rfl) fun w0 M0 => (JC.g ?_)
 refine J.boxF (Ts := (pT g)) (.t rfl) (Q0 _) (ltN rfl) fun b2 => ?_
 refine J.boxF (Ts := (pT f)) (.t rfl) (Q0 _) (ltN rfl) fun b3 => ?_
 refine J.a .is rfl (J.e (JC.seq (JC.g (J.o (oa (.t rfl) (.tail _ (.head _)) Z9 (Q6 (g := Y4) (y := g) (Q0 g).symm rfl)) rfl ?_))))
 refine J.o (oc fn30 (isZeroK_c g pg ⟨by omega, by omega⟩) (.cons (.t rfl) .nil)) rfl (J.e ?_)
 refine JC.cond (.t rfl) (fun hc0 => ?_) (fun hc0 => ?_)
 ·try simp only [bsx] at hc0
  have hs8 := hc0
  refine (JC.g (J.o (oa (.t rfl) (.head _) Z9 (Q6 (g := Y4) (y := f) (Q0 f).symm rfl)) rfl ?_))
  refine J.o (oc fn30 (isZeroK_c f pf ⟨by omega, by omega⟩) (.cons (.t rfl) .nil)) rfl (J.A rfl rfl (J.e (JC.ret (JQ.then_ret ?_))))
  exact JQ.ret1 rfl (.tmp (.eq (.t rfl) (by rw [dvP, if_pos (by simpa using hs8)])))
 ·try simp only [bsx] at hc0
  have hs8 := hc0
  have hz : Z5 g = false := by simpa using hs8
  have hq := pg.msign hb.2.1 hz
  have hmz := msign_ne pg.can hz
  refine JC.skip (JQ.then_normal (JC.seq ?_))
  refine JC.weak (Γ' := [(4, tIs (.bool false)), (3, X7 b3 0), (2, X7 b2 0)]) (H' := [⟨b3, 28, cTs (pT f)⟩, ⟨b2, 28, cTs (pT g)⟩]) (Q8 (X3 (.k (.k .nil))) (Z3 ⟨.t rfl, .t rfl, .t rfl, trivial⟩)) ?_
  refine JC.drawP (Ts := [tV Q5 f, tV Q5 g, tV Q5 (msign g), V5 [tV Q5 (exQ f (msign g)), tIs (.int .i64 (exE f (msign g)))], V5 [tV Q5 (exQ f (msign g)), tIs (.int .i64 (exE f (msign g)))], tV Q5 (exQ f (msign g)), tIs (.int .i64 (exE f (msign g))), K5, K5, K5]) (un := (fun i => [7, 8].contains i)) mo (by kernel_rfl) ?_
  refine RP.step (al := (fun i => [0, 1, 2, 3, 4, 5, 6].contains i)) (Γn := [(17, tIs (.int .i64 (exE f (msign g)))), (16, tV Q5 (exQ f (msign g))), (11, V5 [tV Q5 (exQ f (msign g)), tIs (.int .i64 (exE f (msign g)))]), (15, V5 [tV Q5 (exQ f (msign g)), tIs (.int .i64 (exE f (msign g)))]), (14, tV Q5 (msign g)), (13, tV Q5 g), (12, tV Q5 f), (4, tIs (.bool false)), (3, X7 b3 0), (2, X7 b2 0)]) (Γ' := ?pg1) 7 (by kernel_rfl) (by kernel_rfl) ?tp1 ?nx1
  case tp1 =>
   refine TP.op (oa (.t rfl) (.head _) Z9 (Q6 (g := Y4) (y := f) (Q0 f).symm rfl)) rfl (ltN rfl) rfl rfl ?_
   refine TP.op (oa (.t rfl) (.tail _ (.head _)) Z9 (Q6 (g := Y4) (y := g) (Q0 g).symm rfl)) rfl (ltN rfl) rfl rfl ?_
   refine TP.op (oc fn21 (msign_c g (pg.fit (by omega)) pg.nr (pg.cnt_le hE) (by omega) (pg.terms_le hb.2.1 hE) (by rw [norm_can pg.can]; exact R5 hz)) (.cons (.t rfl) .nil)) rfl (ltN rfl) rfl rfl ?_
   refine TP.op (oc fn28 (pExact_c f (msign g) pf hq (Nat.le_trans (Nat.add_le_add_right (nrm_msign' pg.can hz) 2) ng) rm) (.cons (.t rfl) (.cons (.t rfl) .nil))) rfl (ltN rfl) rfl rfl ?_
   refine TP.op (Y0 (.t rfl)) rfl (ltN rfl) rfl rfl ?_
   refine TP.op (Z1 (.t rfl) rfl) rfl (ltN rfl) rfl rfl ?_
   refine TP.op (Z1 (.t rfl) rfl) rfl (ltN rfl) rfl rfl ?_
   refine TP.at rfl rfl ?_
   refine TP.skip0 rfl rfl rfl ?_
   refine TP.skip rfl rfl rfl ?_
   exact TP.nil
  case nx1 =>
  refine OneStep.mk (ι := Nat) (Hb := fun κ => [⟨κ, 28, cTs zP⟩, ⟨b3, 28, cTs (pT f)⟩, ⟨b2, 28, cTs (pT g)⟩]) (Tb := fun κ => [tV Q5 f, tV Q5 g, tV Q5 (msign g), V5 [tV Q5 (exQ f (msign g)), tIs (.int .i64 (exE f (msign g)))], V5 [tV Q5 (exQ f (msign g)), tIs (.int .i64 (exE f (msign g)))], tV Q5 (exQ f (msign g)), tIs (.int .i64 (exE f (msign g))), X7 κ 0, K5, K5]) (fun i => [7].contains i) (fun i => [8].contains i) rfl rfl (fun _ => ⟨.inr rfl, ⟨.inr rfl, ⟨.inr rfl, ⟨.inr rfl, ⟨.inr rfl, ⟨.inr rfl, ⟨.inr rfl, ⟨.inl rfl, ⟨.inl rfl, ⟨.inl rfl, trivial⟩⟩⟩⟩⟩⟩⟩⟩⟩⟩) (by kernel_rfl) ?op1_7 ?mx1_7
  case op1_7 =>
   intro Γx hx
   refine J.alloc (R := cTs zP) W9 (fun _ => ⟨rfl, rfl, rfl, rfl, Q9 _ _, rfl, Q9 _ _, rfl, trivial⟩) (ltN rfl) fun b5 => ?_
   exact J.midP (Hb := fun κ => [⟨κ, 28, cTs zP⟩, ⟨b3, 28, cTs (pT f)⟩, ⟨b2, 28, cTs (pT g)⟩]) (Tb := fun κ => [tV Q5 f, tV Q5 g, tV Q5 (msign g), V5 [tV Q5 (exQ f (msign g)), tIs (.int .i64 (exE f (msign g)))], V5 [tV Q5 (exQ f (msign g)), tIs (.int .i64 (exE f (msign g)))], tV Q5 (exQ f (msign g)), tIs (.int .i64 (exE f (msign g))), X7 κ 0, K5, K5]) (n := 7) b5 rfl
  case mx1_7 =>
   intro b5
   refine RP.step (al := (fun i => [0, 1, 2, 3, 4, 5, 6].contains i)) (Γn := [(5, X7 b5 0), (17, tIs (.int .i64 (exE f (msign g)))), (16, tV Q5 (exQ f (msign g))), (11, V5 [tV Q5 (exQ f (msign g)), tIs (.int .i64 (exE f (msign g)))]), (15, V5 [tV Q5 (exQ f (msign g)), tIs (.int .i64 (exE f (msign g)))]), (14, tV Q5 (msign g)), (13, tV Q5 g), (12, tV Q5 f), (4, tIs (.bool false)), (3, X7 b3 0), (2, X7 b2 0)]) (Γ' := ?pg2) 8 (by kernel_rfl) (by kernel_rfl) ?tp2 ?nx2
   case tp2 =>
    refine TP.op (oa (.t rfl) (.tail _ (.head _)) Z9 (Q6 (g := Y4) (y := f) (Q0 f).symm rfl)) rfl (ltN rfl) rfl rfl ?_
    refine TP.op (oa (.t rfl) (.tail _ (.tail _ (.head _))) Z9 (Q6 (g := Y4) (y := g) (Q0 g).symm rfl)) rfl (ltN rfl) rfl rfl ?_
    refine TP.op (oc fn21 (msign_c g (pg.fit (by omega)) pg.nr (pg.cnt_le hE) (by omega) (pg.terms_le hb.2.1 hE) (by rw [norm_can pg.can]; exact R5 hz)) (.cons (.t rfl) .nil)) rfl (ltN rfl) rfl rfl ?_
    refine TP.op (oc fn28 (pExact_c f (msign g) pf hq (Nat.le_trans (Nat.add_le_add_right (nrm_msign' pg.can hz) 2) ng) rm) (.cons (.t rfl) (.cons (.t rfl) .nil))) rfl (ltN rfl) rfl rfl ?_
    refine TP.op (Y0 (.t rfl)) rfl (ltN rfl) rfl rfl ?_
    refine TP.op (Z1 (.t rfl) rfl) rfl (ltN rfl) rfl rfl ?_
    refine TP.op (Z1 (.t rfl) rfl) rfl (ltN rfl) rfl rfl ?_
    refine TP.skip rfl rfl rfl ?_
    refine TP.at0 rfl rfl ?_
    refine TP.skip rfl rfl rfl ?_
    exact TP.nil
   case nx2 =>
   refine OneStep.mk (ι := Unit) (Hb := fun κ => [⟨b5, 28, cTs (pT (exQ f (msign g)))⟩, ⟨b3, 28, cTs (pT f)⟩, ⟨b2, 28, cTs (pT g)⟩]) (Tb := fun κ => [tV Q5 f, tV Q5 g, tV Q5 (msign g), V5 [tV Q5 (exQ f (msign g)), tIs (.int .i64 (exE f (msign g)))], V5 [tV Q5 (exQ f (msign g)), tIs (.int .i64 (exE f (msign g)))], tV Q5 (exQ f (msign g)), tIs (.int .i64 (exE f (msign g))), X7 b5 0, K5, tIs (.int .i64 (exE f (msign g)))]) (fun i => [0, 1, 2, 3, 4, 5, 7, 8].contains i) (fun _ => false) rfl rfl (fun _ => ⟨.inr rfl, ⟨.inr rfl, ⟨.inr rfl, ⟨.inr rfl, ⟨.inr rfl, ⟨.inr rfl, ⟨.inr rfl, ⟨.inr rfl, ⟨.inl rfl, ⟨.inl rfl, trivial⟩⟩⟩⟩⟩⟩⟩⟩⟩⟩) (by kernel_rfl) ?op2_8 ?mx2_8
   case op2_8 =>
    intro Γx hx
    refine J.store (.move hx (.t rfl) (by kernel_rfl)) (.eq (.move hx (.t rfl) (by kernel_rfl)) (K2 (Ts := (pT (exQ f (msign g)))) (Q0 _))) .here U4 (Z4 (Ts' := (pT (exQ f (msign g)))) (o := 0) rfl) ?_
    exact J.midP (Hb := fun κ => [⟨b5, 28, cTs (pT (exQ f (msign g)))⟩, ⟨b3, 28, cTs (pT f)⟩, ⟨b2, 28, cTs (pT g)⟩]) (Tb := fun κ => [tV Q5 f, tV Q5 g, tV Q5 (msign g), V5 [tV Q5 (exQ f (msign g)), tIs (.int .i64 (exE f (msign g)))], V5 [tV Q5 (exQ f (msign g)), tIs (.int .i64 (exE f (msign g)))], tV Q5 (exQ f (msign g)), tIs (.int .i64 (exE f (msign g))), X7 b5 0, K5, tIs (.int .i64 (exE f (msign g)))]) (n := 8) () rfl
   case mx2_8 =>
    intro _
    refine RP.last (al := (fun i => [6, 9].contains i)) (Γn := []) (Γ' := [(6, tIs (.int .i64 (exE f (msign g)))), (5, X7 b5 0), (17, tIs (.int .i64 (exE f (msign g)))), (16, tV Q5 (exQ f (msign g))), (11, V5 [tV Q5 (exQ f (msign g)), tIs (.int .i64 (exE f (msign g)))]), (15, V5 [tV Q5 (exQ f (msign g)), tIs (.int .i64 (exE f (msign g)))]), (14, tV Q5 (msign g)), (13, tV Q5 g), (12, tV Q5 f), (4, tIs (.bool false)), (3, X7 b3 0), (2, X7 b2 0)]) (by kernel_rfl) (by kernel_rfl) ?tp3 ?_
    case tp3 =>
     refine TP.skip rfl rfl rfl ?_
     refine TP.skip rfl rfl rfl ?_
     refine TP.skip rfl rfl rfl ?_
     refine TP.skip rfl rfl rfl ?_
     refine TP.skip rfl rfl rfl ?_
     refine TP.skip rfl rfl rfl ?_
     refine TP.op (Z1 (.t rfl) rfl) rfl (ltN rfl) rfl rfl ?_
     refine TP.skip rfl rfl rfl ?_
     refine TP.skip0 rfl rfl rfl ?_
     refine TP.op (Y2 (.t rfl)) rfl (ltN rfl) rfl rfl ?_
     exact TP.nil
    refine JQ.then_normal (JC.g (J.M rfl rfl (J.o (U5 (.t rfl) .is) rfl (J.A rfl rfl (J.e (JC.ret ?_))))))
    exact JQ.ret1 rfl (.tmp (.eq (.t rfl) (by rw [dvP, if_neg (by rw [hz]; decide), exE, if_neg (by rw [hmz]; decide), opt_dec])))

end Go.Proofs.Ytcbnpddeiaccbaa
