/- Walks through the program: each function called at values of the kinds that its contract names returns what the contract says. Conditions: those in the contracts. Written by the program wip/gen. -/
import Derived.Test.YtcbnpddeiaccbaaW1
set_option linter.unusedVariables false
set_option linter.unusedSimpArgs false
set_option maxRecDepth 100000
set_option maxHeartbeats 4000000
namespace Go.Proofs.Ytcbnpddeiaccbaa
open Go Go.RowKit Go.Rt
theorem terms_c {B : Nat} (p : Pol) (m : Mo) (hv : Lev 4 p) (hln : (W8 p m).length ≤ 4294967296) (hf : Fit B p) : Ctr Try.prog 95 [tV Q5 p, tV encMo m] (tSl X5 (W8 p m)) := by
 induction p using Pol.ind generalizing m
 rename_i p ih
 have hcs := hf.cs
 rw [termsP_eq] at hln
 refine Ctr.of Try.func95 rfl Try.ntmps95 (Nat.le_of_ble_eq_true rfl) fun w0 M0 => (JC.g ?_)
 refine J.boxF (Ts := (pT p)) (.t rfl) (Q0 _) (ltN rfl) fun b2 => ?_
 refine J.boxF (Ts := [tIs (.int .i64 (m.a)), tIs (.int .i64 (m.b)), tIs (.int .i64 (m.c)), tIs (.int .i64 (m.d))]) (.t rfl) rfl (ltN rfl) fun b3 => ?_
 refine J.o (Y2 (.nil (E := X5))) rfl (J.e (JC.seq (JC.g (J.o (ofa (.t rfl) T1) rfl (J.o (ol (.t rfl) (.tail _ (.head _)) sc3 (Z8 rfl)) rfl (J.o (U5 (.t rfl) .is) rfl (J.e ?_)))))))
 refine JC.cond (.t rfl) (fun hc0 => ?_) (fun hc0 => ?_)
 ·try simp only [bsx] at hc0
  have hs10 := hc0
  refine (JC.g (J.o (ofa (.t rfl) fd28_1) rfl (J.o (oa (.t rfl) (.tail _ (.head _)) ag25 (Q6 (g := zT) (y := p.c) rfl rfl)) rfl (J.o (oa (.t rfl) (.head _) ag95 (Q6 (g := moT) (y := m) rfl rfl)) rfl ?_))))
  refine J.o (X9 (T' := tV X5 (Tm.mk (p.c) m)) (V7 (Ts := [tIs (.bool false), tSl X8 ([]), tIs (.int .i64 0), tIs (.int .i64 0), tIs (.int .i64 0), tIs (.int .i64 0)]) pl97 (fun _ => ⟨rfl, rfl, Q9 _ _, rfl, rfl, rfl, rfl, rfl, rfl, rfl, rfl, rfl, trivial⟩) ((.agg (off := 0) rfl (.eq (.t rfl) (K2 (Ts := (iT p.c)) rfl)) (Ts' := [tIs (.bool (p.c.neg)), tSl X8 (p.c.abs), tIs (.int .i64 0), tIs (.int .i64 0), tIs (.int .i64 0), tIs (.int .i64 0)]) rfl rfl (.agg (off := 2) rfl (.eq (.t rfl) (K2 (Ts := [tIs (.int .i64 (m.a)), tIs (.int .i64 (m.b)), tIs (.int .i64 (m.c)), tIs (.int .i64 (m.d))]) rfl)) (Ts' := [tIs (.bool (p.c.neg)), tSl X8 (p.c.abs), tIs (.int .i64 (m.a)), tIs (.int .i64 (m.b)), tIs (.int .i64 (m.c)), tIs (.int .i64 (m.d))]) rfl rfl .nil))) rfl) (tV_F' rfl)) rfl ?_
  refine J.o (K6 (E := X5) (zs := [Tm.mk (p.c) m]) R3 (.cons (.t rfl) .nil) rfl zr97 rfl (by decide) (by decide)) rfl (J.A rfl rfl (J.e (JC.ret (JQ.then_ret ?_))))
  exact JQ.ret1 rfl (.tmp (.eq (.t rfl) (by rw [termsP_eq, if_pos hc0])))
 ·try simp only [bsx] at hc0
  have hs10 := hc0
  rw [if_neg hc0] at hln
  obtain ⟨hcl, hl0, hl4, hsub⟩ := hv.sub hc0
  refine JC.skip (JQ.then_normal (JC.g ?_))
  refine J.a .is rfl (J.e (JC.seq (JC.g (J.o (ofa (.t rfl) fd28_2) rfl (J.o (ol (.t rfl) (.tail _ (.head _)) sc26 (Z8 rfl)) rfl (J.o (Y8 (.t rfl) W5 rfl) rfl ?_))))))
  refine J.m .is rfl (J.e (JC.block ?_))
  refine JC.peel4 (α := Nat) (β := Mo) (γ := Nat) (δ := Nat) (fun k M b c => [(2, X7 b2 0), (3, X7 b3 0), (4, tSl X5 ([])), (5, sIs b 0 ((termsK (fun q i => W8 q (m.set (p.lv - 1).toNat (i : Int))) p.cs k).length) c), (17, tSl Q5 (p.cs)), (18, tIs (.int .i64 (((p.cs).length : Int)))), (19, tIs (.int .i64 (k : Int)))]) (fun k M b c => [⟨b, 97, Y5 X5 (termsK (fun q i => W8 q (m.set (p.lv - 1).toNat (i : Int))) p.cs k) c⟩, ⟨b3, 95, cTs [tIs (.int .i64 (M.a)), tIs (.int .i64 (M.b)), tIs (.int .i64 (M.c)), tIs (.int .i64 (M.d))]⟩, ⟨b2, 28, cTs (pT p)⟩]) (fun k M b c => 1 ≤ k ∧ k ≤ p.cs.length ∧ (∀ x, M.set (p.lv - 1).toNat x = m.set (p.lv - 1).toNat x)) (fun k M b c => p.cs.length - k) p.cs.length ?first0 ?round0
  case first0 =>
   refine (JC.g (J.o (Y6 (.t rfl) (.t rfl)) rfl (J.e (JC.seq ?_))))
   refine JC.cond_true (.eq (.t rfl) (by rw [decide_eq_true (by omega)])) (JC.skip (JQ.then_normal (JC.seq (JC.block (JC.g (J.M rfl rfl ?_))))))
   refine J.o (ixo (z := atP p.cs 0) (.t rfl) (.t rfl) W5 (by omega) (atP_at (by omega) (by omega))) rfl (J.o (lda (.t rfl) Z9 V0) rfl ?_)
   refine J.alloc (R := cTs zP) W9 (fun _ => ⟨rfl, rfl, rfl, rfl, Q9 _ _, rfl, Q9 _ _, rfl, trivial⟩) (ltN rfl) fun b7 => (J.A rfl rfl ?_)
   refine J.store (.t rfl) (.eq (.t rfl) (K2 (Ts := (pT (atP p.cs 0))) (Q0 _))) .here U4 (Z4 (Ts' := (pT (atP p.cs 0))) (o := 0) rfl) (J.e (JC.g (J.o (ofa (.t rfl) T1) rfl (J.o (ol (.t rfl) (.tail _ (.tail _ (.head _))) sc3 (Z8 rfl)) rfl ?_))))
   refine J.o (K4 (.t rfl) .is (w64 (by omega) (by omega))) rfl (J.M rfl rfl ?_)
   refine J.o (X9 (T' := X7 b3 ((p.lv - 1).toNat)) (ot_indexAddrA (.t rfl) (.t rfl) ar4_95 (by omega) (by omega)) (Z7 (by omega))) rfl ?_
   refine J.store (.t rfl) (.t rfl) (.there .here) sz3 (mo_st (m := m) (by omega)) (J.e (JC.region (J.M rfl rfl (J.o (oa (.t rfl) (.head _) Z9 (Q6 (g := Y4) (y := (atP p.cs 0)) (Q0 (atP p.cs 0)).symm rfl)) rfl (J.o (oa (.t rfl) (.tail _ (.head _)) ag95 (Q6 (g := moT) (y := (Mo.set m ((p.lv - 1).toNat) 0)) rfl rfl)) rfl ?_)))))
   refine J.o (oc fn95 (ih (atP p.cs 0) (Y3 (by omega)) (Mo.set m ((p.lv - 1).toNat) 0) (hsub _ (Y3 (by omega))) (Nat.le_trans (termsK_at (fun q i => W8 q (m.set (p.lv - 1).toNat (i : Int))) p.cs (k := 0) (by omega)) hln) (hf.at (by omega))) (.cons (.t rfl) (.cons (.t rfl) .nil))) rfl ?_
   refine J.append0 (E := X5) (ys := W8 (atP p.cs 0) (Mo.set m ((p.lv - 1).toNat) 0)) (.sub (.t rfl) nil_z) (.t rfl) (termsP_ne (hsub _ (Y3 (by omega)))) R3 rfl zr97 rfl (by have := termsK_at (fun q i => W8 q (m.set (p.lv - 1).toNat (i : Int))) p.cs (k := 0) (show 0 < p.cs.length by omega); have h2 : (W8 (atP p.cs 0) (m.set (p.lv - 1).toNat 0)).length ≤ 4294967296 := Nat.le_trans this hln; omega) (by have := termsK_at (fun q i => W8 q (m.set (p.lv - 1).toNat (i : Int))) p.cs (k := 0) (show 0 < p.cs.length by omega); have h2 : (W8 (atP p.cs 0) (m.set (p.lv - 1).toNat 0)).length ≤ 4294967296 := Nat.le_trans this hln; omega) (ltN rfl) fun b33 c33 => (J.A rfl rfl (J.nil (JQ.block_normal (JQ.then_normal (JC.region ?_)))))
   refine J.o (Z6 (.t rfl) .is (w64 (by omega) (by omega))) rfl (J.M rfl rfl (J.nil ?_))
   exact JQ.first4 1 (m.set (p.lv - 1).toNat 0) b33 c33 ⟨by omega, by omega, fun x => Mo.set_set⟩ (by omega) (Q8 (X3 (.keep (K8 (by simp [termsK])) (.drop (.keep (fun _ _ h => by first | exact h | simpa using h) (.k .nil))))) (Z3 ⟨.t rfl, .t rfl, .t rfl, .eq (.t rfl) (by simp [termsK]), .t rfl, .t rfl, .eq (.t rfl) (by first | rfl | (congr 3; omega) | (congr 2; omega)), trivial⟩))
  intro k M b c hinv
  obtain ⟨hk1, hk, hM⟩ := hinv
  have htk := termsK_mono (fun q i => W8 q (m.set (p.lv - 1).toNat (i : Int))) p.cs hk
  refine (JC.g (J.o (Y6 (.t rfl) (.t rfl)) rfl (J.e (JC.seq ?_))))
  refine JC.cond (.t rfl) (fun hc2 => ?_) (fun hc2 => ?_)
  ·try simp only [bsx] at hc2
   have hs20 := hc2
   refine JC.skip (JQ.then_normal (JC.seq (JC.block (JC.g (J.M rfl rfl ?_)))))
   refine J.o (ixo (z := atP p.cs k) (.t rfl) (.t rfl) W5 (by omega) (atP_at (by omega) (by omega))) rfl (J.o (lda (.t rfl) Z9 V0) rfl ?_)
   refine J.alloc (R := cTs zP) W9 (fun _ => ⟨rfl, rfl, rfl, rfl, Q9 _ _, rfl, Q9 _ _, rfl, trivial⟩) (ltN rfl) fun b7 => (J.A rfl rfl ?_)
   refine J.store (.t rfl) (.eq (.t rfl) (K2 (Ts := (pT (atP p.cs k))) (Q0 _))) .here U4 (Z4 (Ts' := (pT (atP p.cs k))) (o := 0) rfl) (J.e (JC.g (J.o (ofa (.t rfl) T1) rfl (J.o (ol (.t rfl) (.tail _ (.tail _ (.tail _ (.head _)))) sc3 (Z8 rfl)) rfl ?_))))
   refine J.o (K4 (.t rfl) .is (w64 (by omega) (by omega))) rfl (J.M rfl rfl ?_)
   refine J.o (X9 (T' := X7 b3 ((p.lv - 1).toNat)) (ot_indexAddrA (.t rfl) (.t rfl) ar4_95 (by omega) (by omega)) (Z7 (by omega))) rfl ?_
   refine J.store (.t rfl) (.t rfl) (.there (.there .here)) sz3 (mo_st (m := M) (by omega)) (J.e (JC.region (J.M rfl rfl (J.o (oa (.t rfl) (.head _) Z9 (Q6 (g := Y4) (y := (atP p.cs k)) (Q0 (atP p.cs k)).symm rfl)) rfl (J.o (oa (.t rfl) (.tail _ (.tail _ (.head _))) ag95 (Q6 (g := moT) (y := (Mo.set M ((p.lv - 1).toNat) (k : Int))) rfl rfl)) rfl ?_)))))
   refine J.o (oc fn95 (ih (atP p.cs k) (Y3 (by omega)) (Mo.set M ((p.lv - 1).toNat) (k : Int)) (hsub _ (Y3 (by omega))) (Nat.le_trans (by rw [hM]; exact termsK_at (fun q i => W8 q (m.set (p.lv - 1).toNat (i : Int))) p.cs (k := k) (by omega)) hln) (hf.at (by omega))) (.cons (.t rfl) (.cons (.t rfl) .nil))) rfl ?_
   refine J.append (E := X5) (xs := termsK (fun q i => W8 q (m.set (p.lv - 1).toNat (i : Int))) p.cs k) (ys := W8 (atP p.cs k) (Mo.set M ((p.lv - 1).toNat) (k : Int))) (.t rfl) rfl (.t rfl) R3 rfl zr97 rfl (.there .here) (by have := termsK_mono (fun q i => W8 q (m.set (p.lv - 1).toNat (i : Int))) p.cs (show k + 1 ≤ p.cs.length by omega); rw [termsK_succ, List.length_append] at this; rw [← hM] at this; omega) (by have := termsK_mono (fun q i => W8 q (m.set (p.lv - 1).toNat (i : Int))) p.cs (show k + 1 ≤ p.cs.length by omega); rw [termsK_succ, List.length_append] at this; rw [← hM] at this; omega) (ltN rfl) fun b33 c33 => (J.A rfl rfl (J.nil (JQ.block_normal (JQ.then_normal (JC.region ?_)))))
   refine J.o (Z6 (.t rfl) .is (w64 (by omega) (by omega))) rfl (J.M rfl rfl (J.nil ?_))
   exact JQ.round4 (i := k) (i2 := M) (i3 := b) (i4 := c) (k + 1) (M.set (p.lv - 1).toNat (k : Int)) b33 c33 ⟨by omega, by omega, fun x => by rw [Mo.set_set]; exact hM x⟩ (by omega) (Q8 (X3 (.keep (K8 (by rw [termsK_succ, hM])) (.drop (.keep (fun _ _ h => by first | exact h | simpa using h) (.k .nil))))) (Z3 ⟨.t rfl, .t rfl, .t rfl, .eq (.t rfl) (by rw [termsK_succ, hM]), .t rfl, .t rfl, .eq (.t rfl) (by first | rfl | (congr 3; omega) | (congr 2; omega)), trivial⟩))
  ·try simp only [bsx] at hc2
   have hs20 := hc2
   refine JC.exit (JQ.then_exit (JQ.then_exit (JQ.block_exit (JQ.then_normal (JC.seq ?_)))))
   refine JC.weak (U9 (E := X5) (xs := termsK (fun q i => W8 q (m.set (p.lv - 1).toNat (i : Int))) p.cs k) (n := (termsK (fun q i => W8 q (m.set (p.lv - 1).toNat (i : Int))) p.cs k).length) (c := c) [5] ⟨rfl, trivial⟩ .here rfl (by omega)) (JC.region (J.M rfl rfl (J.A rfl rfl (J.e (JC.ret ?_)))))
   exact JQ.ret1 rfl (.tmp (.eq (.t rfl) (by rw [termsP_eq, if_neg hc0]; congr 2; omega)))

theorem clipO_c (b n c : Nat) (h : n ≤ c) : Ctr Try.prog 113 [sIs b 0 n c] (sIs b 0 n n) := by
 refine Ctr.of Try.func113 rfl Try.ntmps113 (Nat.le_of_ble_eq_true rfl) fun w0 M0 => (JC.g ?_)
 refine J.o (Y2 (.nil (E := X5))) rfl (J.e (JC.g (J.M rfl rfl (J.M rfl rfl ?_))))
 refine J.o (T8 (.t rfl) R3 rfl) rfl (J.M rfl rfl ?_)
 refine J.o (T8 (.t rfl) R3 rfl) rfl ?_
 refine J.o (ot_slice3_own (h := n) (m := n) (kh := .i64) (km := .i64) (.t rfl) R3 (.eq (.t rfl) rfl) (.eq (.t rfl) rfl) (Nat.le_refl _) h) rfl (J.A rfl rfl (J.e (JC.ret ?_)))
 exact JQ.ret1 rfl (.tmp (.t rfl))

theorem termsY (ts : List Tm) (hl : ts.length ≤ 4294967296) (hz : ∀ t ∈ ts, t.coef.abs.length ≤ 1099511627776) : IterC Try.prog 102 [tPtr (cTs [tSl X5 ts])] (ts.length) (fun k => [tV encMo ((atT ts k).exp), tV R9 (ofI (X4 (atT ts k).coef))]) := by
 refine IterC.of Try.func102 rfl Try.ntmps102 (Nat.le_of_ble_eq_true rfl) fun l w0 M Jw hup h0 hy => ?_
 refine JCR.seq (JCR.region (J.o (ld (.t rfl) sc54 (Z8 rfl)) rfl (J.o (Y8 (.t rfl) R3 rfl) rfl ?_)))
 refine J.m .is rfl (J.nil (JQR.then_normal (JCR.block ?_)))
 refine JCR.loopY (ts.length) (fun k => [(0, tIs (.func (.yield l) #[] #[])), (5, tSl X5 ts), (6, tIs (.int .i64 (((ts).length : Int)))), (7, tIs (.int .i64 (k : Int)))]) Jw hup h0 ?ylsub ?yround
 case ylsub => exact Q8 (X3 .nil) (Z3 ⟨.t rfl, .t rfl, .t rfl, .eq (.t rfl) (by first | rfl | (congr 3; omega) | (congr 2; omega)), trivial⟩)
 intro k hk w0 hJ0
 refine JCR.seq (JCR.region (J.o (Y6 (.t rfl) (.t rfl)) rfl (J.nil (JQR.then_normal (JCR.seq ?_)))))
 refine JCR.cond (.t rfl) (fun hc0 => ?_) (fun hc0 => ?_)
 ·try simp only [bsx] at hc0
  have hs8 := hc0
  have hlt : k < ts.length := by omega
  refine JCR.skip (JQR.then_normal (JCR.seq (JCR.block (JCR.seq (JCR.region ?_)))))
  refine J.o (ixo (z := atT ts k) (.t rfl) (.t rfl) R3 (by omega) (atT_at (by omega) (by omega))) rfl (J.o (lda (.t rfl) ag97 V0) rfl ?_)
  refine J.alloc (R := cTs [tIs (.bool false), tSl X8 ([]), tIs (.int .i64 0), tIs (.int .i64 0), tIs (.int .i64 0), tIs (.int .i64 0)]) zr97 (fun _ => ⟨rfl, rfl, Q9 _ _, rfl, rfl, rfl, rfl, rfl, rfl, rfl, rfl, rfl, trivial⟩) (ltN rfl) fun b4 => ?_
  refine J.store (.t rfl) (.eq (.t rfl) (K2 (Ts := [tIs (.bool ((atT ts k).coef.neg)), tSl X8 ((atT ts k).coef.abs), tIs (.int .i64 (((atT ts k).exp).a)), tIs (.int .i64 (((atT ts k).exp).b)), tIs (.int .i64 (((atT ts k).exp).c)), tIs (.int .i64 (((atT ts k).exp).d))]) rfl)) .here sz97 (Z4 (Ts' := [tIs (.bool ((atT ts k).coef.neg)), tSl X8 ((atT ts k).coef.abs), tIs (.int .i64 (((atT ts k).exp).a)), tIs (.int .i64 (((atT ts k).exp).b)), tIs (.int .i64 (((atT ts k).exp).c)), tIs (.int .i64 (((atT ts k).exp).d))]) (o := 0) rfl) (J.nil (JQR.then_normal (JCR.seq ?_)))
  refine JCR.drawAt (Γ' := ?yg) 6 mo (by kernel_rfl) rfl ?ytw ?yk
  case ytw =>
   refine TW.M rfl rfl (TW.o (ofa (.t rfl) fd97_1) rfl (TW.o (oa (.t rfl) (.head _) ag95 (Q6 (g := moT) (y := ((atT ts k).exp)) rfl rfl)) rfl (TW.o (ofa (.t rfl) fd97_0) rfl (TW.o (oa (.t rfl) (.head _) ag25 (Q6 (g := zT) (y := ((atT ts k).coef)) rfl rfl)) rfl ?_))))
   refine TW.o (oc fn81 (intNormal_c ((atT ts k).coef) (hz _ (atT_mem hlt))) (.cons (.t rfl) .nil)) rfl ?_
   exact TW.nil
  refine JL.yield (k := k) (.t rfl) (.cons (.t rfl) (.cons (.t rfl) .nil)) hup hJ0 (fun W1 vs => hy k W1 vs hlt) (ltN rfl) fun w1 hJ1 => ?_
  refine JL.op (ot_not (.t rfl)) rfl (ltN rfl) rfl rfl ?_
  refine JL.nil ?_
  refine JQR.then_normal ?_
  refine JCR.cond_false (.eq (.t rfl) (by rfl)) ?_
  refine JCR.skip (JQ.block_normal (JQR.then_normal (JCR.region ?_)))
  refine J.o (Z6 (.t rfl) .is (w64 (by omega) (by omega))) rfl (J.M rfl rfl (J.nil ?_))
  exact fun a w hs => ⟨hlt, w1, hJ1, (Q8 (X3 .nil) (sub_cons (.t rfl) (sub_cons (.t rfl) (sub_cons (.t rfl) (sub_cons (.eq (.t rfl) (by first | rfl | (congr 3; omega) | (congr 2; omega))) sub_nil))))) a w hs⟩
 ·try simp only [bsx] at hc0
  have hs8 := hc0
  refine JCR.exit (JQ.then_exit (JQ.then_exit (JQ.block_exit ?_)))
  exact JQ.endY rfl hup (by rw [show ts.length = k by omega]; exact hJ0)

theorem len32_c (x : Nat) (hx : x < 4294967296) : Ctr Try.prog 138 [tIs (.int .u32 (x : Int))] (tIs (.int .i64 (((bl x : Nat) : Int)))) := by
 have q1 : x / 65536 / 256 < 256 → bl8 (x / 65536 / 256) ≤ 8 := fun h => (bl8_le h).1
 have q2 : x / 65536 < 256 → bl8 (x / 65536) ≤ 8 := fun h => (bl8_le h).1
 have q3 : x / 256 < 256 → bl8 (x / 256) ≤ 8 := fun h => (bl8_le h).1
 have q4 : x < 256 → bl8 x ≤ 8 := fun h => (bl8_le h).1
 refine Ctr.of Try.func138 rfl Try.ntmps138 (Nat.le_of_ble_eq_true rfl) fun w0 M0 => (JC.g ?_)
 refine J.a .is rfl (J.e (JC.seq (JC.g (J.M rfl rfl (J.o (ot_geq (.t rfl) .is) rfl (J.e ?_))))))
 refine JC.cond (.t rfl) (fun hc0 => ?_) (fun hc0 => ?_)
 ·try simp only [bsx] at hc0
  have hs4 := hc0
  refine (JC.g (J.M rfl rfl ?_))
  refine J.o (ot_shr (.t rfl) .is (by omega) fdiv16) rfl (J.A rfl rfl (J.e (JC.region ?_)))
  refine J.a .is rfl (J.e (JC.seq (JC.g (J.M rfl rfl (J.o (ot_geq (.t rfl) .is) rfl (J.e ?_))))))
  refine JC.cond (.t rfl) (fun hc1 => ?_) (fun hc1 => ?_)
  ·try simp only [bsx] at hc1
   have hs8 := hc1
   refine (JC.g (J.M rfl rfl ?_))
   refine J.o (ot_shr (.t rfl) .is (by omega) fdiv8) rfl (J.A rfl rfl (J.e (JC.region (J.M rfl rfl ?_))))
   refine J.o (Z6 (.t rfl) .is (w64 (by omega) (by omega))) rfl (J.A rfl rfl (J.e (JC.g (J.M rfl rfl (J.M rfl rfl ?_)))))
   refine J.o (K7 (.t rfl) un5 (by kernel_rfl) (wu8 (by omega) (by omega))) rfl ?_
   refine J.o (ot_indexS8 (n := x / 65536 / 256) .is (by kernel_rfl) (.t rfl) (by kernel_rfl) (by omega)) rfl ?_
   refine J.o (K7 (.t rfl) un3 (by kernel_rfl) (w64 (by omega) (by omega))) rfl ?_
   refine J.o (Z6 (.t rfl) (.t rfl) (w64 (by omega) (by omega))) rfl (J.A rfl rfl (J.e (JC.ret ?_)))
   exact JQ.ret1 rfl (.tmp (.eq (.t rfl) (by rw [bl, if_pos (by omega), bl16, if_pos (by omega)]; congr 2 <;> omega)))
  ·try simp only [bsx] at hc1
   have hs8 := hc1
   refine JC.skip (JQ.then_normal (JC.g (J.M rfl rfl (J.M rfl rfl ?_))))
   refine J.o (K7 (.t rfl) un5 (by kernel_rfl) (wu8 (by omega) (by omega))) rfl ?_
   refine J.o (ot_indexS8 (n := x / 65536) .is (by kernel_rfl) (.t rfl) (by kernel_rfl) (by omega)) rfl ?_
   refine J.o (K7 (.t rfl) un3 (by kernel_rfl) (w64 (by omega) (by omega))) rfl ?_
   refine J.o (Z6 (.t rfl) (.t rfl) (w64 (by omega) (by omega))) rfl (J.A rfl rfl (J.e (JC.ret ?_)))
   exact JQ.ret1 rfl (.tmp (.eq (.t rfl) (by rw [bl, if_pos (by omega), bl16, if_neg (by omega)]; congr 2 <;> omega)))
 ·try simp only [bsx] at hc0
  have hs4 := hc0
  refine JC.skip (JQ.then_normal (JC.seq (JC.g (J.M rfl rfl (J.o (ot_geq (.t rfl) .is) rfl (J.e ?_))))))
  refine JC.cond (.t rfl) (fun hc2 => ?_) (fun hc2 => ?_)
  ·try simp only [bsx] at hc2
   have hs8 := hc2
   refine (JC.g (J.M rfl rfl ?_))
   refine J.o (ot_shr (.t rfl) .is (by omega) fdiv8) rfl (J.A rfl rfl (J.e (JC.region (J.M rfl rfl ?_))))
   refine J.o (Z6 (.t rfl) .is (w64 (by omega) (by omega))) rfl (J.A rfl rfl (J.e (JC.g (J.M rfl rfl (J.M rfl rfl ?_)))))
   refine J.o (K7 (.t rfl) un5 (by kernel_rfl) (wu8 (by omega) (by omega))) rfl ?_
   refine J.o (ot_indexS8 (n := x / 256) .is (by kernel_rfl) (.t rfl) (by kernel_rfl) (by omega)) rfl ?_
   refine J.o (K7 (.t rfl) un3 (by kernel_rfl) (w64 (by omega) (by omega))) rfl ?_
   refine J.o (Z6 (.t rfl) (.t rfl) (w64 (by omega) (by omega))) rfl (J.A rfl rfl (J.e (JC.ret ?_)))
   exact JQ.ret1 rfl (.tmp (.eq (.t rfl) (by rw [bl, if_neg (by omega), bl16, if_pos (by omega)]; congr 2 <;> omega)))
  ·try simp only [bsx] at hc2
   have hs8 := hc2
   refine JC.skip (JQ.then_normal (JC.g (J.M rfl rfl (J.M rfl rfl ?_))))
   refine J.o (K7 (.t rfl) un5 (by kernel_rfl) (wu8 (by omega) (by omega))) rfl ?_
   refine J.o (ot_indexS8 (n := x) .is (by kernel_rfl) (.t rfl) (by kernel_rfl) (by omega)) rfl ?_
   refine J.o (K7 (.t rfl) un3 (by kernel_rfl) (w64 (by omega) (by omega))) rfl ?_
   refine J.o (Z6 (.t rfl) (.t rfl) (w64 (by omega) (by omega))) rfl (J.A rfl rfl (J.e (JC.ret ?_)))
   exact JQ.ret1 rfl (.tmp (.eq (.t rfl) (by rw [bl, if_neg (by omega), bl16, if_neg (by omega)]; congr 2 <;> omega)))

theorem lz32_c (x : Nat) (hx : x < 4294967296) : Ctr Try.prog 132 [tIs (.int .u32 (x : Int))] (tIs (.int .i64 (((32 - bl x : Nat) : Int)))) := by
 have hb := (bl_le hx).1
 refine Ctr.of Try.func132 rfl Try.ntmps132 (Nat.le_of_ble_eq_true rfl) fun w0 M0 => (JC.g ?_)
 refine J.a .is rfl (J.e (JC.g (J.M rfl rfl ?_)))
 refine J.o (oc fn138 (len32_c x hx) (.cons (.t rfl) .nil)) rfl ?_
 refine J.o (K4 .is (.t rfl) (w64 (by omega) (by omega))) rfl (J.A rfl rfl (J.e (JC.ret ?_)))
 exact JQ.ret1 rfl (.tmp (.eq (.t rfl) (by first | rfl | (congr 3; omega) | (congr 2; omega) | simp [*])))

theorem div64_c (x y : Nat) (hx : x < 18446744073709551616) (hy : 0 < y) : Ctr Try.prog 134 [tIs (.int .u64 0), tIs (.int .u64 (x : Int)), tIs (.int .u64 (y : Int))] (V5 [tIs (.int .u64 (((x / y : Nat) : Int))), tIs (.int .u64 (((x % y : Nat) : Int)))]) := by
 refine Ctr.of Try.func134 rfl Try.ntmps134 (Nat.le_of_ble_eq_true rfl) fun w0 M0 => (JC.g ?_)
 refine J.a .is rfl ?_
 refine J.a .is rfl (J.e (JC.seq (JC.g (J.M rfl rfl (J.o (U5 (.t rfl) .is) rfl (J.e ?_))))))
 refine JC.cond_false (.eq (.t rfl) (by rw [decide_eq_false (by omega)])) (JC.skip (JQ.then_normal (JC.seq (JC.g (J.M rfl rfl (J.M rfl rfl (J.o (ot_leq (.t rfl) (.t rfl)) rfl (J.e ?_))))))))
 refine JC.cond_false (.eq (.t rfl) (by rw [decide_eq_false (by omega)])) (JC.skip (JQ.then_normal (JC.seq (JC.g (J.M rfl rfl (J.o (U5 (.t rfl) .is) rfl (J.e ?_)))))))
 refine JC.cond_true (.eq (.t rfl) (by rfl)) (JC.seq ?_)
 refine JC.draw (Γ' := ?g1) mo (by kernel_rfl) ?tw1 ?k1
 case tw1 =>
  refine TW.M rfl rfl (TW.M rfl rfl ?_)
  refine TW.o (ot_quo (.t rfl) (.t rfl) (by omega) (w_quo hx)) rfl (TW.M rfl rfl (TW.M rfl rfl ?_))
  refine TW.o (ot_rem (.t rfl) (.t rfl) (by omega) w_rem) rfl ?_
  refine TW.o (Y2 (.t rfl)) rfl ?_
  refine TW.o (Y2 (.t rfl)) rfl ?_
  exact TW.nil
 refine JQ.then_normal (JC.ret (JQ.then_ret ?_))
 exact JQ.ret2 rfl (.tmp (.t rfl)) (.tmp (.t rfl))

theorem trimL_c (b c q n : Nat) (ds : List Nat) (hl : ds.length ≤ 17592186044416) (hn : n = ds.length) (hc : n ≤ c) (hne : Q3 ds ≠ []) : CtrL Try.prog 106 [sIs b 0 n c] b 128 (Y5 X8 ds q) (Y5 X8 ds q) (sIs b 0 ((Q3 ds).length) c) := by
 refine CtrL.of Try.func106 rfl Try.ntmps106 (Nat.le_of_ble_eq_true rfl) fun w0 M0 => (JC.g ?_)
 refine J.o (Y2 (.nil (E := X8))) rfl (J.e (JC.g (J.M rfl rfl ?_)))
 refine J.o (T8 (.t rfl) V9 rfl) rfl (J.A rfl rfl (J.e (JC.seq (JC.block ?_))))
 refine JC.loop (ι := Nat) (fun i => [(0, sIs b 0 n c), (2, tSl X8 ([])), (3, tIs (.int .i64 (i : Int)))]) (fun i => [⟨b, 128, Y5 X8 ds q⟩]) (fun i => i ≤ ds.length ∧ Q3 (ds.take i) = Q3 ds) (fun i => i) n ⟨by omega, by rw [hn, List.take_length]⟩ ?lsub0 ?round0
 case lsub0 => exact Q8 (X3 (.k .nil)) (Z3 ⟨.t rfl, .t rfl, .t rfl, trivial⟩)
 intro i hinv
 obtain ⟨hn1, hn2⟩ := hinv
 refine JC.seq (JC.g (J.M rfl rfl (J.o (ot_gtr (.t rfl) .is) rfl (J.M rfl rfl ?_))))
 refine J.opg rfl rfl rfl (ltN rfl) (fun hg => Y0 (.t rfl)) rfl (ltN rfl) ?_
 refine J.opg rfl rfl rfl (ltN rfl) (fun hg => Y0 (.t rfl)) rfl (ltN rfl) ?_
 refine J.opg rfl rfl rfl (ltN rfl) (fun hg => (by have hg' := hg; (try simp only [bsx] at hg'); exact K4 (.iff hg (.t rfl)) .is (w64 (by omega) (by omega)))) rfl (ltN rfl) ?_
 refine J.opg rfl rfl rfl (ltN rfl) (fun hg => (by have hg' := hg; (try simp only [bsx] at hg'); exact X9 (T' := X7 b (0 + (i - 1) * 1)) (oix (.iff hg (.t rfl)) (.iff hg (.t rfl)) V9 (by omega) (by omega)) (Z7 (by omega)))) rfl (ltN rfl) ?_
 refine J.opg rfl rfl rfl (ltN rfl) (fun hg => (by have hg' := hg; (try simp only [bsx] at hg'); exact ol (.iff hg (.t rfl)) (.head _) sc128 (encD_row (digAtN (by omega))))) rfl (ltN rfl) ?_
 refine J.opg rfl rfl rfl (ltN rfl) (fun hg => U5 (.iff hg (.t rfl)) .is) rfl (ltN rfl) ?_
 refine J.o (R4 (.t rfl) (.t rfl) .is) rfl (J.e ?_)
 refine JC.cond (.t rfl) (fun hc0 => ?_) (fun hc0 => ?_)
 ·try simp only [bsx] at hc0
  have hs15 := hc0
  refine JC.skip (JQ.then_normal (JC.block (JC.region (J.M rfl rfl ?_))))
  refine J.o (K4 (.t rfl) .is (w64 (by omega) (by omega))) rfl (J.A rfl rfl (J.nil (JQ.block_normal ?_)))
  exact JQ.round (i - 1) ⟨by omega, by rw [← hn2]; exact trimD_step (by omega) (by omega)⟩ (by omega) (Q8 (X3 (.k .nil)) (Z3 ⟨.t rfl, .t rfl, .eq (.t rfl) (by first | rfl | (congr 3; omega) | (congr 2; omega)), trivial⟩))
 ·try simp only [bsx] at hc0
  have hs15 := hc0
  refine JC.exit (JQ.then_exit (JQ.then_exit (JQ.block_exit (JQ.then_normal (JC.seq (JC.g (J.M rfl rfl (J.o (U5 (.t rfl) .is) rfl (J.e ?_)))))))))
  refine JC.cond (.t rfl) (fun hc1 => ?_) (fun hc1 => ?_)
  ·try simp only [bsx] at hc1
   have hs19 := hc1
   exact absurd (show Q3 ds = [] by rw [← hn2, show i = 0 by omega]; rfl) hne
  ·try simp only [bsx] at hc1
   have hs19 := hc1
   have hlen : (Q3 ds).length = i := by rw [← hn2, trimD_stop (by omega) (by omega), List.length_take]; omega
   refine JC.skip (JQ.then_normal (JC.g (J.M rfl rfl (J.M rfl rfl ?_))))
   refine J.o (X9 (T' := sIs b 0 ((Q3 ds).length) c) (ot_slice_own (l := 0) (h := i) (kl := .i64) (kh := .i64) (.t rfl) V9 rfl (.eq (.t rfl) rfl) (by omega) (by omega) (.inr rfl)) (by congr 1 <;> omega)) rfl (J.A rfl rfl (J.e (JC.ret ?_)))
   exact (JQ.retL1 rfl (.head _) (fun _ _ h => h) (.t rfl)).1

theorem shlO_c (ds : List Nat) (s : Nat) (hl : ds.length ≤ 1099511627776) (hs : s < 32) (h0 : 0 < val ds) : CtrO Try.prog 133 [tSl X8 ds, tIs (.int .i64 (s : Int))] 128 ((dig (val ds * 2 ^ s)).length) ((Q3 ds).length + 1) (fun cap => Y5 X8 (dig (val ds * 2 ^ s)) ((Q3 ds).length + 1)) := by
 refine CtrO.know 0 rfl (fun _ _ h => slP_encD h) fun hd => ?_
 have ht := trimD_len ds
 have qd := digs_trimD hd
 have vd := val_trimD hd
 have hne := trimD_len_zero hd
 have qD := digs_snoc0 qd
 have hne2 := dig_ne (shl_pos (s := s) h0)
 refine CtrO.of Try.func133 rfl Try.ntmps133 (Nat.le_of_ble_eq_true rfl) fun w0 M0 => (JC.g ?_)
 refine J.o (Y2 (.nil (E := X8))) rfl (J.e (JC.g (J.M rfl rfl ?_)))
 refine J.o (oc fn106 (trim_c ds (by omega)) (.cons (.t rfl) .nil)) rfl (J.A rfl rfl (J.e (JC.seq (JC.g (J.M rfl rfl (J.o (Y8 (.t rfl) V9 rfl) rfl (J.o (U5 (.t rfl) .is) rfl (J.e ?_))))))))
 refine JC.cond_false (.eq (.t rfl) (by rw [decide_eq_false (by omega)])) (JC.skip (JQ.then_normal (JC.g (J.M rfl rfl ?_))))
 refine J.o (ot_max (.t rfl) .is) rfl ?_
 refine J.o (ot_min (.t rfl) .is) rfl (J.A rfl rfl (J.e (JC.g (J.M rfl rfl ?_))))
 refine J.o (ot_quo (.t rfl) .is (by omega) (w_q32 hs)) rfl (J.M rfl rfl ?_)
 refine J.o (ot_rem (.t rfl) .is (by omega) (w_r32 hs)) rfl (J.A rfl rfl (J.A rfl rfl (J.e (JC.g (J.M rfl rfl (J.M rfl rfl (J.o (Y8 (.t rfl) V9 rfl) rfl ?_)))))))
 refine J.o (Z6 (.t rfl) (.t rfl) (w64 (by omega) (by omega))) rfl ?_
 refine J.o (Z6 (.t rfl) .is (w64 (by omega) (by omega))) rfl ?_
 refine J.make (E := X8) (z := 0) (n := (Q3 ds).length + 1) V9 (.eq (.t rfl) (by congr 2; omega)) (.eq (.t rfl) (by congr 2; omega)) zr128 (fun _ => encD_zero) (by decide) (by omega) (by omega) (ltN rfl) fun b28 => (J.A rfl rfl (J.e (JC.g (J.M rfl rfl (J.M rfl rfl ?_)))))
 refine J.o (X9 (T' := sIs b28 0 ((Q3 ds).length + 1) ((Q3 ds).length + 1)) (ot_slice_own (l := 0) (h := (Q3 ds).length + 1) (kl := .i64) (kh := .i64) (.t rfl) V9 (.eq (.t rfl) (by rfl)) rfl (by omega) (by omega) (by omega)) (by congr 1 <;> omega)) rfl (J.M rfl rfl ?_)
 refine J.copy (E := X8) (xs := List.replicate ((Q3 ds).length + 1) 0) (ys := Q3 ds) (k := 0) (.t rfl) (.t rfl) V9 rfl .here (by omega) (by simp) (ltN rfl) (J.e (JC.seq (JC.g (J.M rfl rfl (J.o (ot_gtr (.t rfl) .is) rfl (J.e ?_))))))
 refine JC.cond (.t rfl) (fun hc1 => ?_) (fun hc1 => ?_)
 ·try simp only [bsx] at hc1
  have hs35 := hc1
  refine (JC.g ?_)
  refine J.a .is rfl (J.e (JC.g (J.M rfl rfl (J.A rfl rfl (J.e (JC.block ?_))))))
  refine JC.loop3 (α := Nat) (β := List Nat) (γ := Nat) (fun i O low => [(4, tSl X8 ([])), (6, tIs (.int .i64 (s : Int))), (7, sIs b28 0 ((Q3 ds).length + 1) ((Q3 ds).length + 1)), (8, tIs (.int .u32 (low : Int))), (9, tIs (.int .i64 (i : Int)))]) (fun i O low => [⟨b28, 128, Y5 X8 O ((Q3 ds).length + 1)⟩]) (fun i O low => i ≤ (Q3 ds).length + 1 ∧ SInv (Q3 ds ++ [0]) s i O low) (fun i O low => (Q3 ds).length + 1 - i) 0 (Q3 ds ++ [0]) 0 ⟨by omega, SInv.start qD⟩ ?lsub0 ?round0
  case lsub0 => exact Q8 (X3 (.keep (K8 (by simp [shl_copy])) .nil)) (Z3 ⟨.t rfl, .t rfl, .t rfl, .eq (.t rfl) (by rfl), .eq (.t rfl) (by rfl), trivial⟩)
  intro i O low hinv
  obtain ⟨hi, hI⟩ := hinv
  have hOl := hI.lO
  have hx := T9 hI.dO i
  have hlow := hI.hl
  have hps := pow_s_lt hs
  rw [List.length_append, List.length_singleton] at hOl
  refine JC.seq (JC.g (J.M rfl rfl (J.M rfl rfl ?_)))
  refine J.o (T8 (.t rfl) V9 rfl) rfl (J.o (Y6 (.t rfl) (.t rfl)) rfl (J.e ?_))
  refine JC.cond (.t rfl) (fun hc2 => ?_) (fun hc2 => ?_)
  ·try simp only [bsx] at hc2
   have hs40 := hc2
   refine JC.skip (JQ.then_normal (JC.seq (JC.block (JC.g (J.M rfl rfl (J.M rfl rfl ?_))))))
   refine J.o (X9 (T' := X7 b28 (0 + i * 1)) (oix (.t rfl) (.t rfl) V9 (by omega) (by omega)) (Z7 (by omega))) rfl (J.o (ol (.t rfl) (.head _) sc128 (encD_row (digAtN (by omega)))) rfl (J.A rfl rfl (J.e (JC.g (J.M rfl rfl (J.M rfl rfl (J.M rfl rfl (J.M rfl rfl ?_))))))))
   refine J.o (ot_shl (.t rfl) (.t rfl) (by omega) (w_shl hx hs)) rfl (J.M rfl rfl ?_)
   refine J.o (ot_or (.t rfl) (.t rfl) (w_or hs hx hlow (hI.digit hs))) rfl ?_
   refine J.o (X9 (T' := X7 b28 (0 + i * 1)) (oix (.t rfl) (.t rfl) V9 (by omega) (by omega)) (Z7 (by omega))) rfl ?_
   refine J.store (.t rfl) (.sub (.t rfl) (encD_in (by omega) (by have := hI.digit hs; omega))) .here sz128 (T4 (by omega)) (J.e (JC.region (J.M rfl rfl (J.M rfl rfl ?_))))
   refine J.o (K4 .is (.t rfl) (w64 (by omega) (by omega))) rfl ?_
   refine J.o (ot_shr (.t rfl) (.t rfl) (by omega) (w_shr (by omega))) rfl (J.A rfl rfl (J.nil (JQ.block_normal (JQ.then_normal (JC.region (J.M rfl rfl ?_))))))
   refine J.o (Z6 (.t rfl) .is (w64 (by omega) (by omega))) rfl (J.A rfl rfl (J.nil ?_))
   exact JQ.round3 (i := i) (i2 := O) (i3 := low) (i + 1) (O.set i (O.getD i 0 * 2 ^ s % 4294967296 + low)) (O.getD i 0 / 2 ^ (32 - s)) ⟨by omega, hI.next hs (by simp; omega)⟩ (by omega) (Q8 (X3 (.keep (fun _ _ h => by first | exact h | simpa using h) .nil)) (Z3 ⟨.t rfl, .t rfl, .t rfl, .eq (.t rfl) (by first | rfl | (congr 3; omega) | (congr 2; omega)), .eq (.t rfl) (by first | rfl | (congr 3; omega) | (congr 2; omega)), trivial⟩))
  ·try simp only [bsx] at hc2
   have hs40 := hc2
   have hvO := (hI.done hs (by simp; omega) rfl qd).trans (by rw [vd])
   have hdO := hI.dO
   refine JC.exit (JQ.then_exit (JQ.then_exit (JQ.block_exit (JQ.then_normal (JC.g (J.M rfl rfl ?_))))))
   refine J.callL (R' := Y5 X8 O ((Q3 ds).length + 1)) (Us := []) (cap := []) fn106 (.func (fun _ => rfl)) (trimL_c b28 ((Q3 ds).length + 1) ((Q3 ds).length + 1) ((Q3 ds).length + 1) O (by omega) (by omega) (by omega) (by rw [W7 hdO, hvO]; exact hne2)) (.cons (.t rfl) .nil) (fun _ => trivial) .here (ltN rfl) ?_
   refine J.weak (X3 (.keep (fun _ _ h => row_shl hdO hvO h) .nil)) (J.A rfl rfl (J.e (JC.ret ?_)))
   exact JQ.retO (b := b28) (cap := (Q3 ds).length + 1) (n := (dig (val ds * 2 ^ s)).length) (cp := (Q3 ds).length + 1) (R := fun cap => Y5 X8 (dig (val ds * 2 ^ s)) ((Q3 ds).length + 1)) rfl (.head _) (.eq (.t rfl) (by rw [W7 hdO, hvO]))
 ·try simp only [bsx] at hc1
  have hs35 := hc1
  have hs0 : s = 0 := by omega
  have hOl : (Q3 ds ++ [0]).length = (Q3 ds).length + 1 := by simp
  have hdO := qD
  have hvO : val (Q3 ds ++ [0]) = val ds * 2 ^ s := by rw [val_snoc0, vd, hs0]; simp
  refine JC.skip (JQ.then_normal (JC.seq ?_))
  refine JC.weak (X3 (H' := [⟨b28, 128, Y5 X8 (Q3 ds ++ [0]) ((Q3 ds).length + 1)⟩]) (.keep (K8 (shl_copy _)) .nil)) (JC.region (J.M rfl rfl ?_))
  refine J.callL (R' := Y5 X8 (Q3 ds ++ [0]) ((Q3 ds).length + 1)) (Us := []) (cap := []) fn106 (.func (fun _ => rfl)) (trimL_c b28 ((Q3 ds).length + 1) ((Q3 ds).length + 1) ((Q3 ds).length + 1) (Q3 ds ++ [0]) (by omega) (by omega) (by omega) (by rw [W7 hdO, hvO]; exact hne2)) (.cons (.t rfl) .nil) (fun _ => trivial) .here (ltN rfl) ?_
  refine J.weak (X3 (.keep (fun _ _ h => row_shl hdO hvO h) .nil)) (J.A rfl rfl (J.e (JC.ret ?_)))
  exact JQ.retO (b := b28) (cap := (Q3 ds).length + 1) (n := (dig (val ds * 2 ^ s)).length) (cp := (Q3 ds).length + 1) (R := fun cap => Y5 X8 (dig (val ds * 2 ^ s)) ((Q3 ds).length + 1)) rfl (.head _) (.eq (.t rfl) (by rw [W7 hdO, hvO]))

theorem shr_c (ds : List Nat) (s : Nat) (hl : ds.length ≤ 1099511627776) (hs : s < 32) : Ctr Try.prog 135 [tSl X8 ds, tIs (.int .i64 (s : Int))] (tSl X8 (dig (val ds / 2 ^ s))) := by
 refine Ctr.know 0 rfl (fun _ _ h => slP_encD h) fun hd => ?_
 have ht := trimD_len ds
 have qd := digs_trimD hd
 have vd := val_trimD hd
 have hne := trimD_len_zero hd
 refine Ctr.of Try.func135 rfl Try.ntmps135 (Nat.le_of_ble_eq_true rfl) fun w0 M0 => (JC.g ?_)
 refine J.o (Y2 (.nil (E := X8))) rfl (J.e (JC.g (J.M rfl rfl ?_)))
 refine J.o (oc fn106 (trim_c ds (by omega)) (.cons (.t rfl) .nil)) rfl (J.A rfl rfl (J.e (JC.g (J.M rfl rfl ?_))))
 refine J.o (ot_max (.t rfl) .is) rfl (J.A rfl rfl (J.e (JC.g (J.M rfl rfl ?_))))
 refine J.o (ot_quo (.t rfl) .is (by omega) (w_q32' hs)) rfl (J.M rfl rfl ?_)
 refine J.o (ot_rem (.t rfl) .is (by omega) (w_r32' hs)) rfl (J.A rfl rfl (J.A rfl rfl (J.e (JC.seq (JC.g (J.M rfl rfl (J.M rfl rfl (J.o (Y8 (.t rfl) V9 rfl) rfl (J.o (ot_geq (.t rfl) (.t rfl)) rfl (J.e ?_))))))))))
 refine JC.cond (.t rfl) (fun hc0 => ?_) (fun hc0 => ?_)
 ·try simp only [bsx] at hc0
  have hs21 := hc0
  refine (JC.g ?_)
  refine J.o (Y2 (.nil (E := X8))) rfl (J.e (JC.ret (JQ.then_ret ?_)))
  exact JQ.ret1 rfl (.tmp (.eq (.t rfl) (by rw [show val ds = 0 from hne.1 (by omega), Nat.zero_div, dig_zero])))
 ·try simp only [bsx] at hc0
  have hs21 := hc0
  refine JC.skip (JQ.then_normal (JC.g (J.M rfl rfl (J.M rfl rfl ?_))))
  refine J.o (X9 (T' := tSl X8 (Q3 ds)) (ot_slice (E := X8) (xs := Q3 ds) (l := 0) (h := (Q3 ds).length) (kl := .i64) (kh := .i64) (.t rfl) V9 (.eq (.t rfl) (by rfl)) rfl (by omega) (by omega)) (by rw [List.drop_zero, Nat.sub_zero, List.take_length])) rfl ?_
  refine J.append0 (E := X8) (ys := Q3 ds) .z (.t rfl) (by intro h; have : (Q3 ds).length = 0 := (by rw [h]; rfl); omega) V9 rfl zr128 rfl (by omega) (by omega) (ltN rfl) fun b25 c25 => (J.A rfl rfl (J.e (JC.seq (JC.g (J.M rfl rfl (J.o (ot_gtr (.t rfl) .is) rfl (J.e ?_)))))))
  refine JC.cond (.t rfl) (fun hc1 => ?_) (fun hc1 => ?_)
  ·try simp only [bsx] at hc1
   have hs27 := hc1
   refine (JC.g (J.M rfl rfl ?_))
   refine J.o (T8 (.t rfl) V9 rfl) rfl ?_
   refine J.m .is rfl (J.e (JC.block ?_))
   refine JC.loop2 (α := Nat) (β := List Nat) (fun i O => [(4, tSl X8 ([])), (6, tIs (.int .i64 (s : Int))), (7, sIs b25 0 ((Q3 ds).length) c25), (29, tIs (.int .i64 ((((Q3 ds).length : Nat) : Int)))), (30, tIs (.int .i64 (i : Int)))]) (fun i O => [⟨b25, 128, Y5 X8 O c25⟩]) (fun i O => i ≤ (Q3 ds).length ∧ HInv (Q3 ds) s i O) (fun i O => (Q3 ds).length - i) 0 (Q3 ds) ⟨by omega, HInv.start qd⟩ ?lsub0 ?round0
   case lsub0 => exact Q8 (X3 (.keep (fun _ _ h => by first | exact h | simpa using h) .nil)) (Z3 ⟨.t rfl, .t rfl, .t rfl, .t rfl, .eq (.t rfl) (by first | rfl | (congr 3; omega) | (congr 2; omega)), trivial⟩)
   intro i O hinv
   obtain ⟨hi, hI⟩ := hinv
   have hOl := hI.lO
   have hx := T9 hI.dO i
   have hx1 := T9 hI.dO (i + 1)
   have hps := pow_s_lt hs
   refine (JC.g (J.o (Y6 (.t rfl) (.t rfl)) rfl (J.e (JC.seq ?_))))
   refine JC.cond (.t rfl) (fun hc2 => ?_) (fun hc2 => ?_)
   ·try simp only [bsx] at hc2
    have hs31 := hc2
    refine JC.skip (JQ.then_normal (JC.seq (JC.block (JC.g (J.M rfl rfl (J.A rfl rfl (J.e (JC.g ?_))))))))
    refine J.a .is rfl (J.e ?_)
    refine JC.join1 (α := Nat) (fun y => [(4, tSl X8 ([])), (6, tIs (.int .i64 (s : Int))), (7, sIs b25 0 ((Q3 ds).length) c25), (8, tIs (.int .i64 (i : Int))), (9, tIs (.int .u32 (((y % 2 ^ s * 2 ^ (32 - s) : Nat) : Int)))), (29, tIs (.int .i64 ((((Q3 ds).length : Nat) : Int)))), (30, tIs (.int .i64 (i : Int))), (31, tIs (.bool (decide ((i : Int) < (((Q3 ds).length : Nat) : Int))))), (32, tIs (.int .i64 (i : Int)))]) (fun y => [⟨b25, 128, Y5 X8 O c25⟩]) (fun y => y = (Q3 ds).getD (i + 1) 0) ?way1 ?on1
    case way1 =>
     refine (JC.g (J.M rfl rfl ?_))
     refine J.o (Z6 (.t rfl) .is (w64 (by omega) (by omega))) rfl (J.M rfl rfl ?_)
     refine J.o (T8 (.t rfl) V9 rfl) rfl (J.o (Y6 (.t rfl) (.t rfl)) rfl (J.e ?_))
     refine JC.cond (.t rfl) (fun hc3 => ?_) (fun hc3 => ?_)
     ·try simp only [bsx] at hc3
      have hs37 := hc3
      refine JC.region (J.M rfl rfl (J.M rfl rfl ?_))
      refine J.o (Z6 (.t rfl) .is (w64 (by omega) (by omega))) rfl ?_
      refine J.o (X9 (T' := X7 b25 (0 + (i + 1) * 1)) (oix (.t rfl) (.t rfl) V9 (by omega) (by omega)) (Z7 (by omega))) rfl (J.o (ol (.t rfl) (.head _) sc128 (encD_row (digAtN (by omega)))) rfl (J.M rfl rfl ?_))
      refine J.o (K4 .is (.t rfl) (w64 (by omega) (by omega))) rfl ?_
      refine J.o (ot_shl (.t rfl) (.t rfl) (by omega) (w_shl2 hx1 hs (by omega))) rfl (J.A rfl rfl (J.nil ?_))
      exact JQ.join1 (O.getD (i + 1) 0) (hI.same _ (by omega)) (Q8 (X3 (.k .nil)) (Z3 ⟨.t rfl, .t rfl, .t rfl, .t rfl, .eq (.t rfl) (by first | rfl | (congr 3; omega) | (congr 2; omega)), .t rfl, .t rfl, .t rfl, .t rfl, trivial⟩))
     ·try simp only [bsx] at hc3
      have hs37 := hc3
      refine JC.skip ?_
      exact JQ.join1 0 (by rw [getD_ge (by omega)]) (Q8 (X3 (.k .nil)) (Z3 ⟨.t rfl, .t rfl, .t rfl, .t rfl, .eq (.t rfl) (by rw [Nat.zero_mod, Nat.zero_mul]; rfl), .t rfl, .t rfl, .t rfl, .t rfl, trivial⟩))
    intro y hj12
    have hyy := hj12
    have hsp := (shr_parts (x := O.getD i 0) (h := y) hs (by omega) hx).2.2
    refine JC.region (J.M rfl rfl (J.M rfl rfl (J.M rfl rfl (J.M rfl rfl ?_))))
    refine J.o (X9 (T' := X7 b25 (0 + i * 1)) (oix (.t rfl) (.t rfl) V9 (by omega) (by omega)) (Z7 (by omega))) rfl (J.o (ol (.t rfl) (.head _) sc128 (encD_row (digAtN (by omega)))) rfl (J.M rfl rfl ?_))
    refine J.o (ot_shr (.t rfl) (.t rfl) (by omega) (w_shr2 (by omega))) rfl (J.M rfl rfl ?_)
    refine J.o (ot_or (.t rfl) (.t rfl) (w_or2 hs (by omega) hx)) rfl ?_
    refine J.o (X9 (T' := X7 b25 (0 + i * 1)) (oix (.t rfl) (.t rfl) V9 (by omega) (by omega)) (Z7 (by omega))) rfl ?_
    refine J.store (.t rfl) (.sub (.t rfl) (encD_in (Int.natCast_nonneg _) (Int.ofNat_lt.2 hsp))) .here sz128 (T4 (by omega)) (J.nil (JQ.block_normal (JQ.then_normal (JC.region ?_))))
    refine J.o (Z6 (.t rfl) .is (w64 (by omega) (by omega))) rfl (J.M rfl rfl (J.nil ?_))
    exact JQ.round2 (i := i) (i2 := O) (i + 1) (O.set i (O.getD i 0 / 2 ^ s + (Q3 ds).getD (i + 1) 0 % 2 ^ s * 2 ^ (32 - s))) ⟨by omega, hI.next hs (by omega) (by omega)⟩ (by omega) (Q8 (X3 (.keep (K8 (by rw [Int.toNat_natCast, hyy])) .nil)) (Z3 ⟨.t rfl, .t rfl, .t rfl, .t rfl, .eq (.t rfl) (by first | rfl | (congr 3; omega) | (congr 2; omega)), trivial⟩))
   ·try simp only [bsx] at hc2
    have hs31 := hc2
    have hvO := (hI.done (by omega)).trans (by rw [vd])
    have hdO := hI.dO
    refine JC.exit (JQ.then_exit (JQ.then_exit (JQ.block_exit (JQ.then_normal (JC.seq ?_)))))
    refine JC.weak (U9 (E := X8) (xs := O) (n := (Q3 ds).length) (c := c25) [7] ⟨rfl, trivial⟩ .here (by omega) (by omega)) (JC.region (J.M rfl rfl ?_))
    refine J.o (oc fn106 (trim_c O (by omega)) (.cons (.t rfl) .nil)) rfl (J.A rfl rfl (J.e (JC.ret ?_)))
    exact JQ.ret1 rfl (.tmp (.eq (.t rfl) (by rw [W7 hdO, hvO])))
  ·try simp only [bsx] at hc1
   have hs27 := hc1
   have hs0 : s = 0 := by omega
   have hdO := qd
   have hvO : val (Q3 ds) = val ds / 2 ^ s := by rw [vd, hs0]; simp
   have hOl : (Q3 ds).length = (Q3 ds).length := rfl
   refine JC.skip (JQ.then_normal (JC.seq ?_))
   refine JC.weak (U9 (E := X8) (xs := Q3 ds) (n := (Q3 ds).length) (c := c25) [7, 25] ⟨rfl, rfl, trivial⟩ .here (by omega) (by omega)) (JC.region (J.M rfl rfl ?_))
   refine J.o (oc fn106 (trim_c (Q3 ds) (by omega)) (.cons (.t rfl) .nil)) rfl (J.A rfl rfl (J.e (JC.ret ?_)))
   exact JQ.ret1 rfl (.tmp (.eq (.t rfl) (by rw [W7 hdO, hvO])))

theorem longG_c (a b : List Nat) (hl : a.length ≤ 1000000000000) (hl1 : b.length ≤ 1000000000000) (hb : 0 < val b) : Ctr Try.prog 128 [tSl X8 a, tSl X8 b] (V5 [tSl X8 (dig (val a / val b)), tSl X8 (dig (val a % val b))]) := by
 refine Ctr.know 0 rfl (fun _ _ h => slP_encD h) fun hd => ?_
 refine Ctr.know 1 rfl (fun _ _ h => slP_encD h) fun hd1 => ?_
 have ht := trimD_len b
 have vb := val_trimD hd1
 have hmod := Nat.mod_lt (val a) hb
 have hn0 := trimD_len_zero hd1
 have qb := digs_trimD hd1
 refine Ctr.of Try.func128 rfl Try.ntmps128 (Nat.le_of_ble_eq_true rfl) fun w0 M0 => (JC.g ?_)
 refine J.o (Y2 (.nil (E := X8))) rfl ?_
 refine J.o (Y2 (.nil (E := X8))) rfl (J.e ?_)
 refine JC.scope (JC.g (J.M rfl rfl ?_))
 refine J.o (oc fn120 (natNormal_c b (by omega)) (.cons (.t rfl) .nil)) rfl (J.A rfl rfl (J.e (JC.seq (JC.g (J.M rfl rfl (J.M rfl rfl ?_))))))
 refine J.o (X9 (T' := tIs (.int .i64 (cmpN (val a) (val b)))) (oc fn121 (natCmp_c a (Q3 b) (by omega) (by omega)) (.cons (.t rfl) (.cons (.t rfl) .nil))) (by rw [vb])) rfl (J.o (Y6 (.t rfl) .is) rfl (J.e ?_))
 refine JC.cond (.t rfl) (fun hc0 => ?_) (fun hc0 => ?_)
 ·try simp only [bsx] at hc0
  have hs33 := hc0
  have hlt := cmpN_neg hs33
  refine (JC.g (J.M rfl rfl ?_))
  refine J.o (oc fn120 (natNormal_c a (by omega)) (.cons (.t rfl) .nil)) rfl ?_
  refine J.o (Y2 (.nil (E := X8))) rfl (J.A rfl rfl (J.e (JC.ret (JQ.then_ret ?_))))
  refine JQ.scope_ret ?_
  exact JQ.ret2 rfl (.tmp (.eq (.t rfl) (by rw [Nat.div_eq_of_lt hlt, dig_zero]))) (.tmp (.eq (.t rfl) (by rw [Nat.mod_eq_of_lt hlt, W7 hd])))
 ·try simp only [bsx] at hc0
  have hs33 := hc0
  have hle := cmpN_nonneg hs33
  refine JC.skip (JQ.then_normal (JC.g (J.M rfl rfl (J.o (Y8 (.t rfl) V9 rfl) rfl (J.A rfl rfl (J.e (JC.seq (JC.g (J.M rfl rfl (J.o (U5 (.t rfl) .is) rfl (J.e ?_)))))))))))
  refine JC.cond (.t rfl) (fun hc1 => ?_) (fun hc1 => ?_)
  ·try simp only [bsx] at hc1
   have hs39 := hc1
   have h1 : (Q3 b).length = 1 := by omega
   have hv0 : (Q3 b).getD 0 0 = val b := (val_len1 hd1 h1).symm
   have hblt : val b < 4294967296 := by rw [← hv0]; exact T9 qb 0
   refine (JC.g (J.M rfl rfl (J.M rfl rfl ?_)))
   refine J.o (ixo (z := (Q3 b).getD 0 0) (.t rfl) .is V9 (by omega) (digAt rfl (by omega))) rfl (J.o (ld (.t rfl) sc128 encD_ld) rfl ?_)
   refine J.o (X9 (T' := V5 [tSl X8 (dig (val a / val b)), tIs (.int .u32 (((val a % val b : Nat) : Int))), tIs (.bool (!decide (((val b : Nat) : Int) = 0)))]) (oc fn131 (natDivSmall_c a ((((Q3 b).getD 0 0) : Nat) : Int) (by omega) (by omega)) (.cons (.t rfl) (.cons (.t rfl) .nil))) (by rw [hv0, if_neg (by omega), if_neg (by omega), Int.toNat_natCast])) rfl (J.M rfl rfl ?_)
   refine J.o (Z1 (.t rfl) rfl) rfl ?_
   refine J.o (Z1 (.t rfl) rfl) rfl ?_
   refine J.o (Z1 (.t rfl) rfl) rfl (J.A rfl rfl (J.A rfl rfl (J.A rfl rfl (J.e (JC.g (J.M rfl rfl (J.M rfl rfl ?_)))))))
   refine J.o (K7 (.t rfl) un116 (by kernel_rfl) (wu64 (by omega) (by omega))) rfl ?_
   refine J.o (X9 (T' := tSl X8 (dig (val a % val b))) (oc fn83 (natOf_c ((val a % val b : Nat) : Int) (by omega)) (.cons (.t rfl) .nil)) (by rw [Int.toNat_natCast])) rfl (J.A rfl rfl (J.A rfl rfl (J.e (JC.ret (JQ.then_ret ?_)))))
   refine JQ.scope_ret ?_
   exact JQ.ret2 rfl (.tmp (.t rfl)) (.tmp (.t rfl))
  ·try simp only [bsx] at hc1
   have hs39 := hc1
   have hn2 : 2 ≤ (Q3 b).length := by omega
   have htp := top_pos hd1 (by omega)
   obtain ⟨s, hs⟩ : ∃ s, s = 32 - bl ((Q3 b).getD ((Q3 b).length - 1) 0) := ⟨_, rfl⟩
   obtain ⟨hvl0, hs32⟩ := shl_len hd1 (by omega) hs
   obtain ⟨v, hv⟩ : ∃ v, v = dig (val (Q3 b) * 2 ^ s) := ⟨_, rfl⟩
   have hvl : v.length = (Q3 b).length := by rw [hv]; exact hvl0
   have hvd : U7 v := by rw [hv]; exact digs_dig _
   have hvv : val v = val b * 2 ^ s := by rw [hv, val_dig, vb]
   have hps : 0 < 2 ^ s := Nat.pow_pos (by decide)
   have hvp : 0 < val v := by rw [hvv]; exact Nat.mul_pos hb hps
   have hxl : (dig (val a * 2 ^ s)).length ≤ a.length + 1 := shl_dig_len hd hs32
   have hxs : (dig (val a * 2 ^ s) ++ [0]).length = (dig (val a * 2 ^ s)).length + 1 := by simp
   have hge : v.length ≤ (dig (val a * 2 ^ s)).length := by rw [hv, vb]; exact dig_len_mono (Nat.mul_le_mul_right _ hle)
   have hvtop : 0 < v.getD ((Q3 b).length - 1) 0 := by rw [← hvl, hv]; exact dig_top_pos (by rw [vb]; exact shl_pos hb)
   have hvt := T9 hvd ((Q3 b).length - 1)
   have hvn := T9 hvd ((Q3 b).length - 2)
   refine JC.skip (JQ.then_normal (JC.g (J.M rfl rfl (J.M rfl rfl ?_))))
   refine J.o (K4 (.t rfl) .is (w64 (by omega) (by omega))) rfl ?_
   refine J.o (ixo (z := (Q3 b).getD ((Q3 b).length - 1) 0) (.t rfl) (.t rfl) V9 (by omega) (digAt (by omega) (by omega))) rfl (J.o (ld (.t rfl) sc128 encD_ld) rfl ?_)
   refine J.o (X9 (T' := tIs (.int .i64 (s : Int))) (oc fn132 (lz32_c ((Q3 b).getD ((Q3 b).length - 1) 0) (T9 qb _)) (.cons (.t rfl) .nil)) (by rw [hs])) rfl (J.A rfl rfl (J.e (JC.g (J.M rfl rfl (J.M rfl rfl ?_)))))
   refine J.callO (R := fun cap => Y5 X8 (dig (val (Q3 b) * 2 ^ s)) ((Q3 (Q3 b)).length + 1)) fn133 (shlO_c (Q3 b) s (by omega) hs32 (by omega)) (.cons (.t rfl) (.cons (.t rfl) .nil)) (ltN rfl) fun b61 cap61 => (J.A rfl rfl (J.e (JC.seq ?_)))
   refine JC.weak (X3 (H' := [⟨b61, 128, Y5 X8 v ((Q3 (Q3 b)).length + 1)⟩]) (.keep (K8 hv.symm) .nil)) ?_
   refine JC.weak (U9 (E := X8) (xs := v) (n := (dig (val (Q3 b) * 2 ^ s)).length) (c := (Q3 (Q3 b)).length + 1) [11, 61] ⟨rfl, rfl, trivial⟩ .here (by rw [hv]) (shl_cap (digs_trimD hd1) hs32)) (JC.region (J.M rfl rfl (J.M rfl rfl ?_)))
   refine J.callO (R := fun cap => Y5 X8 (dig (val a * 2 ^ s)) ((Q3 a).length + 1)) fn133 (shlO_c a s (by omega) hs32 (by omega)) (.cons (.t rfl) (.cons (.t rfl) .nil)) (ltN rfl) fun b64 cap64 => ?_
   refine J.o (K6 (E := X8) (zs := [0]) V9 (.cons (.sub .is (encD_in (by omega) (by omega))) .nil) rfl zr128 rfl (by decide) (by decide)) rfl ?_
   refine J.append (E := X8) (xs := dig (val a * 2 ^ s)) (ys := [0]) (.t rfl) rfl (.t rfl) V9 rfl zr128 rfl .here (by simp <;> omega) (by simp <;> omega) (ltN rfl) fun b66 c66 => (J.A rfl rfl (J.e (JC.g (J.M rfl rfl ?_))))
   refine J.o (T8 (.t rfl) V9 rfl) rfl (J.M rfl rfl ?_)
   refine J.o (K4 (.t rfl) (.t rfl) (w64 (by omega) (by omega))) rfl ?_
   refine J.make (E := X8) (z := 0) (n := (dig (val a * 2 ^ s)).length + 1 - v.length) V9 (.eq (.t rfl) (by congr 2; simp; omega)) (.eq (.t rfl) (by congr 2; simp; omega)) zr128 (fun _ => encD_zero) (by decide) (by omega) (by omega) (ltN rfl) fun b71 => (J.A rfl rfl (J.e (JC.seq ?_)))
   refine JC.draw (Γ' := ?g1) mo (by kernel_rfl) ?tw1 ?k1
   case tw1 =>
    refine TW.M rfl rfl (TW.M rfl rfl ?_)
    refine TW.o (K4 (.t rfl) .is (w64 (by omega) (by omega))) rfl ?_
    refine TW.o (ixo (z := v.getD ((Q3 b).length - 1) 0) (.t rfl) (.t rfl) V9 (by omega) (digAt (by omega) (by omega))) rfl (TW.o (ld (.t rfl) sc128 encD_ld) rfl ?_)
    refine TW.o (K7 (.t rfl) un116 (by kernel_rfl) (wu64 (by omega) (by omega))) rfl (TW.M rfl rfl (TW.M rfl rfl ?_))
    refine TW.o (K4 (.t rfl) .is (w64 (by omega) (by omega))) rfl ?_
    refine TW.o (ixo (z := v.getD ((Q3 b).length - 2) 0) (.t rfl) (.t rfl) V9 (by omega) (digAt (by omega) (by omega))) rfl (TW.o (ld (.t rfl) sc128 encD_ld) rfl ?_)
    refine TW.o (K7 (.t rfl) un116 (by kernel_rfl) (wu64 (by omega) (by omega))) rfl ?_
    refine TW.o (Y2 (.t rfl)) rfl ?_
    refine TW.o (Y2 (.t rfl)) rfl ?_
    exact TW.nil
   refine JQ.then_normal (JC.seq ?_)
   refine JC.label (JQ.then_normal (JC.seq (JC.g (J.M rfl rfl ?_))))
   refine J.o (T8 (.t rfl) V9 rfl) rfl (J.M rfl rfl ?_)
   refine J.o (K4 (.t rfl) (.t rfl) (w64 (by omega) (by omega))) rfl ?_
   refine J.o (K4 (.t rfl) .is (w64 (by omega) (by omega))) rfl (J.A rfl rfl (J.e (JC.block ?_)))
   refine JC.loop3 (α := Nat) (β := List Nat) (γ := List Nat) (fun k u q => [(4, sIs b71 0 ((dig (val a * 2 ^ s)).length + 1 - v.length) ((dig (val a * 2 ^ s)).length + 1 - v.length)), (5, tSl X8 ([])), (6, tIs (.int .i64 (((Q3 b).length : Int)))), (10, tIs (.int .i64 (s : Int))), (11, tSl X8 v), (12, sIs b66 0 ((dig (val a * 2 ^ s)).length + 1) c66), (13, tIs (.int .u64 ((((v.getD ((Q3 b).length - 1) 0) : Nat) : Int)))), (14, tIs (.int .u64 ((((v.getD ((Q3 b).length - 2) 0) : Nat) : Int)))), (15, tIs (.int .i64 ((k : Int) - 1)))]) (fun k u q => [⟨b71, 128, Y5 X8 q ((dig (val a * 2 ^ s)).length + 1 - v.length)⟩, ⟨b66, 128, Y5 X8 u c66⟩]) (fun k u q => KInv (val a * 2 ^ s) v u q (Q3 b).length ((dig (val a * 2 ^ s)).length + 1 - v.length) k) (fun k u q => k) ((dig (val a * 2 ^ s)).length + 1 - v.length) (dig (val a * 2 ^ s) ++ [0]) (List.replicate ((dig (val a * 2 ^ s)).length + 1 - v.length) 0) (by rw [← hvl]; exact KInv.start hvp hvd (by rw [hv, val_dig]) hge) ?lsub0 ?round0
   case lsub0 => exact Q8 (X3 (.keep (fun _ _ h => by first | exact h | simpa using h) (.keep (fun _ _ h => by first | exact h | simpa using h) .nil))) (Z3 ⟨.t rfl, .t rfl, .t rfl, .t rfl, .t rfl, .eq (.t rfl) (by congr 1 <;> simp), .t rfl, .t rfl, .eq (.t rfl) (by congr 2 <;> (try simp) <;> omega), trivial⟩)
   intro k u q hinv
   have hI := hinv
   have hul := hI.lu
   have hql := hI.lq
   have hkm := hI.hk
   rw [hvl] at hul hql hkm hge
   refine JC.seq (JC.g (J.M rfl rfl (J.o (ot_geq (.t rfl) .is) rfl (J.e ?_))))
   refine JC.cond (.t rfl) (fun hc2 => ?_) (fun hc2 => ?_)
   ·try simp only [bsx] at hc2
    have hs90 := hc2
    have hI1 : KInv (val a * 2 ^ s) v u q (Q3 b).length ((dig (val a * 2 ^ s)).length + 1 - v.length) (k - 1 + 1) := by rw [show k - 1 + 1 = k by omega]; exact hI
    have hG := hI1.gk hn2 hvl hvd hvtop
    have hu2 := hI1.u2_lt
    have hx0 := T9 hI.du (k - 1 + (Q3 b).length)
    have hx1 := T9 hI.du (k - 1 + (Q3 b).length - 1)
    have hx2 := T9 hI.du (k - 1 + (Q3 b).length - 2)
    refine JC.skip (JQ.then_normal (JC.seq (JC.block (JC.seq ?_))))
    refine JC.draw (Γ' := ?g2) mo (by kernel_rfl) ?tw2 ?k2
    case tw2 =>
     refine TW.M rfl rfl (TW.M rfl rfl (TW.M rfl rfl ?_))
     refine TW.o (Z6 (.t rfl) (.t rfl) (w64 (by omega) (by omega))) rfl ?_
     refine TW.o (X9 (T' := X7 b66 (0 + (k - 1 + (Q3 b).length) * 1)) (oix (.t rfl) (.t rfl) V9 (by omega) (by omega)) (Z7 (by omega))) rfl (TW.o (ol (.t rfl) (.tail _ (.head _)) sc128 (encD_row (digAtN (by omega)))) rfl ?_)
     refine TW.o (K7 (.t rfl) un116 (by kernel_rfl) (wu64 (by omega) (by omega))) rfl ?_
     refine TW.o (ot_shl (.t rfl) .is (by omega) (shl32N hx0)) rfl (TW.M rfl rfl (TW.M rfl rfl (TW.M rfl rfl ?_)))
     refine TW.o (Z6 (.t rfl) (.t rfl) (w64 (by omega) (by omega))) rfl ?_
     refine TW.o (K4 (.t rfl) .is (w64 (by omega) (by omega))) rfl ?_
     refine TW.o (X9 (T' := X7 b66 (0 + (k - 1 + (Q3 b).length - 1) * 1)) (oix (.t rfl) (.t rfl) V9 (by omega) (by omega)) (Z7 (by omega))) rfl (TW.o (ol (.t rfl) (.tail _ (.head _)) sc128 (encD_row (digAtN (by omega)))) rfl ?_)
     refine TW.o (K7 (.t rfl) un116 (by kernel_rfl) (wu64 (by omega) (by omega))) rfl ?_
     refine TW.o (ot_or (.t rfl) (.t rfl) (or_halvesN hx0 hx1)) rfl (TW.M rfl rfl ?_)
     refine TW.o (oc fn134 (div64_c (u.getD (k - 1 + (Q3 b).length) 0 * 4294967296 + u.getD (k - 1 + (Q3 b).length - 1) 0) (v.getD ((Q3 b).length - 1) 0) hu2 hvtop) (.cons .is (.cons (.t rfl) (.cons (.t rfl) .nil)))) rfl (TW.M rfl rfl ?_)
     refine TW.o (Z1 (.t rfl) rfl) rfl ?_
     refine TW.o (Z1 (.t rfl) rfl) rfl ?_
     refine TW.o (Y2 (.t rfl)) rfl ?_
     refine TW.o (Y2 (.t rfl)) rfl ?_
     exact TW.nil
    refine JQ.then_normal ?_
    refine JC.join1 (α := Nat) (fun g => [(4, sIs b71 0 ((dig (val a * 2 ^ s)).length + 1 - v.length) ((dig (val a * 2 ^ s)).length + 1 - v.length)), (5, tSl X8 ([])), (6, tIs (.int .i64 (((Q3 b).length : Int)))), (10, tIs (.int .i64 (s : Int))), (11, tSl X8 v), (12, sIs b66 0 ((dig (val a * 2 ^ s)).length + 1) c66), (13, tIs (.int .u64 ((((v.getD ((Q3 b).length - 1) 0) : Nat) : Int)))), (14, tIs (.int .u64 ((((v.getD ((Q3 b).length - 2) 0) : Nat) : Int)))), (15, tIs (.int .i64 ((k : Int) - 1))), (16, tIs (.int .u64 (g : Int))), (89, tIs (.int .i64 ((k : Int) - 1))), (90, tIs (.bool (decide (0 ≤ ((k : Int) - 1))))), (93, V5 [tIs (.int .u64 ((((u.getD (k - 1 + (Q3 b).length) 0 * 4294967296 + u.getD (k - 1 + (Q3 b).length - 1) 0) / (v.getD ((Q3 b).length - 1) 0) : Nat) : Int))), tIs (.int .u64 ((((u.getD (k - 1 + (Q3 b).length) 0 * 4294967296 + u.getD (k - 1 + (Q3 b).length - 1) 0) % (v.getD ((Q3 b).length - 1) 0) : Nat) : Int)))]), (94, sIs b66 0 ((dig (val a * 2 ^ s)).length + 1) c66), (95, tIs (.int .i64 ((k : Int) - 1))), (96, tIs (.int .i64 (((Q3 b).length : Int)))), (97, tIs (.int .i64 (((k : Int) - 1) + ((Q3 b).length : Int)))), (98, X7 b66 (0 + (k - 1 + (Q3 b).length) * 1)), (99, tIs (.int .u32 ((((u.getD (k - 1 + (Q3 b).length) 0) : Nat) : Int)))), (100, tIs (.int .u64 ((((u.getD (k - 1 + (Q3 b).length) 0) : Nat) : Int)))), (101, tIs (.int .u64 (((u.getD (k - 1 + (Q3 b).length) 0 : Nat) : Int) * 4294967296))), (102, sIs b66 0 ((dig (val a * 2 ^ s)).length + 1) c66), (103, tIs (.int .i64 ((k : Int) - 1))), (104, tIs (.int .i64 (((Q3 b).length : Int)))), (105, tIs (.int .i64 (((k : Int) - 1) + ((Q3 b).length : Int)))), (106, tIs (.int .i64 ((((k : Int) - 1) + ((Q3 b).length : Int)) - 1))), (107, X7 b66 (0 + (k - 1 + (Q3 b).length - 1) * 1)), (108, tIs (.int .u32 ((((u.getD (k - 1 + (Q3 b).length - 1) 0) : Nat) : Int)))), (109, tIs (.int .u64 ((((u.getD (k - 1 + (Q3 b).length - 1) 0) : Nat) : Int)))), (110, tIs (.int .u64 (((u.getD (k - 1 + (Q3 b).length) 0 * 4294967296 + u.getD (k - 1 + (Q3 b).length - 1) 0 : Nat) : Int)))), (111, tIs (.int .u64 ((((v.getD ((Q3 b).length - 1) 0) : Nat) : Int)))), (112, V5 [tIs (.int .u64 ((((u.getD (k - 1 + (Q3 b).length) 0 * 4294967296 + u.getD (k - 1 + (Q3 b).length - 1) 0) / (v.getD ((Q3 b).length - 1) 0) : Nat) : Int))), tIs (.int .u64 ((((u.getD (k - 1 + (Q3 b).length) 0 * 4294967296 + u.getD (k - 1 + (Q3 b).length - 1) 0) % (v.getD ((Q3 b).length - 1) 0) : Nat) : Int)))]), (113, tIs (.int .u64 ((((u.getD (k - 1 + (Q3 b).length) 0 * 4294967296 + u.getD (k - 1 + (Q3 b).length - 1) 0) / (v.getD ((Q3 b).length - 1) 0) : Nat) : Int)))), (114, tIs (.int .u64 ((((u.getD (k - 1 + (Q3 b).length) 0 * 4294967296 + u.getD (k - 1 + (Q3 b).length - 1) 0) % (v.getD ((Q3 b).length - 1) 0) : Nat) : Int))))]) (fun g => [⟨b71, 128, Y5 X8 q ((dig (val a * 2 ^ s)).length + 1 - v.length)⟩, ⟨b66, 128, Y5 X8 u c66⟩]) (fun g => GOk (val v) (val (u.drop (k - 1))) g) ?way1 ?on1
    case way1 =>
     refine JC.block ?_
     refine JC.loop2 (α := Nat) (β := Nat) (fun g r => [(4, sIs b71 0 ((dig (val a * 2 ^ s)).length + 1 - v.length) ((dig (val a * 2 ^ s)).length + 1 - v.length)), (5, tSl X8 ([])), (6, tIs (.int .i64 (((Q3 b).length : Int)))), (10, tIs (.int .i64 (s : Int))), (11, tSl X8 v), (12, sIs b66 0 ((dig (val a * 2 ^ s)).length + 1) c66), (13, tIs (.int .u64 ((((v.getD ((Q3 b).length - 1) 0) : Nat) : Int)))), (14, tIs (.int .u64 ((((v.getD ((Q3 b).length - 2) 0) : Nat) : Int)))), (15, tIs (.int .i64 ((k : Int) - 1))), (16, tIs (.int .u64 (g : Int))), (17, tIs (.int .u64 (r : Int))), (89, tIs (.int .i64 ((k : Int) - 1))), (90, tIs (.bool (decide (0 ≤ ((k : Int) - 1))))), (93, V5 [tIs (.int .u64 ((((u.getD (k - 1 + (Q3 b).length) 0 * 4294967296 + u.getD (k - 1 + (Q3 b).length - 1) 0) / (v.getD ((Q3 b).length - 1) 0) : Nat) : Int))), tIs (.int .u64 ((((u.getD (k - 1 + (Q3 b).length) 0 * 4294967296 + u.getD (k - 1 + (Q3 b).length - 1) 0) % (v.getD ((Q3 b).length - 1) 0) : Nat) : Int)))]), (94, sIs b66 0 ((dig (val a * 2 ^ s)).length + 1) c66), (95, tIs (.int .i64 ((k : Int) - 1))), (96, tIs (.int .i64 (((Q3 b).length : Int)))), (97, tIs (.int .i64 (((k : Int) - 1) + ((Q3 b).length : Int)))), (98, X7 b66 (0 + (k - 1 + (Q3 b).length) * 1)), (99, tIs (.int .u32 ((((u.getD (k - 1 + (Q3 b).length) 0) : Nat) : Int)))), (100, tIs (.int .u64 ((((u.getD (k - 1 + (Q3 b).length) 0) : Nat) : Int)))), (101, tIs (.int .u64 (((u.getD (k - 1 + (Q3 b).length) 0 : Nat) : Int) * 4294967296))), (102, sIs b66 0 ((dig (val a * 2 ^ s)).length + 1) c66), (103, tIs (.int .i64 ((k : Int) - 1))), (104, tIs (.int .i64 (((Q3 b).length : Int)))), (105, tIs (.int .i64 (((k : Int) - 1) + ((Q3 b).length : Int)))), (106, tIs (.int .i64 ((((k : Int) - 1) + ((Q3 b).length : Int)) - 1))), (107, X7 b66 (0 + (k - 1 + (Q3 b).length - 1) * 1)), (108, tIs (.int .u32 ((((u.getD (k - 1 + (Q3 b).length - 1) 0) : Nat) : Int)))), (109, tIs (.int .u64 ((((u.getD (k - 1 + (Q3 b).length - 1) 0) : Nat) : Int)))), (110, tIs (.int .u64 (((u.getD (k - 1 + (Q3 b).length) 0 * 4294967296 + u.getD (k - 1 + (Q3 b).length - 1) 0 : Nat) : Int)))), (111, tIs (.int .u64 ((((v.getD ((Q3 b).length - 1) 0) : Nat) : Int)))), (112, V5 [tIs (.int .u64 ((((u.getD (k - 1 + (Q3 b).length) 0 * 4294967296 + u.getD (k - 1 + (Q3 b).length - 1) 0) / (v.getD ((Q3 b).length - 1) 0) : Nat) : Int))), tIs (.int .u64 ((((u.getD (k - 1 + (Q3 b).length) 0 * 4294967296 + u.getD (k - 1 + (Q3 b).length - 1) 0) % (v.getD ((Q3 b).length - 1) 0) : Nat) : Int)))]), (113, tIs (.int .u64 ((((u.getD (k - 1 + (Q3 b).length) 0 * 4294967296 + u.getD (k - 1 + (Q3 b).length - 1) 0) / (v.getD ((Q3 b).length - 1) 0) : Nat) : Int)))), (114, tIs (.int .u64 ((((u.getD (k - 1 + (Q3 b).length) 0 * 4294967296 + u.getD (k - 1 + (Q3 b).length - 1) 0) % (v.getD ((Q3 b).length - 1) 0) : Nat) : Int))))]) (fun g r => [⟨b71, 128, Y5 X8 q ((dig (val a * 2 ^ s)).length + 1 - v.length)⟩, ⟨b66, 128, Y5 X8 u c66⟩]) (fun g r => GInv (val v) (val (u.drop (k - 1))) (v.getD ((Q3 b).length - 1) 0) (u.getD (k - 1 + (Q3 b).length) 0 * 4294967296 + u.getD (k - 1 + (Q3 b).length - 1) 0) g r) (fun g r => 4294967296 - r) ((u.getD (k - 1 + (Q3 b).length) 0 * 4294967296 + u.getD (k - 1 + (Q3 b).length - 1) 0) / (v.getD ((Q3 b).length - 1) 0)) ((u.getD (k - 1 + (Q3 b).length) 0 * 4294967296 + u.getD (k - 1 + (Q3 b).length - 1) 0) % (v.getD ((Q3 b).length - 1) 0)) (GInv.start hG hvt) ?lsub1 ?round1
     case lsub1 => exact Q8 (X3 (.k (.k .nil))) (Z3 ⟨.t rfl, .t rfl, .t rfl, .t rfl, .t rfl, .t rfl, .t rfl, .t rfl, .t rfl, .eq (.t rfl) (by first | rfl | (congr 3; omega) | (congr 2; omega)), .eq (.t rfl) (by first | rfl | (congr 3; omega) | (congr 2; omega)), .t rfl, .t rfl, .t rfl, .t rfl, .t rfl, .t rfl, .t rfl, .t rfl, .t rfl, .t rfl, .t rfl, .t rfl, .t rfl, .t rfl, .t rfl, .t rfl, .t rfl, .t rfl, .t rfl, .t rfl, .t rfl, .t rfl, .t rfl, .t rfl, trivial⟩)
     intro g r hinv
     have hGI := hinv
     have hr := hGI.hr
     refine JC.seq (JC.g (J.M rfl rfl (J.o (ot_geq (.t rfl) .is) rfl (J.M rfl rfl ?_))))
     refine J.opg rfl rfl rfl (ltN rfl) (fun hg => Y0 (.t rfl)) rfl (ltN rfl) ?_
     refine J.opg rfl rfl rfl (ltN rfl) (fun hg => Y0 (.t rfl)) rfl (ltN rfl) ?_
     refine J.opg rfl rfl rfl (ltN rfl) (fun hg => (by have hg' := hg; (try simp only [bsx] at hg'); exact ot_mul (.iff hg (.t rfl)) (.iff hg (.t rfl)) (w_mul64 (by omega) (by omega)))) rfl (ltN rfl) ?_
     refine J.opg rfl rfl rfl (ltN rfl) (fun hg => Y0 (.t rfl)) rfl (ltN rfl) ?_
     refine J.opg rfl rfl rfl (ltN rfl) (fun hg => (by have hg' := hg; (try simp only [bsx] at hg'); exact ot_shl (.iff hg (.t rfl)) .is (by omega) (shl32N hr))) rfl (ltN rfl) ?_
     refine J.opg rfl rfl rfl (ltN rfl) (fun hg => Y0 (.t rfl)) rfl (ltN rfl) ?_
     refine J.opg rfl rfl rfl (ltN rfl) (fun hg => Y0 (.t rfl)) rfl (ltN rfl) ?_
     refine J.opg rfl rfl rfl (ltN rfl) (fun hg => Y0 (.t rfl)) rfl (ltN rfl) ?_
     refine J.opg rfl rfl rfl (ltN rfl) (fun hg => (by have hg' := hg; (try simp only [bsx] at hg'); exact Z6 (.iff hg (.t rfl)) (.iff hg (.t rfl)) (w64 (by omega) (by omega)))) rfl (ltN rfl) ?_
     refine J.opg rfl rfl rfl (ltN rfl) (fun hg => (by have hg' := hg; (try simp only [bsx] at hg'); exact K4 (.iff hg (.t rfl)) .is (w64 (by omega) (by omega)))) rfl (ltN rfl) ?_
     refine J.opg rfl rfl rfl (ltN rfl) (fun hg => (by have hg' := hg; (try simp only [bsx] at hg'); exact X9 (T' := X7 b66 (0 + (k - 1 + (Q3 b).length - 2) * 1)) (oix (.iff hg (.t rfl)) (.iff hg (.t rfl)) V9 (by omega) (by omega)) (Z7 (by omega)))) rfl (ltN rfl) ?_
     refine J.opg rfl rfl rfl (ltN rfl) (fun hg => (by have hg' := hg; (try simp only [bsx] at hg'); exact ol (.iff hg (.t rfl)) (.tail _ (.head _)) sc128 (encD_row (digAtN (by omega))))) rfl (ltN rfl) ?_
     refine J.opg rfl rfl rfl (ltN rfl) (fun hg => (by have hg' := hg; (try simp only [bsx] at hg'); exact K7 (.iff hg (.t rfl)) un116 (by kernel_rfl) (wu64 (by omega) (by omega)))) rfl (ltN rfl) ?_
     refine J.opg rfl rfl rfl (ltN rfl) (fun hg => ot_or (.iff hg (.t rfl)) (.iff hg (.t rfl)) (or_halvesN hr hx2)) rfl (ltN rfl) ?_
     refine J.opg rfl rfl rfl (ltN rfl) (fun hg => ot_gtr (.iff hg (.t rfl)) (.iff hg (.t rfl))) rfl (ltN rfl) ?_
     refine J.o (ot_or2 (.t rfl) .is (.t rfl)) rfl (J.e ?_)
     refine JC.cond (.t rfl) (fun hc3 => ?_) (fun hc3 => ?_)
     ·try simp only [bsx] at hc3
      have hs133 := hc3
      have hcc : 4294967296 ≤ g ∨ r * 4294967296 + u.getD (k - 1 + (Q3 b).length - 2) 0 < g * v.getD ((Q3 b).length - 2) 0 := by omega
      have hg1 := (hGI.pos hG hcc).1
      have hgq : g < 18446744073709551616 := K_g64 hGI hvtop hu2
      refine JC.skip (JQ.then_normal (JC.block (JC.g (J.M rfl rfl ?_))))
      refine J.o (K4 (.t rfl) .is (w_sub1 hg1 hgq)) rfl (J.A rfl rfl (J.e (JC.g (J.M rfl rfl (J.M rfl rfl ?_)))))
      refine J.o (Z6 (.t rfl) (.t rfl) (w_add64 (by omega))) rfl (J.A rfl rfl (J.e (JC.g (J.M rfl rfl (J.o (ot_geq (.t rfl) .is) rfl (J.e ?_))))))
      refine JC.cond (.t rfl) (fun hc4 => ?_) (fun hc4 => ?_)
      ·try simp only [bsx] at hc4
       have hs140 := hc4
       have hok := hGI.brk hG hcc (by omega)
       refine JC.exit ?_
       refine JQ.block_other rfl (JQ.then_exit (JQ.block_exit ?_))
       exact JQ.join1 (g - 1) hok (Q8 (X3 (.k (.k .nil))) (Z3 ⟨.t rfl, .t rfl, .t rfl, .t rfl, .t rfl, .t rfl, .t rfl, .t rfl, .t rfl, .eq (.t rfl) (by first | rfl | (congr 3; omega) | (congr 2; omega)), .t rfl, .t rfl, .t rfl, .t rfl, .t rfl, .t rfl, .t rfl, .t rfl, .t rfl, .t rfl, .t rfl, .t rfl, .t rfl, .t rfl, .t rfl, .t rfl, .t rfl, .t rfl, .t rfl, .t rfl, .t rfl, .t rfl, .t rfl, .t rfl, trivial⟩))
      ·try simp only [bsx] at hc4
       have hs140 := hc4
       refine JC.skip (JQ.block_normal ?_)
       exact JQ.round2 (i := g) (i2 := r) (g - 1) (r + v.getD ((Q3 b).length - 1) 0) (hGI.next hG hcc (by omega)) (by omega) (Q8 (X3 (.k (.k .nil))) (Z3 ⟨.t rfl, .t rfl, .t rfl, .t rfl, .t rfl, .t rfl, .t rfl, .t rfl, .t rfl, .eq (.t rfl) (by first | rfl | (congr 3; omega) | (congr 2; omega)), .eq (.t rfl) (by first | rfl | (congr 3; omega) | (congr 2; omega)), .t rfl, .t rfl, .t rfl, .t rfl, .t rfl, .t rfl, .t rfl, .t rfl, .t rfl, .t rfl, .t rfl, .t rfl, .t rfl, .t rfl, .t rfl, .t rfl, .t rfl, .t rfl, .t rfl, .t rfl, .t rfl, .t rfl, .t rfl, .t rfl, trivial⟩))
     ·try simp only [bsx] at hc3
      have hs133 := hc3
      have hok := hGI.stop hG (by omega) (by omega)
      refine JC.exit (JQ.then_exit (JQ.then_exit (JQ.block_exit ?_)))
      exact JQ.join1 g hok (Q8 (X3 (.k (.k .nil))) (Z3 ⟨.t rfl, .t rfl, .t rfl, .t rfl, .t rfl, .t rfl, .t rfl, .t rfl, .t rfl, .t rfl, .t rfl, .t rfl, .t rfl, .t rfl, .t rfl, .t rfl, .t rfl, .t rfl, .t rfl, .t rfl, .t rfl, .t rfl, .t rfl, .t rfl, .t rfl, .t rfl, .t rfl, .t rfl, .t rfl, .t rfl, .t rfl, .t rfl, .t rfl, .t rfl, trivial⟩))
    intro g hj2
    have hgo := hj2
    have hg := hgo.lt
    refine (JC.g ?_)
    refine J.a .is rfl ?_
    refine J.a .is rfl (J.e (JC.seq (JC.g (J.M rfl rfl (J.o (Y8 (.t rfl) V9 rfl) rfl ?_)))))
    refine J.m .is rfl (J.e (JC.block ?_))
    refine JC.loop4 (α := Nat) (β := List Nat) (γ := Nat) (δ := Nat) (fun i U c b1 => [(4, sIs b71 0 ((dig (val a * 2 ^ s)).length + 1 - v.length) ((dig (val a * 2 ^ s)).length + 1 - v.length)), (5, tSl X8 ([])), (6, tIs (.int .i64 (((Q3 b).length : Int)))), (10, tIs (.int .i64 (s : Int))), (11, tSl X8 v), (12, sIs b66 0 ((dig (val a * 2 ^ s)).length + 1) c66), (13, tIs (.int .u64 ((((v.getD ((Q3 b).length - 1) 0) : Nat) : Int)))), (14, tIs (.int .u64 ((((v.getD ((Q3 b).length - 2) 0) : Nat) : Int)))), (15, tIs (.int .i64 ((k : Int) - 1))), (16, tIs (.int .u64 (g : Int))), (18, tIs (.int .u64 (c : Int))), (19, tIs (.int .u64 (b1 : Int))), (89, tIs (.int .i64 ((k : Int) - 1))), (90, tIs (.bool (decide (0 ≤ ((k : Int) - 1))))), (93, V5 [tIs (.int .u64 ((((u.getD (k - 1 + (Q3 b).length) 0 * 4294967296 + u.getD (k - 1 + (Q3 b).length - 1) 0) / (v.getD ((Q3 b).length - 1) 0) : Nat) : Int))), tIs (.int .u64 ((((u.getD (k - 1 + (Q3 b).length) 0 * 4294967296 + u.getD (k - 1 + (Q3 b).length - 1) 0) % (v.getD ((Q3 b).length - 1) 0) : Nat) : Int)))]), (94, sIs b66 0 ((dig (val a * 2 ^ s)).length + 1) c66), (95, tIs (.int .i64 ((k : Int) - 1))), (96, tIs (.int .i64 (((Q3 b).length : Int)))), (97, tIs (.int .i64 (((k : Int) - 1) + ((Q3 b).length : Int)))), (98, X7 b66 (0 + (k - 1 + (Q3 b).length) * 1)), (99, tIs (.int .u32 ((((u.getD (k - 1 + (Q3 b).length) 0) : Nat) : Int)))), (100, tIs (.int .u64 ((((u.getD (k - 1 + (Q3 b).length) 0) : Nat) : Int)))), (101, tIs (.int .u64 (((u.getD (k - 1 + (Q3 b).length) 0 : Nat) : Int) * 4294967296))), (102, sIs b66 0 ((dig (val a * 2 ^ s)).length + 1) c66), (103, tIs (.int .i64 ((k : Int) - 1))), (104, tIs (.int .i64 (((Q3 b).length : Int)))), (105, tIs (.int .i64 (((k : Int) - 1) + ((Q3 b).length : Int)))), (106, tIs (.int .i64 ((((k : Int) - 1) + ((Q3 b).length : Int)) - 1))), (107, X7 b66 (0 + (k - 1 + (Q3 b).length - 1) * 1)), (108, tIs (.int .u32 ((((u.getD (k - 1 + (Q3 b).length - 1) 0) : Nat) : Int)))), (109, tIs (.int .u64 ((((u.getD (k - 1 + (Q3 b).length - 1) 0) : Nat) : Int)))), (110, tIs (.int .u64 (((u.getD (k - 1 + (Q3 b).length) 0 * 4294967296 + u.getD (k - 1 + (Q3 b).length - 1) 0 : Nat) : Int)))), (111, tIs (.int .u64 ((((v.getD ((Q3 b).length - 1) 0) : Nat) : Int)))), (112, V5 [tIs (.int .u64 ((((u.getD (k - 1 + (Q3 b).length) 0 * 4294967296 + u.getD (k - 1 + (Q3 b).length - 1) 0) / (v.getD ((Q3 b).length - 1) 0) : Nat) : Int))), tIs (.int .u64 ((((u.getD (k - 1 + (Q3 b).length) 0 * 4294967296 + u.getD (k - 1 + (Q3 b).length - 1) 0) % (v.getD ((Q3 b).length - 1) 0) : Nat) : Int)))]), (113, tIs (.int .u64 ((((u.getD (k - 1 + (Q3 b).length) 0 * 4294967296 + u.getD (k - 1 + (Q3 b).length - 1) 0) / (v.getD ((Q3 b).length - 1) 0) : Nat) : Int)))), (114, tIs (.int .u64 ((((u.getD (k - 1 + (Q3 b).length) 0 * 4294967296 + u.getD (k - 1 + (Q3 b).length - 1) 0) % (v.getD ((Q3 b).length - 1) 0) : Nat) : Int)))), (141, tSl X8 v), (142, tIs (.int .i64 (((v).length : Int)))), (143, tIs (.int .i64 (i : Int)))]) (fun i U c b1 => [⟨b71, 128, Y5 X8 q ((dig (val a * 2 ^ s)).length + 1 - v.length)⟩, ⟨b66, 128, Y5 X8 U c66⟩]) (fun i U c b1 => i ≤ v.length ∧ MInv u v g (k - 1) i U c b1) (fun i U c b1 => v.length - i) 0 u 0 0 ⟨by omega, MInv.start hI.du⟩ ?lsub2 ?round2
    case lsub2 => exact Q8 (X3 (.k (.k .nil))) (Z3 ⟨.t rfl, .t rfl, .t rfl, .t rfl, .t rfl, .t rfl, .t rfl, .t rfl, .t rfl, .t rfl, .eq (.t rfl) (by first | rfl | (congr 3; omega) | (congr 2; omega)), .eq (.t rfl) (by first | rfl | (congr 3; omega) | (congr 2; omega)), .t rfl, .t rfl, .t rfl, .t rfl, .t rfl, .t rfl, .t rfl, .t rfl, .t rfl, .t rfl, .t rfl, .t rfl, .t rfl, .t rfl, .t rfl, .t rfl, .t rfl, .t rfl, .t rfl, .t rfl, .t rfl, .t rfl, .t rfl, .t rfl, .t rfl, .t rfl, .eq (.t rfl) (by first | rfl | (congr 3; omega) | (congr 2; omega)), trivial⟩)
    intro i U c b1 hinv
    obtain ⟨hi, hM⟩ := hinv
    have hUl := hM.lU
    have hcc := hM.hc
    have hbb := hM.hb
    have hvi := T9 hvd i
    have hUi := T9 hM.dU (k - 1 + i)
    have hpl := hM.p_lt hg hvd
    refine (JC.g (J.o (Y6 (.t rfl) (.t rfl)) rfl (J.e (JC.seq ?_))))
    refine JC.cond (.t rfl) (fun hc5 => ?_) (fun hc5 => ?_)
    ·try simp only [bsx] at hc5
     have hs144 := hc5
     refine JC.skip (JQ.then_normal (JC.seq (JC.block (JC.g (J.M rfl rfl ?_)))))
     refine J.o (ixo (z := v.getD i 0) (.t rfl) (.t rfl) V9 (by omega) (digAt (by omega) (by omega))) rfl (J.o (ld (.t rfl) sc128 encD_ld) rfl (J.A rfl rfl (J.A rfl rfl (J.e (JC.g (J.M rfl rfl (J.M rfl rfl ?_)))))))
     refine J.o (K7 (.t rfl) un116 (by kernel_rfl) (wu64 (by omega) (by omega))) rfl ?_
     refine J.o (ot_mul (.t rfl) (.t rfl) (w_mul64 hg hvi)) rfl (J.M rfl rfl ?_)
     refine J.o (Z6 (.t rfl) (.t rfl) (w_add64 hpl.1)) rfl (J.A rfl rfl (J.e (JC.g (J.M rfl rfl ?_))))
     refine J.o (ot_shr (.t rfl) .is (by omega) w_shr32) rfl (J.A rfl rfl (J.e (JC.g (J.M rfl rfl (J.M rfl rfl (J.M rfl rfl ?_))))))
     refine J.o (Z6 (.t rfl) (.t rfl) (w64 (by omega) (by omega))) rfl ?_
     refine J.o (X9 (T' := X7 b66 (0 + (k - 1 + i) * 1)) (oix (.t rfl) (.t rfl) V9 (by omega) (by omega)) (Z7 (by omega))) rfl (J.o (ol (.t rfl) (.tail _ (.head _)) sc128 (encD_row (digAtN (by omega)))) rfl ?_)
     refine J.o (K7 (.t rfl) un116 (by kernel_rfl) (wu64 (by omega) (by omega))) rfl (J.M rfl rfl ?_)
     refine J.o (K4 (.t rfl) (.t rfl) rfl) rfl (J.M rfl rfl ?_)
     refine J.o (ot_and (.t rfl) .is (w_and32 hpl.1)) rfl ?_
     refine J.o (K4 (.t rfl) (.t rfl) (w_tN hUi (by omega))) rfl (J.A rfl rfl (J.e (JC.g (J.M rfl rfl (J.M rfl rfl (J.M rfl rfl ?_))))))
     refine J.o (Z6 (.t rfl) (.t rfl) (w64 (by omega) (by omega))) rfl (J.M rfl rfl ?_)
     refine J.o (K7 (.t rfl) un128 (by kernel_rfl) w_mod32) rfl ?_
     refine J.o (X9 (T' := X7 b66 (0 + (k - 1 + i) * 1)) (oix (.t rfl) (.t rfl) V9 (by omega) (by omega)) (Z7 (by omega))) rfl ?_
     refine J.store (.t rfl) (.sub (.t rfl) (encD_in (Int.natCast_nonneg _) (Int.ofNat_lt.2 (Nat.mod_lt _ (by decide))))) (.there .here) sz128 (T4 (by omega)) (J.e (JC.region (J.M rfl rfl ?_)))
     refine J.o (ot_shr (.t rfl) .is (by omega) w_shr63) rfl (J.A rfl rfl (J.nil (JQ.block_normal (JQ.then_normal (JC.region ?_)))))
     refine J.o (Z6 (.t rfl) .is (w64 (by omega) (by omega))) rfl (J.M rfl rfl (J.nil ?_))
     exact JQ.round4 (i := i) (i2 := U) (i3 := c) (i4 := b1) (i + 1) (U.set (k - 1 + i) (tN (U.getD (k - 1 + i) 0) (b1 + (g * v.getD i 0 + c) % 4294967296) % 4294967296)) ((g * v.getD i 0 + c) / 4294967296) (tN (U.getD (k - 1 + i) 0) (b1 + (g * v.getD i 0 + c) % 4294967296) / 9223372036854775808) ⟨by omega, hM.next hg hvd (by omega) (by omega)⟩ (by omega) (Q8 (X3 (.k (.keep (fun _ _ h => by first | exact h | simpa using h) .nil))) (Z3 ⟨.t rfl, .t rfl, .t rfl, .t rfl, .t rfl, .t rfl, .t rfl, .t rfl, .t rfl, .t rfl, .eq (.t rfl) (by first | rfl | (congr 3; omega) | (congr 2; omega)), .eq (.t rfl) (by first | rfl | (congr 3; omega) | (congr 2; omega)), .t rfl, .t rfl, .t rfl, .t rfl, .t rfl, .t rfl, .t rfl, .t rfl, .t rfl, .t rfl, .t rfl, .t rfl, .t rfl, .t rfl, .t rfl, .t rfl, .t rfl, .t rfl, .t rfl, .t rfl, .t rfl, .t rfl, .t rfl, .t rfl, .t rfl, .t rfl, .eq (.t rfl) (by first | rfl | (congr 3; omega) | (congr 2; omega)), trivial⟩))
    ·try simp only [bsx] at hc5
     have hs144 := hc5
     have hin : i = v.length := by omega
     have hUt := T9 hM.dU (k - 1 + (Q3 b).length)
     have hM2 : MInv u v g (k - 1) v.length U c b1 := hin ▸ hM
     refine JC.exit (JQ.then_exit (JQ.then_exit (JQ.block_exit (JQ.then_normal (JC.g (J.M rfl rfl (J.M rfl rfl (J.M rfl rfl ?_))))))))
     refine J.o (Z6 (.t rfl) (.t rfl) (w64 (by omega) (by omega))) rfl ?_
     refine J.o (X9 (T' := X7 b66 (0 + (k - 1 + (Q3 b).length) * 1)) (oix (.t rfl) (.t rfl) V9 (by omega) (by omega)) (Z7 (by omega))) rfl (J.o (ol (.t rfl) (.tail _ (.head _)) sc128 (encD_row (digAtN (by omega)))) rfl ?_)
     refine J.o (K7 (.t rfl) un116 (by kernel_rfl) (wu64 (by omega) (by omega))) rfl (J.M rfl rfl ?_)
     refine J.o (K4 (.t rfl) (.t rfl) rfl) rfl (J.M rfl rfl ?_)
     refine J.o (K4 (.t rfl) (.t rfl) (w_tN hUt (by omega))) rfl (J.A rfl rfl (J.e (JC.g (J.M rfl rfl (J.M rfl rfl (J.M rfl rfl ?_))))))
     refine J.o (Z6 (.t rfl) (.t rfl) (w64 (by omega) (by omega))) rfl (J.M rfl rfl ?_)
     refine J.o (K7 (.t rfl) un128 (by kernel_rfl) w_mod32) rfl ?_
     refine J.o (X9 (T' := X7 b66 (0 + (k - 1 + (Q3 b).length) * 1)) (oix (.t rfl) (.t rfl) V9 (by omega) (by omega)) (Z7 (by omega))) rfl ?_
     refine J.store (.t rfl) (.sub (.t rfl) (encD_in (Int.natCast_nonneg _) (Int.ofNat_lt.2 (Nat.mod_lt _ (by decide))))) (.there .here) sz128 (T4 (by omega)) (J.e (JC.g (J.M rfl rfl (J.M rfl rfl (J.M rfl rfl ?_)))))
     refine J.o (K7 (.t rfl) un128 (by kernel_rfl) (wu32 (by omega) (by omega))) rfl ?_
     refine J.o (X9 (T' := X7 b71 (0 + (k - 1) * 1)) (oix (.t rfl) (.t rfl) V9 (by omega) (by omega)) (Z7 (by omega))) rfl ?_
     refine J.store (.t rfl) (.sub (.t rfl) (encD_in (Int.natCast_nonneg _) (Int.ofNat_lt.2 hg))) .here sz128 (T4 (by omega)) (J.e (JC.seq (JC.g (J.M rfl rfl ?_))))
     refine J.o (ot_shr (.t rfl) .is (by omega) w_shr63) rfl (J.o (U5 (.t rfl) .is) rfl (J.e ?_))
     refine JC.cond (.t rfl) (fun hc6 => ?_) (fun hc6 => ?_)
     ·try simp only [bsx] at hc6
      have hs203 := hc6
      have hz : tN (U.getD (k - 1 + (Q3 b).length) 0) (b1 + c) / 9223372036854775808 = 0 := by omega
      have hfin := hI1.yes hvl hvp hgo hM2 hz
      refine JC.exit (JQ.then_exit (JQ.block_exit (JQ.then_normal (JC.region (J.M rfl rfl ?_)))))
      refine J.o (K4 (.t rfl) .is (w64 (by omega) (by omega))) rfl (J.A rfl rfl (J.nil ?_))
      exact JQ.round3 (i := k) (i2 := u) (i3 := q) (k - 1) (U.set (k - 1 + (Q3 b).length) (tN (U.getD (k - 1 + (Q3 b).length) 0) (b1 + c) % 4294967296)) (q.set (k - 1) g) hfin (by omega) (Q8 (X3 (.keep (fun _ _ h => by first | exact h | simpa using h) (.keep (fun _ _ h => by first | exact h | simpa using h) .nil))) (Z3 ⟨.t rfl, .t rfl, .t rfl, .t rfl, .t rfl, .t rfl, .t rfl, .t rfl, .eq (.t rfl) (by first | rfl | (congr 3; omega) | (congr 2; omega)), trivial⟩))
     ·try simp only [bsx] at hc6
      have hs203 := hc6
      have hz : ¬ tN (U.getD (k - 1 + (Q3 b).length) 0) (b1 + c) / 9223372036854775808 = 0 := by omega
      have hgp := K_gpos hI1 hvl hvd hvp hgo hM2 hz
      refine JC.skip (JQ.then_normal (JC.g (J.M rfl rfl (J.M rfl rfl ?_))))
      refine J.o (X9 (T' := X7 b71 (0 + (k - 1) * 1)) (oix (.t rfl) (.t rfl) V9 (by omega) (by omega)) (Z7 (by omega))) rfl (J.o (ol (.t rfl) (.head _) sc128 (encD_row (set_at (by omega)))) rfl ?_)
      refine J.o (K4 (.t rfl) .is (w_sub1' hgp hg)) rfl ?_
      refine J.o (X9 (T' := X7 b71 (0 + (k - 1) * 1)) (oix (.t rfl) (.t rfl) V9 (by omega) (by omega)) (Z7 (by omega))) rfl ?_
      refine J.store (.t rfl) (.sub (.t rfl) (encD_in (Int.natCast_nonneg _) (Int.ofNat_lt.2 (Nat.lt_of_le_of_lt (Nat.sub_le _ _) hg)))) .here sz128 (T4 (by simp; omega)) (J.e (JC.g ?_))
      refine J.a .is rfl (J.e (JC.seq (JC.g (J.M rfl rfl (J.o (Y8 (.t rfl) V9 rfl) rfl ?_)))))
      refine J.m .is rfl (J.e (JC.block ?_))
      refine JC.loop3 (α := Nat) (β := List Nat) (γ := Nat) (fun i6 U6 s6 => [(4, sIs b71 0 ((dig (val a * 2 ^ s)).length + 1 - v.length) ((dig (val a * 2 ^ s)).length + 1 - v.length)), (5, tSl X8 ([])), (6, tIs (.int .i64 (((Q3 b).length : Int)))), (10, tIs (.int .i64 (s : Int))), (11, tSl X8 v), (12, sIs b66 0 ((dig (val a * 2 ^ s)).length + 1) c66), (13, tIs (.int .u64 ((((v.getD ((Q3 b).length - 1) 0) : Nat) : Int)))), (14, tIs (.int .u64 ((((v.getD ((Q3 b).length - 2) 0) : Nat) : Int)))), (15, tIs (.int .i64 ((k : Int) - 1))), (16, tIs (.int .u64 (g : Int))), (18, tIs (.int .u64 (c : Int))), (19, tIs (.int .u64 (b1 : Int))), (24, tIs (.int .u64 (((tN (U.getD (k - 1 + (Q3 b).length) 0) (b1 + c) : Nat) : Int)))), (25, tIs (.int .u32 (s6 : Int))), (89, tIs (.int .i64 ((k : Int) - 1))), (90, tIs (.bool (decide (0 ≤ ((k : Int) - 1))))), (93, V5 [tIs (.int .u64 ((((u.getD (k - 1 + (Q3 b).length) 0 * 4294967296 + u.getD (k - 1 + (Q3 b).length - 1) 0) / (v.getD ((Q3 b).length - 1) 0) : Nat) : Int))), tIs (.int .u64 ((((u.getD (k - 1 + (Q3 b).length) 0 * 4294967296 + u.getD (k - 1 + (Q3 b).length - 1) 0) % (v.getD ((Q3 b).length - 1) 0) : Nat) : Int)))]), (94, sIs b66 0 ((dig (val a * 2 ^ s)).length + 1) c66), (95, tIs (.int .i64 ((k : Int) - 1))), (96, tIs (.int .i64 (((Q3 b).length : Int)))), (97, tIs (.int .i64 (((k : Int) - 1) + ((Q3 b).length : Int)))), (98, X7 b66 (0 + (k - 1 + (Q3 b).length) * 1)), (99, tIs (.int .u32 ((((u.getD (k - 1 + (Q3 b).length) 0) : Nat) : Int)))), (100, tIs (.int .u64 ((((u.getD (k - 1 + (Q3 b).length) 0) : Nat) : Int)))), (101, tIs (.int .u64 (((u.getD (k - 1 + (Q3 b).length) 0 : Nat) : Int) * 4294967296))), (102, sIs b66 0 ((dig (val a * 2 ^ s)).length + 1) c66), (103, tIs (.int .i64 ((k : Int) - 1))), (104, tIs (.int .i64 (((Q3 b).length : Int)))), (105, tIs (.int .i64 (((k : Int) - 1) + ((Q3 b).length : Int)))), (106, tIs (.int .i64 ((((k : Int) - 1) + ((Q3 b).length : Int)) - 1))), (107, X7 b66 (0 + (k - 1 + (Q3 b).length - 1) * 1)), (108, tIs (.int .u32 ((((u.getD (k - 1 + (Q3 b).length - 1) 0) : Nat) : Int)))), (109, tIs (.int .u64 ((((u.getD (k - 1 + (Q3 b).length - 1) 0) : Nat) : Int)))), (110, tIs (.int .u64 (((u.getD (k - 1 + (Q3 b).length) 0 * 4294967296 + u.getD (k - 1 + (Q3 b).length - 1) 0 : Nat) : Int)))), (111, tIs (.int .u64 ((((v.getD ((Q3 b).length - 1) 0) : Nat) : Int)))), (112, V5 [tIs (.int .u64 ((((u.getD (k - 1 + (Q3 b).length) 0 * 4294967296 + u.getD (k - 1 + (Q3 b).length - 1) 0) / (v.getD ((Q3 b).length - 1) 0) : Nat) : Int))), tIs (.int .u64 ((((u.getD (k - 1 + (Q3 b).length) 0 * 4294967296 + u.getD (k - 1 + (Q3 b).length - 1) 0) % (v.getD ((Q3 b).length - 1) 0) : Nat) : Int)))]), (113, tIs (.int .u64 ((((u.getD (k - 1 + (Q3 b).length) 0 * 4294967296 + u.getD (k - 1 + (Q3 b).length - 1) 0) / (v.getD ((Q3 b).length - 1) 0) : Nat) : Int)))), (114, tIs (.int .u64 ((((u.getD (k - 1 + (Q3 b).length) 0 * 4294967296 + u.getD (k - 1 + (Q3 b).length - 1) 0) % (v.getD ((Q3 b).length - 1) 0) : Nat) : Int)))), (141, tSl X8 v), (142, tIs (.int .i64 (((v).length : Int)))), (143, tIs (.int .i64 (i : Int))), (144, tIs (.bool (decide ((i : Int) < ((v).length : Int))))), (178, sIs b66 0 ((dig (val a * 2 ^ s)).length + 1) c66), (179, tIs (.int .i64 ((k : Int) - 1))), (180, tIs (.int .i64 (((Q3 b).length : Int)))), (181, tIs (.int .i64 (((k : Int) - 1) + ((Q3 b).length : Int)))), (182, X7 b66 (0 + (k - 1 + (Q3 b).length) * 1)), (183, tIs (.int .u32 ((((U.getD (k - 1 + (Q3 b).length) 0) : Nat) : Int)))), (184, tIs (.int .u64 ((((U.getD (k - 1 + (Q3 b).length) 0) : Nat) : Int)))), (185, tIs (.int .u64 (b1 : Int))), (186, tIs (.int .u64 (IntKind.u64.wrap (((U.getD (k - 1 + (Q3 b).length) 0 : Nat) : Int) - (b1 : Int))))), (187, tIs (.int .u64 (c : Int))), (188, tIs (.int .u64 (((tN (U.getD (k - 1 + (Q3 b).length) 0) (b1 + c) : Nat) : Int)))), (189, sIs b66 0 ((dig (val a * 2 ^ s)).length + 1) c66), (190, tIs (.int .i64 ((k : Int) - 1))), (191, tIs (.int .i64 (((Q3 b).length : Int)))), (192, tIs (.int .i64 (((k : Int) - 1) + ((Q3 b).length : Int)))), (193, tIs (.int .u64 (((tN (U.getD (k - 1 + (Q3 b).length) 0) (b1 + c) : Nat) : Int)))), (194, tIs (.int .u32 (((tN (U.getD (k - 1 + (Q3 b).length) 0) (b1 + c) % 4294967296 : Nat) : Int)))), (195, X7 b66 (0 + (k - 1 + (Q3 b).length) * 1)), (196, sIs b71 0 ((dig (val a * 2 ^ s)).length + 1 - v.length) ((dig (val a * 2 ^ s)).length + 1 - v.length)), (197, tIs (.int .i64 ((k : Int) - 1))), (198, tIs (.int .u64 (g : Int))), (199, tIs (.int .u32 (g : Int))), (200, X7 b71 (0 + (k - 1) * 1)), (201, tIs (.int .u64 (((tN (U.getD (k - 1 + (Q3 b).length) 0) (b1 + c) : Nat) : Int)))), (202, tIs (.int .u64 (((tN (U.getD (k - 1 + (Q3 b).length) 0) (b1 + c) / 9223372036854775808 : Nat) : Int)))), (203, tIs (.bool (decide (((tN (U.getD (k - 1 + (Q3 b).length) 0) (b1 + c) / 9223372036854775808 : Nat) : Int) = 0)))), (204, sIs b71 0 ((dig (val a * 2 ^ s)).length + 1 - v.length) ((dig (val a * 2 ^ s)).length + 1 - v.length)), (205, tIs (.int .i64 ((k : Int) - 1))), (206, X7 b71 (0 + (k - 1) * 1)), (207, tIs (.int .u32 (((g : Nat) : Int)))), (208, tIs (.int .u32 (((g - 1 : Nat) : Int)))), (209, X7 b71 (0 + (k - 1) * 1)), (210, tSl X8 v), (211, tIs (.int .i64 (((v).length : Int)))), (212, tIs (.int .i64 (i6 : Int)))]) (fun i6 U6 s6 => [⟨b71, 128, Y5 X8 (((q).set (k - 1) g).set (k - 1) ((((g - 1 : Nat) : Int)).toNat)) ((dig (val a * 2 ^ s)).length + 1 - v.length)⟩, ⟨b66, 128, Y5 X8 U6 c66⟩]) (fun i6 U6 s6 => i6 ≤ v.length ∧ AInv (U.set (k - 1 + (Q3 b).length) (tN (U.getD (k - 1 + (Q3 b).length) 0) (b1 + c) % 4294967296)) v (k - 1) i6 U6 s6) (fun i6 U6 s6 => v.length - i6) 0 (U.set (k - 1 + (Q3 b).length) (tN (U.getD (k - 1 + (Q3 b).length) 0) (b1 + c) % 4294967296)) 0 ⟨by omega, AInv.start (digs_set hM.dU (Nat.mod_lt _ (by decide)))⟩ ?lsub3 ?round3
      case lsub3 => exact Q8 (X3 (.k (.keep (fun _ _ h => by first | exact h | simpa using h) .nil))) (Z3 ⟨.t rfl, .t rfl, .t rfl, .t rfl, .t rfl, .t rfl, .t rfl, .t rfl, .t rfl, .t rfl, .t rfl, .t rfl, .t rfl, .eq (.t rfl) (by first | rfl | (congr 3; omega) | (congr 2; omega)), .t rfl, .t rfl, .t rfl, .t rfl, .t rfl, .t rfl, .t rfl, .t rfl, .t rfl, .t rfl, .t rfl, .t rfl, .t rfl, .t rfl, .t rfl, .t rfl, .t rfl, .t rfl, .t rfl, .t rfl, .t rfl, .t rfl, .t rfl, .t rfl, .t rfl, .t rfl, .t rfl, .t rfl, .t rfl, .t rfl, .t rfl, .t rfl, .t rfl, .t rfl, .t rfl, .t rfl, .t rfl, .t rfl, .t rfl, .t rfl, .t rfl, .t rfl, .t rfl, .t rfl, .t rfl, .t rfl, .t rfl, .t rfl, .t rfl, .t rfl, .t rfl, .t rfl, .t rfl, .t rfl, .t rfl, .t rfl, .t rfl, .t rfl, .t rfl, .t rfl, .t rfl, .t rfl, .eq (.t rfl) (by first | rfl | (congr 3; omega) | (congr 2; omega)), trivial⟩)
      intro i6 U6 s6 hinv
      obtain ⟨hi6, hA⟩ := hinv
      have hU6l := hA.lU
      rw [List.length_set] at hU6l
      have hs6 := hA.hs
      have hv6 := T9 hvd i6
      have hU6 := T9 hA.dU (k - 1 + i6)
      refine (JC.g (J.o (Y6 (.t rfl) (.t rfl)) rfl (J.e (JC.seq ?_))))
      refine JC.cond (.t rfl) (fun hc7 => ?_) (fun hc7 => ?_)
      ·try simp only [bsx] at hc7
       have hs213 := hc7
       refine JC.skip (JQ.then_normal (JC.seq (JC.block (JC.g (J.M rfl rfl ?_)))))
       refine J.o (ixo (z := v.getD i6 0) (.t rfl) (.t rfl) V9 (by omega) (digAt (by omega) (by omega))) rfl (J.o (ld (.t rfl) sc128 encD_ld) rfl (J.A rfl rfl (J.A rfl rfl (J.e (JC.region (J.M rfl rfl (J.M rfl rfl (J.M rfl rfl ?_))))))))
       refine J.o (Z6 (.t rfl) (.t rfl) (w64 (by omega) (by omega))) rfl (J.M rfl rfl (J.M rfl rfl (J.M rfl rfl ?_)))
       refine J.o (Z6 (.t rfl) (.t rfl) (w64 (by omega) (by omega))) rfl ?_
       refine J.o (X9 (T' := X7 b66 (0 + (k - 1 + i6) * 1)) (oix (.t rfl) (.t rfl) V9 (by omega) (by omega)) (Z7 (by omega))) rfl (J.o (ol (.t rfl) (.tail _ (.head _)) sc128 (encD_row (digAtN (by omega)))) rfl (J.M rfl rfl (J.M rfl rfl ?_)))
       refine J.o (X9 (T' := V5 [tIs (.int .u32 ((((U6.getD (k - 1 + i6) 0 + v.getD i6 0 + s6) % 4294967296 : Nat) : Int))), tIs (.int .u32 ((((U6.getD (k - 1 + i6) 0 + v.getD i6 0 + s6) / 4294967296 : Nat) : Int)))]) (oc fn124 (add32_c (((U6.getD (k - 1 + i6) 0) : Nat) : Int) (((v.getD i6 0) : Nat) : Int) (s6 : Int) (by omega) (by omega) (by omega)) (.cons (.t rfl) (.cons (.t rfl) (.cons (.t rfl) .nil)))) (by congr 4 <;> omega)) rfl (J.M rfl rfl ?_)
       refine J.o (Z1 (.t rfl) rfl) rfl ?_
       refine J.o (Z1 (.t rfl) rfl) rfl ?_
       refine J.o (X9 (T' := X7 b66 (0 + (k - 1 + i6) * 1)) (oix (.t rfl) (.t rfl) V9 (by omega) (by omega)) (Z7 (by omega))) rfl ?_
       refine J.store (.t rfl) (.sub (.t rfl) (encD_in (Int.natCast_nonneg _) (Int.ofNat_lt.2 (Nat.mod_lt _ (by decide))))) (.there .here) sz128 (T4 (by omega)) (J.A rfl rfl (J.nil (JQ.block_normal (JQ.then_normal (JC.region ?_)))))
       refine J.o (Z6 (.t rfl) .is (w64 (by omega) (by omega))) rfl (J.M rfl rfl (J.nil ?_))
       exact JQ.round3 (i := i6) (i2 := U6) (i3 := s6) (i6 + 1) (U6.set (k - 1 + i6) ((U6.getD (k - 1 + i6) 0 + v.getD i6 0 + s6) % 4294967296)) ((U6.getD (k - 1 + i6) 0 + v.getD i6 0 + s6) / 4294967296) ⟨by omega, hA.next hvd (by omega) (by simp; omega)⟩ (by omega) (Q8 (X3 (.k (.keep (fun _ _ h => by first | exact h | simpa using h) .nil))) (Z3 ⟨.t rfl, .t rfl, .t rfl, .t rfl, .t rfl, .t rfl, .t rfl, .t rfl, .t rfl, .t rfl, .t rfl, .t rfl, .t rfl, .eq (.t rfl) (by first | rfl | (congr 3; omega) | (congr 2; omega)), .t rfl, .t rfl, .t rfl, .t rfl, .t rfl, .t rfl, .t rfl, .t rfl, .t rfl, .t rfl, .t rfl, .t rfl, .t rfl, .t rfl, .t rfl, .t rfl, .t rfl, .t rfl, .t rfl, .t rfl, .t rfl, .t rfl, .t rfl, .t rfl, .t rfl, .t rfl, .t rfl, .t rfl, .t rfl, .t rfl, .t rfl, .t rfl, .t rfl, .t rfl, .t rfl, .t rfl, .t rfl, .t rfl, .t rfl, .t rfl, .t rfl, .t rfl, .t rfl, .t rfl, .t rfl, .t rfl, .t rfl, .t rfl, .t rfl, .t rfl, .t rfl, .t rfl, .t rfl, .t rfl, .t rfl, .t rfl, .t rfl, .t rfl, .t rfl, .t rfl, .t rfl, .t rfl, .eq (.t rfl) (by first | rfl | (congr 3; omega) | (congr 2; omega)), trivial⟩))
      ·try simp only [bsx] at hc7
       have hs213 := hc7
       have hA2 : AInv (U.set (k - 1 + (Q3 b).length) (tN (U.getD (k - 1 + (Q3 b).length) 0) (b1 + c) % 4294967296)) v (k - 1) v.length U6 s6 := (show i6 = v.length by omega) ▸ hA
       have hfin := hI1.no hvl hvd hvp hgo hM2 hz hA2
       refine JC.exit (JQ.then_exit (JQ.then_exit (JQ.block_exit (JQ.then_normal (JC.region (J.M rfl rfl (J.M rfl rfl (J.M rfl rfl ?_))))))))
       refine J.o (Z6 (.t rfl) (.t rfl) (w64 (by omega) (by omega))) rfl ?_
       refine J.o (X9 (T' := X7 b66 (0 + (k - 1 + (Q3 b).length) * 1)) (oix (.t rfl) (.t rfl) V9 (by omega) (by omega)) (Z7 (by omega))) rfl (J.o (ol (.t rfl) (.tail _ (.head _)) sc128 (encD_row (digAtN (by omega)))) rfl (J.M rfl rfl ?_))
       refine J.o (Z6 (.t rfl) (.t rfl) w_addmod) rfl ?_
       refine J.o (X9 (T' := X7 b66 (0 + (k - 1 + (Q3 b).length) * 1)) (oix (.t rfl) (.t rfl) V9 (by omega) (by omega)) (Z7 (by omega))) rfl ?_
       refine J.store (.t rfl) (.sub (.t rfl) (encD_in (Int.natCast_nonneg _) (Int.ofNat_lt.2 (Nat.mod_lt _ (by decide))))) (.there .here) sz128 (T4 (by omega)) (J.nil (JQ.block_normal (JQ.then_normal (JC.region (J.M rfl rfl ?_)))))
       refine J.o (K4 (.t rfl) .is (w64 (by omega) (by omega))) rfl (J.A rfl rfl (J.nil ?_))
       exact JQ.round3 (i := k) (i2 := u) (i3 := q) (k - 1) (U6.set (k - 1 + (Q3 b).length) ((U6.getD (k - 1 + (Q3 b).length) 0 + s6) % 4294967296)) ((q.set (k - 1) g).set (k - 1) (g - 1)) hfin (by omega) (Q8 (X3 (.keep (fun _ _ h => by first | exact h | simpa using h) (.keep (fun _ _ h => by first | exact h | simpa using h) .nil))) (Z3 ⟨.t rfl, .t rfl, .t rfl, .t rfl, .t rfl, .t rfl, .t rfl, .t rfl, .eq (.t rfl) (by first | rfl | (congr 3; omega) | (congr 2; omega)), trivial⟩))
   ·try simp only [bsx] at hc2
    have hs90 := hc2
    have hk0 : k = 0 := by omega
    have hdn := (hk0 ▸ hI).done hvl hvd
    refine JC.exit (JQ.then_exit (JQ.then_exit (JQ.block_exit (JQ.then_normal (JC.seq ?_)))))
    refine JC.weak (U9 (E := X8) (xs := u) (n := (dig (val a * 2 ^ s)).length + 1) (c := c66) [12] ⟨rfl, trivial⟩ (.there .here) (by omega) (by omega)) ?_
    refine JC.weak (U9 (E := X8) (xs := q) (n := (dig (val a * 2 ^ s)).length + 1 - v.length) (c := (dig (val a * 2 ^ s)).length + 1 - v.length) [4] ⟨rfl, trivial⟩ .here (by omega) (by omega)) ?_
    refine JC.draw (Γ' := ?g3) mo (by kernel_rfl) ?tw3 ?k3
    case tw3 =>
     refine TW.M rfl rfl ?_
     refine TW.o (oc fn120 (natNormal_c q (by omega)) (.cons (.t rfl) .nil)) rfl (TW.M rfl rfl (TW.M rfl rfl ?_))
     refine TW.o (X9 (T' := tSl X8 (u.take (Q3 b).length)) (ot_slice (E := X8) (xs := u) (l := 0) (h := (Q3 b).length) (kl := .i64) (kh := .i64) (.t rfl) V9 rfl (.eq (.t rfl) rfl) (by omega) (by omega)) (by rw [List.drop_zero, Nat.sub_zero])) rfl (TW.M rfl rfl ?_)
     refine TW.o (X9 (T' := tSl X8 (dig (val a % val b))) (oc fn135 (shr_c (u.take (Q3 b).length) s (by simp; omega) hs32) (.cons (.t rfl) (.cons (.t rfl) .nil))) (by rw [hdn.2.2, hdn.2.1, hvv, (div_scale hps).2])) rfl ?_
     refine TW.o (Y2 (.t rfl)) rfl ?_
     refine TW.o (Y2 (.t rfl)) rfl ?_
     exact TW.nil
    refine JQ.then_normal (JC.ret ?_)
    refine JQ.scope_ret ?_
    exact JQ.ret2 rfl (.tmp (.eq (.t rfl) (by rw [W7 hI.dq, hdn.1, hvv, (div_scale hps).1]))) (.tmp (.t rfl))

theorem quoG_c (x : Z) (y : Z) (hlx : x.abs.length ≤ 1000000000000) (hly : y.abs.length ≤ 1000000000000) (hb : 0 < val y.abs) : Ctr Try.prog 118 [tV R9 x, tV R9 y] (V5 [tV R9 (ofI ((X4 x).tdiv (X4 y))), tV R9 (ofI ((X4 x).tmod (X4 y))), tIs (.int .i64 0)]) := by
 refine Ctr.know 0 rfl (fun _ _ h => slP_encI h) fun hdx => ?_
 have hq := quo_fit (b := val y.abs) hdx
 refine Ctr.of Try.func118 rfl Try.ntmps118 (Nat.le_of_ble_eq_true rfl) fun w0 M0 => (JC.g ?_)
 refine J.boxF (Ts := (iT x)) (.t rfl) rfl (ltN rfl) fun b2 => ?_
 refine J.boxF (Ts := (iT y)) (.t rfl) rfl (ltN rfl) fun b3 => ?_
 refine J.alloc (R := cTs [tIs (.bool false), tSl X8 ([])]) zr25 (fun _ => ⟨rfl, rfl, Q9 _ _, rfl, trivial⟩) (ltN rfl) fun b4 => ?_
 refine J.alloc (R := cTs [tIs (.bool false), tSl X8 ([])]) zr25 (fun _ => ⟨rfl, rfl, Q9 _ _, rfl, trivial⟩) (ltN rfl) fun b5 => ?_
 refine J.a .is rfl (J.e (JC.seq (JC.g (J.o (oa (.t rfl) (.tail _ (.tail _ (.head _))) ag25 (Q6 (g := zT) (y := y) rfl rfl)) rfl ?_))))
 refine J.o (oc fn119 (dzero_c y (by omega)) (.cons (.t rfl) .nil)) rfl (J.e ?_)
 refine JC.cond_false (.eq (.t rfl) (by rw [decide_eq_false (by rw [← zval_zero']; omega)])) (JC.skip (JQ.then_normal (JC.g (J.o (ofa (.t rfl) fd25_1) rfl (J.o (ol (.t rfl) (.tail _ (.tail _ (.tail _ (.head _)))) sc23 (Z8 rfl)) rfl (J.o (ofa (.t rfl) fd25_1) rfl (J.o (ol (.t rfl) (.tail _ (.tail _ (.head _))) sc23 (Z8 rfl)) rfl ?_)))))))
 refine J.o (oc fn128 (longG_c x.abs y.abs (by omega) (by omega) (by assumption)) (.cons (.t rfl) (.cons (.t rfl) .nil))) rfl (J.M rfl rfl ?_)
 refine J.o (Z1 (.t rfl) rfl) rfl ?_
 refine J.o (Z1 (.t rfl) rfl) rfl (J.A rfl rfl (J.A rfl rfl (J.e (JC.seq ?_))))
 refine JC.drawAt (Γ' := ?g1) 11 mo (by kernel_rfl) ?tw1 ?k1
 case tw1 =>
  refine TW.o (ofa (.t rfl) fd25_0) rfl (TW.o (ol (.t rfl) (.tail _ (.tail _ (.tail _ (.head _)))) sc4 (Z8 rfl)) rfl (TW.o (ofa (.t rfl) fd25_0) rfl (TW.o (ol (.t rfl) (.tail _ (.tail _ (.head _))) sc4 (Z8 rfl)) rfl ?_)))
  refine TW.o (ot_neqb (.t rfl) (.t rfl) un4) rfl (TW.M rfl rfl ?_)
  refine TW.o (oc fn107 (intFrom_c (!(x.neg == y.neg)) (dig (val x.abs / val y.abs)) (by omega)) (.cons (.t rfl) (.cons (.t rfl) .nil))) rfl (TW.o (ofa (.t rfl) fd25_0) rfl (TW.o (ol (.t rfl) (.tail _ (.tail _ (.tail _ (.head _)))) sc4 (Z8 rfl)) rfl (TW.M rfl rfl ?_)))
  refine TW.o (oc fn107 (intFrom_c x.neg (dig (val x.abs % val y.abs)) (by omega)) (.cons (.t rfl) (.cons (.t rfl) .nil))) rfl ?_
  exact TW.nil
 refine J.store (.t rfl) (.eq (.t rfl) (K2 (Ts := (iT (ofI (X4 (Z.mk ((!(x.neg == y.neg))) ((dig (val x.abs / val y.abs)))))))) rfl)) (.there .here) sz25 (Z4 (Ts' := (iT (ofI (X4 (Z.mk ((!(x.neg == y.neg))) ((dig (val x.abs / val y.abs)))))))) (o := 0) rfl) ?_
 refine J.store (.t rfl) (.eq (.t rfl) (K2 (Ts := (iT (ofI (X4 (Z.mk (x.neg) ((dig (val x.abs % val y.abs)))))))) rfl)) .here sz25 (Z4 (Ts' := (iT (ofI (X4 (Z.mk (x.neg) ((dig (val x.abs % val y.abs)))))))) (o := 0) rfl) ?_
 refine J.a .is rfl (J.e (JC.ret ?_))
 exact JQ.ret3 rfl (.agg (.t rfl) (.tail _ (.head _)) ag25 (U3 (T := tV R9 (ofI (X4 (Z.mk ((!(x.neg == y.neg))) ((dig (val x.abs / val y.abs))))))) (T' := tV R9 (ofI ((X4 x).tdiv (X4 y)))) (by rw [quo_tdiv]) (Q6 (g := zT) (y := (ofI (X4 (Z.mk ((!(x.neg == y.neg))) ((dig (val x.abs / val y.abs))))))) rfl rfl))) (.agg (.t rfl) (.head _) ag25 (U3 (T := tV R9 (ofI (X4 (Z.mk (x.neg) ((dig (val x.abs % val y.abs))))))) (T' := tV R9 (ofI ((X4 x).tmod (X4 y)))) (by rw [quo_tmod]) (Q6 (g := zT) (y := (ofI (X4 (Z.mk (x.neg) ((dig (val x.abs % val y.abs))))))) rfl rfl))) (.tmp (.t rfl))

theorem dexactG_c (x : Z) (y : Z) (hlx : x.abs.length ≤ 1000000000000) (hly : y.abs.length ≤ 1000000000000) (hb : 0 < val y.abs) : Ctr Try.prog 101 [tV R9 x, tV R9 y] (V5 [tV R9 (if X4 y ∣ X4 x then ofI (X4 x / X4 y) else z0), tIs (.int .i64 (if X4 y ∣ X4 x then 0 else 3))]) := by
 refine Ctr.know 0 rfl (fun _ _ h => slP_encI h) fun hdx => ?_
 have hr := tmod_fit (y := y) hdx
 refine Ctr.of Try.func101 rfl Try.ntmps101 (Nat.le_of_ble_eq_true rfl) fun w0 M0 => (JC.g ?_)
 refine J.boxF (Ts := (iT x)) (.t rfl) rfl (ltN rfl) fun b2 => ?_
 refine J.boxF (Ts := (iT y)) (.t rfl) rfl (ltN rfl) fun b3 => ?_
 refine J.alloc (R := cTs [tIs (.bool false), tSl X8 ([])]) zr25 (fun _ => ⟨rfl, rfl, Q9 _ _, rfl, trivial⟩) (ltN rfl) fun b4 => ?_
 refine J.a .is rfl (J.e (JC.g (J.o (oa (.t rfl) (.tail _ (.tail _ (.head _))) ag25 (Q6 (g := zT) (y := x) rfl rfl)) rfl (J.o (oa (.t rfl) (.tail _ (.head _)) ag25 (Q6 (g := zT) (y := y) rfl rfl)) rfl ?_))))
 refine J.o (oc fn118 (quoG_c x y (by omega) (by omega) (by assumption)) (.cons (.t rfl) (.cons (.t rfl) .nil))) rfl (J.M rfl rfl ?_)
 refine J.o (Z1 (.t rfl) rfl) rfl ?_
 refine J.o (Z1 (.t rfl) rfl) rfl ?_
 refine J.o (Z1 (.t rfl) rfl) rfl ?_
 refine J.alloc (R := cTs [tIs (.bool false), tSl X8 ([])]) zr25 (fun _ => ⟨rfl, rfl, Q9 _ _, rfl, trivial⟩) (ltN rfl) fun b6 => ?_
 refine J.alloc (R := cTs [tIs (.bool false), tSl X8 ([])]) zr25 (fun _ => ⟨rfl, rfl, Q9 _ _, rfl, trivial⟩) (ltN rfl) fun b7 => ?_
 refine J.store (.t rfl) (.eq (.t rfl) (K2 (Ts := (iT (ofI ((X4 x).tdiv (X4 y))))) rfl)) (.there .here) sz25 (Z4 (Ts' := (iT (ofI ((X4 x).tdiv (X4 y))))) (o := 0) rfl) ?_
 refine J.store (.t rfl) (.eq (.t rfl) (K2 (Ts := (iT (ofI ((X4 x).tmod (X4 y))))) rfl)) .here sz25 (Z4 (Ts' := (iT (ofI ((X4 x).tmod (X4 y))))) (o := 0) rfl) (J.A rfl rfl (J.e (JC.seq (JC.g (J.M rfl rfl (J.o (U5 (.t rfl) .is) rfl (J.M rfl rfl ?_)))))))
 refine J.opg rfl rfl rfl (ltN rfl) (fun hg => oa (.t rfl) (.head _) ag25 (Q6 (g := zT) (y := (ofI ((X4 x).tmod (X4 y)))) rfl rfl)) rfl (ltN rfl) ?_
 refine J.opg rfl rfl rfl (ltN rfl) (fun hg => (by have hg' := hg; (try simp only [bsx] at hg'); exact X9 (T' := tIs (.bool (decide ((X4 x).tmod (X4 y) = 0)))) (oc fn119 (dzero_c (ofI ((X4 x).tmod (X4 y))) (by omega)) (.cons (.iff hg (.t rfl)) .nil)) (by rw [Y9]))) rfl (ltN rfl) ?_
 refine J.opg rfl rfl rfl (ltN rfl) (fun hg => ot_not (.iff hg (.t rfl))) rfl (ltN rfl) ?_
 refine J.o (R4 (.t rfl) (.t rfl) .is) rfl (J.e ?_)
 refine JC.cond (.t rfl) (fun hc0 => ?_) (fun hc0 => ?_)
 ·try simp only [bsx] at hc0
  have hs22 := hc0
  refine (JC.g ?_)
  refine J.o (X9 (T' := tV R9 (Z.mk false ([]))) (V7 (Ts := [tIs (.bool false), tSl X8 ([])]) pl25 (fun _ => ⟨rfl, rfl, Q9 _ _, rfl, trivial⟩) (.nil) rfl) (tV_F' rfl)) rfl ?_
  refine J.store (.t rfl) (.eq (.t rfl) (K2 (Ts := [tIs (.bool false), tSl X8 ([])]) rfl)) (.there (.there .here)) sz25 (Z4 (Ts' := [tIs (.bool false), tSl X8 ([])]) (o := 0) rfl) ?_
  refine J.a .is rfl (J.e (JC.ret (JQ.then_ret ?_)))
  have hnd : ¬ X4 y ∣ X4 x := fun h => (show ¬ (X4 x).tmod (X4 y) = 0 from by simpa using hs22) (Int.tmod_eq_zero_of_dvd h)
  exact JQ.ret2 rfl (.agg (.t rfl) (.tail _ (.tail _ (.head _))) ag25 (U3 (T := tV R9 (Z.mk false ([]))) (T' := tV R9 (if X4 y ∣ X4 x then ofI (X4 x / X4 y) else z0)) (by rw [if_neg hnd]; rfl) (Q6 (g := zT) (y := (Z.mk false ([]))) rfl rfl))) (.tmp (.eq (.t rfl) (by rw [if_neg hnd])))
 ·try simp only [bsx] at hc0
  have hs22 := hc0
  refine JC.skip (JQ.then_normal (JC.g (J.o (oa (.t rfl) (.tail _ (.head _)) ag25 (Q6 (g := zT) (y := (ofI ((X4 x).tdiv (X4 y)))) rfl rfl)) rfl (J.M rfl rfl ?_))))
  refine J.store (.t rfl) (.eq (.t rfl) (K2 (Ts := (iT (ofI ((X4 x).tdiv (X4 y))))) rfl)) (.there (.there .here)) sz25 (Z4 (Ts' := (iT (ofI ((X4 x).tdiv (X4 y))))) (o := 0) rfl) (J.A rfl rfl (J.e (JC.ret ?_)))
  have hdv : X4 y ∣ X4 x := Int.dvd_of_tmod_eq_zero (by simpa using hs22)
  exact JQ.ret2 rfl (.agg (.t rfl) (.tail _ (.tail _ (.head _))) ag25 (U3 (T := tV R9 (ofI ((X4 x).tdiv (X4 y)))) (T' := tV R9 (if X4 y ∣ X4 x then ofI (X4 x / X4 y) else z0)) (by rw [if_pos hdv, Int.tdiv_eq_ediv_of_dvd hdv]) (Q6 (g := zT) (y := (ofI ((X4 x).tdiv (X4 y)))) rfl rfl))) (.tmp (.eq (.t rfl) (by rw [if_pos hdv])))

theorem dgcdG_c (x : Z) (y : Z) (hlx : x.abs.length ≤ 1000000000000) (hly : y.abs.length ≤ 1000000000000) : Ctr Try.prog 117 [tV R9 x, tV R9 y] (tV R9 (ofI (Int.gcd (X4 x) (X4 y)))) := by
 refine Ctr.know 0 rfl (fun _ _ h => slP_encI h) fun hdx => ?_
 refine Ctr.know 1 rfl (fun _ _ h => slP_encI h) fun hdy => ?_
 have tx := trimD_len x.abs
 have ty := trimD_len y.abs
 have ex := W7 hdx
 have ey := W7 hdy
 refine Ctr.of Try.func117 rfl Try.ntmps117 (Nat.le_of_ble_eq_true rfl) fun w0 M0 => (JC.g ?_)
 refine J.boxF (Ts := (iT x)) (.t rfl) rfl (ltN rfl) fun b2 => ?_
 refine J.boxF (Ts := (iT y)) (.t rfl) rfl (ltN rfl) fun b3 => ?_
 refine J.alloc (R := cTs [tIs (.bool false), tSl X8 ([])]) zr25 (fun _ => ⟨rfl, rfl, Q9 _ _, rfl, trivial⟩) (ltN rfl) fun b4 => (J.e (JC.seq ?_))
 refine JC.draw (Γ' := ?g1) mo (by kernel_rfl) ?tw1 ?k1
 case tw1 =>
  refine TW.o (ofa (.t rfl) fd25_1) rfl (TW.o (ol (.t rfl) (.tail _ (.tail _ (.head _))) sc23 (Z8 rfl)) rfl ?_)
  refine TW.o (oc fn120 (natNormal_c x.abs (by omega)) (.cons (.t rfl) .nil)) rfl (TW.o (ofa (.t rfl) fd25_1) rfl (TW.o (ol (.t rfl) (.tail _ (.head _)) sc23 (Z8 rfl)) rfl ?_))
  refine TW.o (oc fn120 (natNormal_c y.abs (by omega)) (.cons (.t rfl) .nil)) rfl ?_
  refine TW.o (Y2 (.t rfl)) rfl ?_
  refine TW.o (Y2 (.t rfl)) rfl ?_
  exact TW.nil
 refine JQ.then_normal (JC.seq (JC.block ?_))
 refine JC.loop2 (α := Nat) (β := Nat) (fun m n => [(4, X7 b4 0), (5, tSl X8 (dig m)), (6, tSl X8 (dig n))]) (fun m n => [⟨b4, 25, cTs [tIs (.bool false), tSl X8 ([])]⟩, ⟨b3, 25, cTs (iT y)⟩, ⟨b2, 25, cTs (iT x)⟩]) (fun m n => (dig m).length ≤ 1000000000000 ∧ (dig n).length ≤ 1000000000000 ∧ Nat.gcd m n = Nat.gcd (val x.abs) (val y.abs)) (fun m n => n) (val x.abs) (val y.abs) ⟨by rw [← ex]; omega, by rw [← ey]; omega, rfl⟩ ?lsub0 ?round0
 case lsub0 => exact Q8 (X3 (.k (.k (.k .nil)))) (Z3 ⟨.t rfl, .eq (.t rfl) (by rw [ex]), .eq (.t rfl) (by rw [ey]), trivial⟩)
 intro m n hinv
 obtain ⟨hm, hn, hg⟩ := hinv
 have hlt : 0 < n → m % n < n := Nat.mod_lt m
 have hn0 := dig_len_pos (n := n)
 refine JC.seq (JC.g (J.M rfl rfl (J.o (Y8 (.t rfl) V9 rfl) rfl (J.o (ot_gtr (.t rfl) .is) rfl (J.e ?_)))))
 refine JC.cond (.t rfl) (fun hc0 => ?_) (fun hc0 => ?_)
 ·try simp only [bsx] at hc0
  have hs21 := hc0
  have hnp : 0 < n := Nat.pos_of_ne_zero (hn0.1 (by omega))
  refine JC.skip (JQ.then_normal (JC.block (JC.seq (JC.g (J.M rfl rfl ?_)))))
  refine J.o (X9 (T' := V5 [tIs (.int .u64 (if m < 18446744073709551616 then (m : Int) else 0)), tIs (.bool (decide (m < 18446744073709551616)))]) (oc fn127 (natUint64_c (dig m) (by omega)) (.cons (.t rfl) .nil)) (by rw [val_dig])) rfl (J.M rfl rfl ?_)
  refine J.o (Z1 (.t rfl) rfl) rfl ?_
  refine J.o (Z1 (.t rfl) rfl) rfl (J.A rfl rfl (J.A rfl rfl (J.e (JC.g (J.M rfl rfl (J.e ?_))))))
  refine JC.cond (.t rfl) (fun hc1 => ?_) (fun hc1 => ?_)
  ·try simp only [decide_eq_true_eq, decide_eq_false_iff_not] at hc1
   have hs27 := hc1
   refine (JC.g (J.M rfl rfl ?_))
   refine J.o (X9 (T' := V5 [tIs (.int .u64 (if n < 18446744073709551616 then (n : Int) else 0)), tIs (.bool (decide (n < 18446744073709551616)))]) (oc fn127 (natUint64_c (dig n) (by omega)) (.cons (.t rfl) .nil)) (by rw [val_dig])) rfl (J.M rfl rfl ?_)
   refine J.o (Z1 (.t rfl) rfl) rfl ?_
   refine J.o (Z1 (.t rfl) rfl) rfl (J.A rfl rfl (J.A rfl rfl (J.e (JC.g (J.M rfl rfl (J.e ?_))))))
   refine JC.cond (.t rfl) (fun hc2 => ?_) (fun hc2 => ?_)
   ·try simp only [decide_eq_true_eq, decide_eq_false_iff_not] at hc2
    have hs33 := hc2
    refine JC.seq (JC.block ?_)
    refine JC.loop2 (α := Nat) (β := Nat) (fun c d => [(4, X7 b4 0), (5, tSl X8 (dig m)), (6, tSl X8 (dig n)), (7, tIs (.int .u64 (c : Int))), (8, tIs (.bool (decide (m < 18446744073709551616)))), (9, tIs (.int .u64 (d : Int))), (10, tIs (.bool (decide (n < 18446744073709551616)))), (19, tSl X8 (dig n)), (20, tIs (.int .i64 (((dig n).length : Int)))), (21, tIs (.bool (decide (0 < ((dig n).length : Int))))), (22, V5 [tIs (.int .u64 (if m < 18446744073709551616 then (m : Int) else 0)), tIs (.bool (decide (m < 18446744073709551616)))]), (23, tSl X8 (dig m)), (24, V5 [tIs (.int .u64 (if m < 18446744073709551616 then (m : Int) else 0)), tIs (.bool (decide (m < 18446744073709551616)))]), (25, tIs (.int .u64 (if m < 18446744073709551616 then (m : Int) else 0))), (26, tIs (.bool (decide (m < 18446744073709551616)))), (27, tIs (.bool (decide (m < 18446744073709551616)))), (28, V5 [tIs (.int .u64 (if n < 18446744073709551616 then (n : Int) else 0)), tIs (.bool (decide (n < 18446744073709551616)))]), (29, tSl X8 (dig n)), (30, V5 [tIs (.int .u64 (if n < 18446744073709551616 then (n : Int) else 0)), tIs (.bool (decide (n < 18446744073709551616)))]), (31, tIs (.int .u64 (if n < 18446744073709551616 then (n : Int) else 0))), (32, tIs (.bool (decide (n < 18446744073709551616)))), (33, tIs (.bool (decide (n < 18446744073709551616))))]) (fun c d => [⟨b4, 25, cTs [tIs (.bool false), tSl X8 ([])]⟩, ⟨b3, 25, cTs (iT y)⟩, ⟨b2, 25, cTs (iT x)⟩]) (fun c d => c < 18446744073709551616 ∧ d < 18446744073709551616 ∧ Nat.gcd c d = Nat.gcd (val x.abs) (val y.abs)) (fun c d => d) m n ⟨hs27, hs33, hg⟩ ?lsub1 ?round1
    case lsub1 => exact Q8 (X3 (.k (.k (.k .nil)))) (Z3 ⟨.t rfl, .t rfl, .t rfl, .eq (.t rfl) (by rw [if_pos hs27]), .t rfl, .eq (.t rfl) (by rw [if_pos hs33]), .t rfl, .t rfl, .t rfl, .t rfl, .t rfl, .t rfl, .t rfl, .t rfl, .t rfl, .t rfl, .t rfl, .t rfl, .t rfl, .t rfl, .t rfl, .t rfl, trivial⟩)
    intro c d hinv
    obtain ⟨hc, hd, hg2⟩ := hinv
    have hlt2 : 0 < d → c % d < d := Nat.mod_lt c
    refine JC.seq (JC.g (J.M rfl rfl (J.o (ot_neq (.t rfl) .is) rfl (J.e ?_))))
    refine JC.cond (.t rfl) (fun hc3 => ?_) (fun hc3 => ?_)
    ·try simp only [bsx] at hc3
     have hs35 := hc3
     refine JC.skip (JQ.then_normal (JC.block ?_))
     refine JC.draw (Γ' := ?g2) mo (by kernel_rfl) ?tw2 ?k2
     case tw2 =>
      refine TW.M rfl rfl (TW.M rfl rfl (TW.M rfl rfl ?_))
      refine TW.o (ot_rem (.t rfl) (.t rfl) (by omega) w_rem) rfl ?_
      refine TW.o (Y2 (.t rfl)) rfl ?_
      refine TW.o (Y2 (.t rfl)) rfl ?_
      exact TW.nil
     refine JQ.block_normal ?_
     exact JQ.round2 (i := c) (i2 := d) d (c % d) ⟨hd, by have := hlt2 (by omega); omega, by rw [← hg2, Nat.gcd_comm c d, Nat.gcd_rec d c, Nat.gcd_comm]⟩ (hlt2 (by omega)) (Q8 (X3 (.k (.k (.k .nil)))) (Z3 ⟨.t rfl, .t rfl, .t rfl, .t rfl, .t rfl, .eq (.t rfl) (by first | rfl | (congr 3; omega) | (congr 2; omega)), .t rfl, .t rfl, .t rfl, .t rfl, .t rfl, .t rfl, .t rfl, .t rfl, .t rfl, .t rfl, .t rfl, .t rfl, .t rfl, .t rfl, .t rfl, .t rfl, trivial⟩))
    ·try simp only [bsx] at hc3
     have hs35 := hc3
     refine JC.exit (JQ.then_exit (JQ.then_exit (JQ.block_exit (JQ.then_normal (JC.g (J.M rfl rfl ?_))))))
     refine J.o (X9 (T' := tSl X8 (dig c)) (oc fn83 (natOf_c (c : Int) (by omega)) (.cons (.t rfl) .nil)) (by rw [Int.toNat_natCast])) rfl ?_
     refine J.o (oc fn107 (intFrom_c false (dig c) (by have := R8 (n := c) (k := 2) (by show c < B32 ^ 2; simp [B32]; omega); omega)) (.cons .is (.cons (.t rfl) .nil))) rfl ?_
     refine J.store (.t rfl) (.eq (.t rfl) (K2 (Ts := (iT (ofI (X4 (Z.mk false (dig c)))))) rfl)) .here sz25 (Z4 (Ts' := (iT (ofI (X4 (Z.mk false (dig c)))))) (o := 0) rfl) (J.e (JC.ret (JQ.then_ret (JQ.block_ret (JQ.then_ret (JQ.block_ret (JQ.then_ret ?_)))))))
     exact JQ.ret1 rfl (.agg (.t rfl) (.head _) ag25 (U3 (T := tV R9 (ofI (X4 (Z.mk false (dig c))))) (T' := tV R9 (ofI (Int.gcd (X4 x) (X4 y)))) (by rw [gcd_ret hg2 (by omega)]) (Q6 (g := zT) (y := (ofI (X4 (Z.mk false (dig c))))) rfl rfl)))
   ·try simp only [decide_eq_true_eq, decide_eq_false_iff_not] at hc2
    have hs33 := hc2
    refine JC.skip (JQ.then_normal (JC.g (J.M rfl rfl (J.M rfl rfl ?_))))
    refine J.o (X9 (T' := V5 [tSl X8 (dig (m / n)), tSl X8 (dig (m % n))]) (oc fn128 (longG_c (dig m) (dig n) hm hn (by rw [val_dig]; exact hnp)) (.cons (.t rfl) (.cons (.t rfl) .nil))) (by rw [val_dig, val_dig])) rfl (J.M rfl rfl ?_)
    refine J.o (Z1 (.t rfl) rfl) rfl ?_
    refine J.o (Z1 (.t rfl) rfl) rfl (J.A rfl rfl (J.A rfl rfl (J.e (JC.region (J.M rfl rfl (J.M rfl rfl (J.A rfl rfl (J.A rfl rfl (J.nil (JQ.block_normal ?_))))))))))
    exact JQ.round2 (i := m) (i2 := n) n (m % n) ⟨hn, Nat.le_trans (dig_len_mono (Nat.le_of_lt (hlt hnp))) hn, by rw [← hg, Nat.gcd_comm m n, Nat.gcd_rec n m, Nat.gcd_comm]⟩ (hlt hnp) (Q8 (X3 (.k (.k (.k .nil)))) (Z3 ⟨.t rfl, .t rfl, .t rfl, trivial⟩))
  ·try simp only [decide_eq_true_eq, decide_eq_false_iff_not] at hc1
   have hs27 := hc1
   refine JC.skip (JQ.then_normal (JC.g (J.M rfl rfl (J.M rfl rfl ?_))))
   refine J.o (X9 (T' := V5 [tSl X8 (dig (m / n)), tSl X8 (dig (m % n))]) (oc fn128 (longG_c (dig m) (dig n) hm hn (by rw [val_dig]; exact hnp)) (.cons (.t rfl) (.cons (.t rfl) .nil))) (by rw [val_dig, val_dig])) rfl (J.M rfl rfl ?_)
   refine J.o (Z1 (.t rfl) rfl) rfl ?_
   refine J.o (Z1 (.t rfl) rfl) rfl (J.A rfl rfl (J.A rfl rfl (J.e (JC.region (J.M rfl rfl (J.M rfl rfl (J.A rfl rfl (J.A rfl rfl (J.nil (JQ.block_normal ?_))))))))))
   exact JQ.round2 (i := m) (i2 := n) n (m % n) ⟨hn, Nat.le_trans (dig_len_mono (Nat.le_of_lt (hlt hnp))) hn, by rw [← hg, Nat.gcd_comm m n, Nat.gcd_rec n m, Nat.gcd_comm]⟩ (hlt hnp) (Q8 (X3 (.k (.k (.k .nil)))) (Z3 ⟨.t rfl, .t rfl, .t rfl, trivial⟩))
 ·try simp only [bsx] at hc0
  have hs21 := hc0
  have hnz : n = 0 := by rcases Nat.eq_zero_or_pos n with h | h; exact h; exact absurd (hn0.2 (by omega)) (by omega)
  refine JC.exit (JQ.then_exit (JQ.then_exit (JQ.block_exit (JQ.then_normal (JC.g (J.M rfl rfl ?_))))))
  refine J.o (oc fn107 (intFrom_c false (dig m) (by omega)) (.cons .is (.cons (.t rfl) .nil))) rfl ?_
  refine J.store (.t rfl) (.eq (.t rfl) (K2 (Ts := (iT (ofI (X4 (Z.mk false (dig m)))))) rfl)) .here sz25 (Z4 (Ts' := (iT (ofI (X4 (Z.mk false (dig m)))))) (o := 0) rfl) (J.e (JC.ret ?_))
  exact JQ.ret1 rfl (.agg (.t rfl) (.head _) ag25 (U3 (T := tV R9 (ofI (X4 (Z.mk false (dig m))))) (T' := tV R9 (ofI (Int.gcd (X4 x) (X4 y)))) (by rw [gcd_ret hg hnz]) (Q6 (g := zT) (y := (ofI (X4 (Z.mk false (dig m))))) rfl rfl)))

theorem rmul_c {B C D E : Nat} (k : Nat) (p q : Pol) (lp : Lev k p) (lq : Lev k q) (hp : Sz D p) (hq : Sz E q) (hk : k ≤ 4) (hD : 1 ≤ D ∧ 1 ≤ E ∧ D + E ≤ 4294967296) (np : nrm p < B32 ^ B) (nq : nrm q < B32 ^ C) (hb : B + C ≤ 100000000000) : Ctr Try.prog 75 [tV Q5 p, tV Q5 q] (tV Q5 (K3 k p q)) := by
 induction k using Nat.strongRecOn generalizing p q
 rename_i k ih
 have fp := hp.fit (by omega) np
 have fq := hq.fit (by omega) nq
 have npq := mul_fitN np nq
 have hpc := fp.c
 have hqc := fq.c
 refine Ctr.of Try.func75 rfl Try.ntmps75 (Nat.le_of_ble_eq_true rfl) fun w0 M0 => (JC.g ?_)
 refine J.boxF (Ts := (pT p)) (.t rfl) (Q0 _) (ltN rfl) fun b2 => ?_
 refine J.boxF (Ts := (pT q)) (.t rfl) (Q0 _) (ltN rfl) fun b3 => ?_
 refine J.alloc (R := cTs zP) W9 (fun _ => ⟨rfl, rfl, rfl, rfl, Q9 _ _, rfl, Q9 _ _, rfl, trivial⟩) (ltN rfl) fun b4 => (J.e (JC.seq (JC.g (J.o (ofa (.t rfl) T1) rfl (J.o (ol (.t rfl) (.tail _ (.head _)) sc3 (Z8 rfl)) rfl (J.o (U5 (.t rfl) .is) rfl (J.e ?_)))))))
 refine JC.cond (.t rfl) (fun hc0 => ?_) (fun hc0 => ?_)
 ·try simp only [bsx] at hc0
  have hs15 := hc0
  refine (JC.g (J.o (oa (.t rfl) (.tail _ (.tail _ (.head _))) Z9 (Q6 (g := Y4) (y := p) (Q0 p).symm rfl)) rfl (J.o (ofa (.t rfl) fd28_1) rfl (J.o (oa (.t rfl) (.tail _ (.head _)) ag25 (Q6 (g := zT) (y := q.c) rfl rfl)) rfl ?_))))
  refine J.o (oc fn79 (scale_c p q.c fp fq.d (by omega)) (.cons (.t rfl) (.cons (.t rfl) .nil))) rfl ?_
  refine J.store (.t rfl) (.eq (.t rfl) (K2 (Ts := (pT (Z2 p (X4 q.c)))) (Q0 _))) .here U4 (Z4 (Ts' := (pT (Z2 p (X4 q.c)))) (o := 0) rfl) (J.e (JC.ret (JQ.then_ret ?_)))
  exact JQ.ret1 rfl (.agg (.t rfl) (.head _) Z9 (U3 (T := tV Q5 (Z2 p (X4 q.c))) (T' := tV Q5 (K3 k p q)) (by rw [mulF_q hs15]) (Q6 (g := Y4) (y := (Z2 p (X4 q.c))) (Q0 (Z2 p (X4 q.c))).symm rfl)))
 ·try simp only [bsx] at hc0
  have hs15 := hc0
  refine JC.skip (JQ.then_normal (JC.seq (JC.g (J.o (ofa (.t rfl) T1) rfl (J.o (ol (.t rfl) (.tail _ (.tail _ (.head _))) sc3 (Z8 rfl)) rfl (J.o (U5 (.t rfl) .is) rfl (J.e ?_)))))))
  refine JC.cond (.t rfl) (fun hc1 => ?_) (fun hc1 => ?_)
  ·try simp only [bsx] at hc1
   have hs22 := hc1
   refine (JC.g (J.o (oa (.t rfl) (.tail _ (.head _)) Z9 (Q6 (g := Y4) (y := q) (Q0 q).symm rfl)) rfl (J.o (ofa (.t rfl) fd28_1) rfl (J.o (oa (.t rfl) (.tail _ (.tail _ (.head _))) ag25 (Q6 (g := zT) (y := p.c) rfl rfl)) rfl ?_))))
   refine J.o (oc fn79 (scale_c q p.c fq fp.d (by omega)) (.cons (.t rfl) (.cons (.t rfl) .nil))) rfl ?_
   refine J.store (.t rfl) (.eq (.t rfl) (K2 (Ts := (pT (Z2 q (X4 p.c)))) (Q0 _))) .here U4 (Z4 (Ts' := (pT (Z2 q (X4 p.c)))) (o := 0) rfl) (J.e (JC.ret (JQ.then_ret ?_)))
   exact JQ.ret1 rfl (.agg (.t rfl) (.head _) Z9 (U3 (T := tV Q5 (Z2 q (X4 p.c))) (T' := tV Q5 (K3 k p q)) (by rw [mulF_p hs15 hs22]) (Q6 (g := Y4) (y := (Z2 q (X4 p.c))) (Q0 (Z2 q (X4 p.c))).symm rfl)))
  ·try simp only [bsx] at hc1
   have hs22 := hc1
   have h1 := lp.lv
   have h2 := lq.lv
   obtain ⟨m, hm⟩ : ∃ m, k = m + 1 := ⟨k - 1, by omega⟩
   obtain ⟨⟨a1, a2, a3, a4⟩, a5, a6⟩ := mul_parts (hm ▸ lp) (hm ▸ lq) hp hq hD.1 hD.2.1 hs15
   have nx := nrmL_coefs p (max (p.lv) (q.lv))
   have ny := nrmL_coefs q (max (p.lv) (q.lv))
   refine JC.skip (JQ.then_normal (JC.g (J.o (ofa (.t rfl) T1) rfl (J.o (ol (.t rfl) (.tail _ (.tail _ (.head _))) sc3 (Z8 rfl)) rfl (J.o (ofa (.t rfl) T1) rfl (J.o (ol (.t rfl) (.tail _ (.head _)) sc3 (Z8 rfl)) rfl ?_))))))
   refine J.o (ot_max (.t rfl) (.t rfl)) rfl (J.A rfl rfl (J.e (JC.seq ?_)))
   refine JC.draw (Γ' := ?g1) mo (by kernel_rfl) ?tw1 ?k1
   case tw1 =>
    refine TW.o (oa (.t rfl) (.tail _ (.tail _ (.head _))) Z9 (Q6 (g := Y4) (y := p) (Q0 p).symm rfl)) rfl (TW.M rfl rfl ?_)
    refine TW.o (oc fn105 (coefs_c p (max (p.lv) (q.lv)) fp.cs) (.cons (.t rfl) (.cons (.t rfl) .nil))) rfl (TW.o (oa (.t rfl) (.tail _ (.head _)) Z9 (Q6 (g := Y4) (y := q) (Q0 q).symm rfl)) rfl (TW.M rfl rfl ?_))
    refine TW.o (oc fn105 (coefs_c q (max (p.lv) (q.lv)) fq.cs) (.cons (.t rfl) (.cons (.t rfl) .nil))) rfl ?_
    refine TW.o (Y2 (.t rfl)) rfl ?_
    refine TW.o (Y2 (.t rfl)) rfl ?_
    exact TW.nil
   refine JQ.then_normal (JC.g (J.M rfl rfl (J.o (Y8 (.t rfl) W5 rfl) rfl (J.M rfl rfl (J.o (Y8 (.t rfl) W5 rfl) rfl ?_)))))
   refine J.o (Z6 (.t rfl) (.t rfl) (w64 (by omega) (by omega))) rfl ?_
   refine J.o (K4 (.t rfl) .is (w64 (by omega) (by omega))) rfl ?_
   refine J.make (E := Q5) (z := p0) (n := (Z0 p (max (p.lv) (q.lv))).length + (Z0 q (max (p.lv) (q.lv))).length - 1) W5 (.eq (.t rfl) (by congr 2; omega)) (.eq (.t rfl) (by congr 2; omega)) W9 (fun _ => encP_zero) (by decide) (by omega) (by omega) (ltN rfl) fun b44 => (J.A rfl rfl (J.e (JC.seq (JC.g (J.M rfl rfl (J.o (Y8 (.t rfl) W5 rfl) rfl ?_))))))
   refine J.m .is rfl (J.e (JC.block ?_))
   refine JC.loop (ι := Nat) (fun i => [(4, X7 b4 0), (5, tIs (.int .i64 (max (p.lv) (q.lv)))), (7, tSl Q5 (Z0 q (max (p.lv) (q.lv)))), (8, sIs b44 0 ((Z0 p (max (p.lv) (q.lv))).length + (Z0 q (max (p.lv) (q.lv))).length - 1) ((Z0 p (max (p.lv) (q.lv))).length + (Z0 q (max (p.lv) (q.lv))).length - 1)), (45, tSl Q5 (Z0 p (max (p.lv) (q.lv)))), (46, tIs (.int .i64 (((Z0 p (max (p.lv) (q.lv))).length : Int)))), (47, tIs (.int .i64 (i : Int)))]) (fun i => [⟨b44, 28, Y5 Q5 (convI (K3 m) (K0 4) (Z0 p (max (p.lv) (q.lv))) (Z0 q (max (p.lv) (q.lv))) i) ((Z0 p (max (p.lv) (q.lv))).length + (Z0 q (max (p.lv) (q.lv))).length - 1)⟩, ⟨b4, 28, cTs zP⟩, ⟨b3, 28, cTs (pT q)⟩, ⟨b2, 28, cTs (pT p)⟩]) (fun i => i ≤ (Z0 p (max (p.lv) (q.lv))).length) (fun i => (Z0 p (max (p.lv) (q.lv))).length - i) 0 (by omega) ?lsub0 ?round0
   case lsub0 => exact Q8 (X3 (.keep (fun _ _ h => by first | exact h | simpa using h) (.k (.k (.k .nil))))) (Z3 ⟨.t rfl, .t rfl, .t rfl, .t rfl, .t rfl, .t rfl, .eq (.t rfl) (by first | rfl | (congr 3; omega) | (congr 2; omega)), trivial⟩)
   intro i hinv
   refine (JC.g (J.o (Y6 (.t rfl) (.t rfl)) rfl (J.e (JC.seq ?_))))
   refine JC.cond (.t rfl) (fun hc2 => ?_) (fun hc2 => ?_)
   ·try simp only [bsx] at hc2
    have hs48 := hc2
    refine JC.skip (JQ.then_normal (JC.seq (JC.block (JC.g (J.M rfl rfl ?_)))))
    refine J.o (ixo (z := atP (Z0 p (max (p.lv) (q.lv))) i) (.t rfl) (.t rfl) W5 (by omega) (atP_at (by omega) (by omega))) rfl (J.o (lda (.t rfl) Z9 V0) rfl ?_)
    refine J.alloc (R := cTs zP) W9 (fun _ => ⟨rfl, rfl, rfl, rfl, Q9 _ _, rfl, Q9 _ _, rfl, trivial⟩) (ltN rfl) fun b10 => (J.A rfl rfl ?_)
    refine J.store (.t rfl) (.eq (.t rfl) (K2 (Ts := (pT (atP (Z0 p (max (p.lv) (q.lv))) i))) (Q0 _))) .here U4 (Z4 (Ts' := (pT (atP (Z0 p (max (p.lv) (q.lv))) i))) (o := 0) rfl) (J.e (JC.g (J.M rfl rfl (J.o (Y8 (.t rfl) W5 rfl) rfl ?_))))
    refine J.m .is rfl (J.e (JC.block ?_))
    refine JC.loop (ι := Nat) (fun j => [(4, X7 b4 0), (5, tIs (.int .i64 (max (p.lv) (q.lv)))), (7, tSl Q5 (Z0 q (max (p.lv) (q.lv)))), (8, sIs b44 0 ((Z0 p (max (p.lv) (q.lv))).length + (Z0 q (max (p.lv) (q.lv))).length - 1) ((Z0 p (max (p.lv) (q.lv))).length + (Z0 q (max (p.lv) (q.lv))).length - 1)), (9, tIs (.int .i64 (i : Int))), (10, X7 b10 0), (45, tSl Q5 (Z0 p (max (p.lv) (q.lv)))), (46, tIs (.int .i64 (((Z0 p (max (p.lv) (q.lv))).length : Int)))), (47, tIs (.int .i64 (i : Int))), (48, tIs (.bool (decide ((i : Int) < ((Z0 p (max (p.lv) (q.lv))).length : Int))))), (49, tIs (.int .i64 (i : Int))), (50, tPtr (cEnc Q5 (atP (Z0 p (max (p.lv) (q.lv))) i))), (51, tV Q5 (atP (Z0 p (max (p.lv) (q.lv))) i)), (52, tSl Q5 (Z0 q (max (p.lv) (q.lv)))), (53, tIs (.int .i64 (((Z0 q (max (p.lv) (q.lv))).length : Int)))), (54, tIs (.int .i64 (j : Int)))]) (fun j => [⟨b10, 28, cTs (pT (atP (Z0 p (max (p.lv) (q.lv))) i))⟩, ⟨b44, 28, Y5 Q5 (convJ (K3 m) (K0 4) (atP (Z0 p (max (p.lv) (q.lv))) i) i (Z0 q (max (p.lv) (q.lv))) j (convI (K3 m) (K0 4) (Z0 p (max (p.lv) (q.lv))) (Z0 q (max (p.lv) (q.lv))) i)) ((Z0 p (max (p.lv) (q.lv))).length + (Z0 q (max (p.lv) (q.lv))).length - 1)⟩, ⟨b4, 28, cTs zP⟩, ⟨b3, 28, cTs (pT q)⟩, ⟨b2, 28, cTs (pT p)⟩]) (fun j => j ≤ (Z0 q (max (p.lv) (q.lv))).length) (fun j => (Z0 q (max (p.lv) (q.lv))).length - j) 0 (by omega) ?lsub1 ?round1
    case lsub1 => exact Q8 (X3 (.k (.keep (fun _ _ h => by first | exact h | simpa using h) (.k (.k (.k .nil)))))) (Z3 ⟨.t rfl, .t rfl, .t rfl, .t rfl, .t rfl, .t rfl, .t rfl, .t rfl, .t rfl, .t rfl, .t rfl, .t rfl, .t rfl, .t rfl, .t rfl, .eq (.t rfl) (by first | rfl | (congr 3; omega) | (congr 2; omega)), trivial⟩)
    intro j hinv
    have hzl : (convJ (K3 m) (K0 4) (atP (Z0 p (max (p.lv) (q.lv))) i) i (Z0 q (max (p.lv) (q.lv))) j (convI (K3 m) (K0 4) (Z0 p (max (p.lv) (q.lv))) (Z0 q (max (p.lv) (q.lv))) i)).length = (Z0 p (max (p.lv) (q.lv))).length + (Z0 q (max (p.lv) (q.lv))).length - 1 := by rw [convJ_len, convI_len]
    refine (JC.g (J.o (Y6 (.t rfl) (.t rfl)) rfl (J.e (JC.seq ?_))))
    refine JC.cond (.t rfl) (fun hc3 => ?_) (fun hc3 => ?_)
    ·try simp only [bsx] at hc3
     have hs55 := hc3
     obtain ⟨e1, e2, e3⟩ := conv_at (k := m) (i := i) (j := j) (by omega) nx ny (by omega) (by omega) (by omega) (fun x hx => ⟨(a5 x hx).1, (a5 x hx).2.1⟩) (fun y hy => ⟨(a6 y hy).1, (a6 y hy).2.1⟩) hD.1 hD.2.1
     have xm := a5 _ (Y3 (cs := (Z0 p (max (p.lv) (q.lv)))) (i := i) (by omega))
     have ym := a6 _ (Y3 (cs := (Z0 q (max (p.lv) (q.lv)))) (i := j) (by omega))
     refine JC.skip (JQ.then_normal (JC.seq (JC.block (JC.g (J.M rfl rfl ?_)))))
     refine J.o (ixo (z := atP (Z0 q (max (p.lv) (q.lv))) j) (.t rfl) (.t rfl) W5 (by omega) (atP_at (by omega) (by omega))) rfl (J.o (lda (.t rfl) Z9 V0) rfl ?_)
     refine J.alloc (R := cTs zP) W9 (fun _ => ⟨rfl, rfl, rfl, rfl, Q9 _ _, rfl, Q9 _ _, rfl, trivial⟩) (ltN rfl) fun b12 => (J.A rfl rfl ?_)
     refine J.store (.t rfl) (.eq (.t rfl) (K2 (Ts := (pT (atP (Z0 q (max (p.lv) (q.lv))) j))) (Q0 _))) .here U4 (Z4 (Ts' := (pT (atP (Z0 q (max (p.lv) (q.lv))) j))) (o := 0) rfl) (J.e ?_)
     refine JC.drawAt (Γ' := ?g2) 15 mo (by kernel_rfl) ?tw2 ?k2
     case tw2 =>
      refine TW.M rfl rfl (TW.M rfl rfl (TW.M rfl rfl ?_))
      refine TW.o (Z6 (.t rfl) (.t rfl) (w64 (by omega) (by omega))) rfl (TW.M rfl rfl (TW.M rfl rfl (TW.M rfl rfl ?_)))
      refine TW.o (Z6 (.t rfl) (.t rfl) (w64 (by omega) (by omega))) rfl ?_
      refine TW.o (X9 (T' := X7 b44 (0 + (i + j) * 4)) (oix (.t rfl) (.t rfl) W5 (by omega) (by omega)) (Z7 (by omega))) rfl (TW.o (oa (.t rfl) (.tail _ (.tail _ (.head _))) Z9 (row_agg rfl (atP_some (by omega)))) rfl (TW.o (oa (.t rfl) (.tail _ (.head _)) Z9 (Q6 (g := Y4) (y := (atP (Z0 p (max (p.lv) (q.lv))) i)) (Q0 (atP (Z0 p (max (p.lv) (q.lv))) i)).symm rfl)) rfl (TW.o (oa (.t rfl) (.head _) Z9 (Q6 (g := Y4) (y := (atP (Z0 q (max (p.lv) (q.lv))) j)) (Q0 (atP (Z0 q (max (p.lv) (q.lv))) j)).symm rfl)) rfl ?_)))
      refine TW.o (oc fn75 (ih m (by omega) (atP (Z0 p (max (p.lv) (q.lv))) i) (atP (Z0 q (max (p.lv) (q.lv))) j) xm.1 ym.1 xm.2.1 ym.2.1 (by omega) (Nat.lt_of_le_of_lt xm.2.2 np) (Nat.lt_of_le_of_lt ym.2.2 nq)) (.cons (.t rfl) (.cons (.t rfl) .nil))) rfl ?_
      refine TW.o (oc fn72 (add_c 4 (atP (convJ (K3 m) (K0 4) (atP (Z0 p (max (p.lv) (q.lv))) i) i (Z0 q (max (p.lv) (q.lv))) j (convI (K3 m) (K0 4) (Z0 p (max (p.lv) (q.lv))) (Z0 q (max (p.lv) (q.lv))) i)) (i + j)) (K3 m (atP (Z0 p (max (p.lv) (q.lv))) i) (atP (Z0 q (max (p.lv) (q.lv))) j)) e1 ((Lev.mul m m (Nat.le_refl _) (by omega) xm.1 ym.1).mono (by omega)) (e2.fit hD.2.2 (Nat.lt_of_le_of_lt e3 npq)) ((Sz.mul hD.1 hD.2.1 m xm.2.1 ym.2.1).fit hD.2.2 (Nat.lt_of_le_of_lt (Nat.le_trans (nrm_mul m _ _) (Nat.mul_le_mul xm.2.2 ym.2.2)) npq)) (by omega)) (.cons (.t rfl) (.cons (.t rfl) .nil))) rfl ?_
      refine TW.o (X9 (T' := X7 b44 (0 + (i + j) * 4)) (oix (.t rfl) (.t rfl) W5 (by omega) (by omega)) (Z7 (by omega))) rfl ?_
      exact TW.nil
     refine J.store (.t rfl) (.t rfl) (.there (.there .here)) U4 (T4 (by omega)) (J.nil (JQ.block_normal (JQ.then_normal (JC.region ?_))))
     refine J.o (Z6 (.t rfl) .is (w64 (by omega) (by omega))) rfl (J.M rfl rfl (J.nil ?_))
     exact JQ.round (j + 1) (by omega) (by omega) (Q8 (X3 (.drop (.k (.keep (fun _ _ h => by first | exact h | simpa using h) (.k (.k (.k .nil))))))) (Z3 ⟨.t rfl, .t rfl, .t rfl, .t rfl, .t rfl, .t rfl, .t rfl, .t rfl, .t rfl, .t rfl, .t rfl, .t rfl, .t rfl, .t rfl, .t rfl, .eq (.t rfl) (by first | rfl | (congr 3; omega) | (congr 2; omega)), trivial⟩))
    ·try simp only [bsx] at hc3
     have hs55 := hc3
     refine JC.exit (JQ.then_exit (JQ.then_exit (JQ.block_exit (JQ.block_normal (JQ.then_normal (JC.region ?_))))))
     refine J.o (Z6 (.t rfl) .is (w64 (by omega) (by omega))) rfl (J.M rfl rfl (J.nil ?_))
     exact JQ.round (i + 1) (by omega) (by omega) (Q8 (X3 (.drop (.keep (K8 (by rw [convI, show j = (Z0 q (max (p.lv) (q.lv))).length by omega])) (.k (.k (.k .nil)))))) (Z3 ⟨.t rfl, .t rfl, .t rfl, .t rfl, .t rfl, .t rfl, .eq (.t rfl) (by first | rfl | (congr 3; omega) | (congr 2; omega)), trivial⟩))
   ·try simp only [bsx] at hc2
    have hs48 := hc2
    have hin : i = (Z0 p (max (p.lv) (q.lv))).length := by omega
    have hce := conv_end (k := m) (by omega) nx ny (fun x hx => ⟨(a5 x hx).1, (a5 x hx).2.1⟩) (fun y hy => ⟨(a6 y hy).1, (a6 y hy).2.1⟩) hD.1 hD.2.1
    refine JC.exit (JQ.then_exit (JQ.then_exit (JQ.block_exit (JQ.then_normal (JC.seq ?_)))))
    refine JC.weak (U9 (E := Q5) (xs := convI (K3 m) (K0 4) (Z0 p (max (p.lv) (q.lv))) (Z0 q (max (p.lv) (q.lv))) i) (n := (Z0 p (max (p.lv) (q.lv))).length + (Z0 q (max (p.lv) (q.lv))).length - 1) (c := (Z0 p (max (p.lv) (q.lv))).length + (Z0 q (max (p.lv) (q.lv))).length - 1) [8] ⟨rfl, trivial⟩ .here (by rw [convI_len]) (by omega)) (JC.region (J.M rfl rfl (J.M rfl rfl ?_)))
    refine J.o (oc fn103 (join_c (max (p.lv) (q.lv)) (convI (K3 m) (K0 4) (Z0 p (max (p.lv) (q.lv))) (Z0 q (max (p.lv) (q.lv))) i) (by rw [convI_len]; omega) (fun z hz => Nat.le_trans ((hce z (hin ▸ hz)).1.fit hD.2.2 (Nat.lt_of_le_of_lt (hce z (hin ▸ hz)).2 npq)).c (by omega))) (.cons (.t rfl) (.cons (.t rfl) .nil))) rfl ?_
    refine J.store (.t rfl) (.eq (.t rfl) (K2 (Ts := (pT (U0 (max (p.lv) (q.lv)) (convI (K3 m) (K0 4) (Z0 p (max (p.lv) (q.lv))) (Z0 q (max (p.lv) (q.lv))) i)))) (Q0 _))) .here U4 (Z4 (Ts' := (pT (U0 (max (p.lv) (q.lv)) (convI (K3 m) (K0 4) (Z0 p (max (p.lv) (q.lv))) (Z0 q (max (p.lv) (q.lv))) i)))) (o := 0) rfl) (J.e (JC.ret ?_))
    exact JQ.ret1 rfl (.agg (.t rfl) (.head _) Z9 (U3 (T := tV Q5 (U0 (max (p.lv) (q.lv)) (convI (K3 m) (K0 4) (Z0 p (max (p.lv) (q.lv))) (Z0 q (max (p.lv) (q.lv))) i))) (T' := tV Q5 (K3 k p q)) (by rw [hin, hm, mulF_join hs15 hs22]) (Q6 (g := Y4) (y := (U0 (max (p.lv) (q.lv)) (convI (K3 m) (K0 4) (Z0 p (max (p.lv) (q.lv))) (Z0 q (max (p.lv) (q.lv))) i))) (Q0 (U0 (max (p.lv) (q.lv)) (convI (K3 m) (K0 4) (Z0 p (max (p.lv) (q.lv))) (Z0 q (max (p.lv) (q.lv))) i))).symm rfl)))

theorem rnormalG_c {B : Nat} (p : Pol) (hf : Fit B p) (np : nrm p < B32 ^ B) (hcn : cnt p ≤ 1000000000) (hb : B ≤ 1000000000) : Ctr Try.prog 45 [tV Q5 p] (tV Q5 (W3 p)) := by
 induction p using Pol.ind
 rename_i p ih
 have hc := hf.c
 have hcs := hf.cs
 have hpc := cnt_eq p
 have hcl := cntL_len p.cs
 refine Ctr.of Try.func45 rfl Try.ntmps45 (Nat.le_of_ble_eq_true rfl) fun w0 M0 => (JC.g ?_)
 refine J.boxF (Ts := (pT p)) (.t rfl) (Q0 _) (ltN rfl) fun b1 => ?_
 refine J.alloc (R := cTs zP) W9 (fun _ => ⟨rfl, rfl, rfl, rfl, Q9 _ _, rfl, Q9 _ _, rfl, trivial⟩) (ltN rfl) fun b2 => (J.e (JC.seq (JC.g (J.o (ofa (.t rfl) T1) rfl (J.o (ol (.t rfl) (.tail _ (.head _)) sc3 (Z8 rfl)) rfl (J.o (ot_leq (.t rfl) .is) rfl (J.e ?_)))))))
 refine JC.cond (.t rfl) (fun hc0 => ?_) (fun hc0 => ?_)
 ·try simp only [bsx] at hc0
  have hs8 := hc0
  refine (JC.g (J.o (ofa (.t rfl) fd28_1) rfl (J.o (oa (.t rfl) (.tail _ (.head _)) ag25 (Q6 (g := zT) (y := p.c) rfl rfl)) rfl ?_)))
  refine J.o (oc fn81 (intNormal_c p.c (by omega)) (.cons (.t rfl) .nil)) rfl ?_
  refine J.o (X9 (T' := tV Q5 (Pol.mk 0 (ofI (X4 p.c)) ([]))) (V7 (Ts := zP) pl28 (fun _ => ⟨rfl, rfl, rfl, rfl, Q9 _ _, rfl, Q9 _ _, rfl, trivial⟩) ((.agg (off := 1) rfl (.eq (.t rfl) (K2 (Ts := (iT (ofI (X4 p.c)))) rfl)) (Ts' := [tIs (.int .i64 0), tIs (.bool ((ofI (X4 p.c)).neg)), tSl X8 ((ofI (X4 p.c)).abs), tSl Q5 ([])]) rfl rfl .nil)) rfl) (tV_F' (Q0 _))) rfl ?_
  refine J.store (.t rfl) (.eq (.t rfl) (K2 (Ts := [tIs (.int .i64 0), tIs (.bool ((ofI (X4 p.c)).neg)), tSl X8 ((ofI (X4 p.c)).abs), tSl Q5 ([])]) (Q0 _))) .here U4 (Z4 (Ts' := [tIs (.int .i64 0), tIs (.bool ((ofI (X4 p.c)).neg)), tSl X8 ((ofI (X4 p.c)).abs), tSl Q5 ([])]) (o := 0) rfl) (J.e (JC.ret (JQ.then_ret ?_)))
  exact JQ.ret1 rfl (.agg (.t rfl) (.head _) Z9 (U3 (T := tV Q5 (Pol.mk 0 (ofI (X4 p.c)) ([]))) (T' := tV Q5 (W3 p)) (by rw [normN_eq, if_pos hc0]; rfl) (Q6 (g := Y4) (y := (Pol.mk 0 (ofI (X4 p.c)) ([]))) (Q0 (Pol.mk 0 (ofI (X4 p.c)) ([]))).symm rfl)))
 ·try simp only [bsx] at hc0
  have hs8 := hc0
  refine JC.skip (JQ.then_normal (JC.seq (JC.g (J.o (ofa (.t rfl) T1) rfl (J.o (ol (.t rfl) (.tail _ (.head _)) sc3 (Z8 rfl)) rfl (J.o (ot_gtr (.t rfl) .is) rfl (J.e ?_)))))))
  refine JC.cond (.t rfl) (fun hc1 => ?_) (fun hc1 => ?_)
  ·try simp only [bsx] at hc1
   have hs15 := hc1
   refine (JC.g ?_)
   refine J.o (X9 (T' := tV Q5 (Pol.mk 0 (Z.mk false ([])) ([]))) (V7 (Ts := zP) pl28 (fun _ => ⟨rfl, rfl, rfl, rfl, Q9 _ _, rfl, Q9 _ _, rfl, trivial⟩) (.nil) rfl) (tV_F' (Q0 _))) rfl ?_
   refine J.store (.t rfl) (.eq (.t rfl) (K2 (Ts := zP) (Q0 _))) .here U4 (Z4 (Ts' := zP) (o := 0) rfl) (J.e (JC.ret (JQ.then_ret ?_)))
   exact JQ.ret1 rfl (.agg (.t rfl) (.head _) Z9 (U3 (T := tV Q5 (Pol.mk 0 (Z.mk false ([])) ([]))) (T' := tV Q5 (W3 p)) (by rw [normN_eq, if_neg hc0, if_pos hc1]; rfl) (Q6 (g := Y4) (y := (Pol.mk 0 (Z.mk false ([])) ([]))) (Q0 (Pol.mk 0 (Z.mk false ([])) ([]))).symm rfl)))
  ·try simp only [bsx] at hc1
   have hs15 := hc1
   refine JC.skip (JQ.then_normal (JC.seq (JC.g (J.o (oa (.t rfl) (.tail _ (.head _)) Z9 (Q6 (g := Y4) (y := p) (Q0 p).symm rfl)) rfl ?_))))
   refine J.o (oc fn88 (canonical_c p 5 hf (by omega)) (.cons (.t rfl) (.cons .is .nil))) rfl (J.e ?_)
   refine JC.cond (.t rfl) (fun hc2 => ?_) (fun hc2 => ?_)
   ·try simp only [bsx] at hc2
    have hs18 := hc2
    refine (JC.g (J.o (oa (.t rfl) (.tail _ (.head _)) Z9 (Q6 (g := Y4) (y := p) (Q0 p).symm rfl)) rfl ?_))
    refine J.o (oc fn89 (copied_c p hf (by omega)) (.cons (.t rfl) .nil)) rfl ?_
    refine J.store (.t rfl) (.eq (.t rfl) (K2 (Ts := (pT (Z2 p 1))) (Q0 _))) .here U4 (Z4 (Ts' := (pT (Z2 p 1))) (o := 0) rfl) (J.e (JC.ret (JQ.then_ret ?_)))
    exact JQ.ret1 rfl (.agg (.t rfl) (.head _) Z9 (U3 (T := tV Q5 (Z2 p 1)) (T' := tV Q5 (W3 p)) (by rw [normN_eq, if_neg hc0, if_neg hc1, if_pos hs18]) (Q6 (g := Y4) (y := (Z2 p 1)) (Q0 (Z2 p 1)).symm rfl)))
   ·try simp only [bsx] at hc2
    have hs18 := hc2
    refine JC.skip (JQ.then_normal (JC.g ?_))
    refine J.o (X9 (T' := tV Q5 (Pol.mk 0 (Z.mk false ([])) ([]))) (V7 (Ts := zP) pl28 (fun _ => ⟨rfl, rfl, rfl, rfl, Q9 _ _, rfl, Q9 _ _, rfl, trivial⟩) (.nil) rfl) (tV_F' (Q0 _))) rfl (J.o (ofa (.t rfl) T1) rfl (J.o (ol (.t rfl) (.tail _ (.head _)) sc3 (Z8 rfl)) rfl ?_))
    refine J.o (oc fn55 (var_c p.lv ) (.cons (.t rfl) .nil)) rfl ?_
    refine J.alloc (R := cTs zP) W9 (fun _ => ⟨rfl, rfl, rfl, rfl, Q9 _ _, rfl, Q9 _ _, rfl, trivial⟩) (ltN rfl) fun b3 => ?_
    refine J.alloc (R := cTs zP) W9 (fun _ => ⟨rfl, rfl, rfl, rfl, Q9 _ _, rfl, Q9 _ _, rfl, trivial⟩) (ltN rfl) fun b4 => ?_
    refine J.store (.t rfl) (.eq (.t rfl) (K2 (Ts := zP) (Q0 _))) (.there .here) U4 (Z4 (Ts' := zP) (o := 0) rfl) ?_
    refine J.store (.t rfl) (.eq (.t rfl) (K2 (Ts := (pT (varP p.lv))) (Q0 _))) .here U4 (Z4 (Ts' := (pT (varP p.lv))) (o := 0) rfl) (J.e (JC.seq (JC.g (J.o (ofa (.t rfl) fd28_2) rfl (J.o (ol (.t rfl) (.tail _ (.tail _ (.tail _ (.head _)))) sc26 (Z8 rfl)) rfl (J.o (Y8 (.t rfl) W5 rfl) rfl ?_))))))
    refine J.o (K4 (.t rfl) .is (w64 (by omega) (by omega))) rfl (J.A rfl rfl (J.e (JC.block ?_)))
    refine JC.loop (ι := Nat) (fun k => [(1, X7 b1 0), (2, X7 b2 0), (3, X7 b3 0), (4, X7 b4 0), (5, tIs (.int .i64 ((k : Int) - 1)))]) (fun k => [⟨b4, 28, cTs (pT (varP p.lv))⟩, ⟨b3, 28, cTs (pT (hornN (varP p.lv) (p.cs.drop k)))⟩, ⟨b2, 28, cTs zP⟩, ⟨b1, 28, cTs (pT p)⟩]) (fun k => k ≤ p.cs.length) (fun k => k) p.cs.length (by omega) ?lsub0 ?round0
    case lsub0 => exact Q8 (X3 (.k (.keep (fun _ _ h => by rw [List.drop_length]; exact h) (.k (.k .nil))))) (Z3 ⟨.t rfl, .t rfl, .t rfl, .t rfl, .eq (.t rfl) (by first | rfl | (congr 3; omega) | (congr 2; omega)), trivial⟩)
    intro k hinv
    obtain ⟨e1, e2, e3⟩ := horn_facts p hinv
    have v1 := nrm_var p.lv
    refine JC.seq (JC.g (J.M rfl rfl (J.o (ot_geq (.t rfl) .is) rfl (J.e ?_))))
    refine JC.cond (.t rfl) (fun hc3 => ?_) (fun hc3 => ?_)
    ·try simp only [bsx] at hc3
     have hs30 := hc3
     have hm := Y3 (cs := p.cs) (i := k - 1) (by omega)
     have hcm := cntL_mem hm
     have hnm := nrmL_sub hm
     have hnN := nrm_norm (atP p.cs (k - 1))
     refine JC.skip (JQ.then_normal (JC.seq (JC.block ?_)))
     refine JC.drawAt (Γ' := ?g1) 10 mo (by kernel_rfl) ?tw1 ?k1
     case tw1 =>
      refine TW.o (oa (.t rfl) (.tail _ (.head _)) Z9 (Q6 (g := Y4) (y := (hornN (varP p.lv) (p.cs.drop k))) (Q0 (hornN (varP p.lv) (p.cs.drop k))).symm rfl)) rfl (TW.o (oa (.t rfl) (.head _) Z9 (Q6 (g := Y4) (y := (varP p.lv)) (Q0 (varP p.lv)).symm rfl)) rfl ?_)
      refine TW.o (oc fn75 (rmul_c 4 (hornN (varP p.lv) (p.cs.drop k)) (varP p.lv) e1 (lev_var _) e2 (sz_var _) (Nat.le_refl _) ⟨by omega, by decide, by omega⟩ (Nat.lt_of_le_of_lt e3 np) (show nrm (varP p.lv) < B32 ^ 1 by simp [B32]; omega) (by omega)) (.cons (.t rfl) (.cons (.t rfl) .nil))) rfl (TW.o (ofa (.t rfl) fd28_2) rfl (TW.o (ol (.t rfl) (.tail _ (.tail _ (.tail _ (.head _)))) sc26 (Z8 rfl)) rfl (TW.M rfl rfl ?_)))
      refine TW.o (ixo (z := atP p.cs (k - 1)) (.t rfl) (.t rfl) W5 (by omega) (atP_at (by omega) (by omega))) rfl (TW.o (lda (.t rfl) Z9 V0) rfl ?_)
      refine TW.o (oc fn45 (ih (atP p.cs (k - 1)) hm (hf.sub _ hm) (Nat.lt_of_le_of_lt hnm np) (by omega)) (.cons (.t rfl) .nil)) rfl ?_
      refine TW.o (oc fn72 (add_c 4 (K3 4 (hornN (varP p.lv) (p.cs.drop k)) (varP p.lv)) (W3 (atP p.cs (k - 1))) (Lev.mul 4 4 (Nat.le_refl _) (Nat.le_refl _) e1 (lev_var _)) (lev_norm _) ((Sz.mul (by omega) (by decide) 4 e2 (sz_var _)).fit (by omega) (mul_fitN (C := 1) (Nat.lt_of_le_of_lt e3 np) (show nrm (varP p.lv) < B32 ^ 1 by simp [B32]; omega) |> Nat.lt_of_le_of_lt (nrm_mul _ _ _))) ((sz_norm _).fit (by omega) (Nat.lt_of_lt_of_le (Nat.lt_of_le_of_lt (Nat.le_trans hnN hnm) np) (pow_mono (Nat.le_succ B)))) (by omega)) (.cons (.t rfl) (.cons (.t rfl) .nil))) rfl ?_
      exact TW.nil
     refine J.store (.t rfl) (.eq (.t rfl) (K2 (Ts := (pT (K0 4 (K3 4 (hornN (varP p.lv) (p.cs.drop k)) (varP p.lv)) (W3 (atP p.cs (k - 1)))))) (Q0 _))) (.there .here) U4 (Z4 (Ts' := (pT (K0 4 (K3 4 (hornN (varP p.lv) (p.cs.drop k)) (varP p.lv)) (W3 (atP p.cs (k - 1)))))) (o := 0) rfl) (J.nil (JQ.block_normal (JQ.then_normal (JC.region (J.M rfl rfl ?_)))))
     refine J.o (K4 (.t rfl) .is (w64 (by omega) (by omega))) rfl (J.A rfl rfl (J.nil ?_))
     exact JQ.round (k - 1) (by omega) (by omega) (Q8 (X3 (.k (.keep (fun _ _ h => by rw [← hornN_drop (by omega) hinv]; exact h) (.k (.k .nil))))) (Z3 ⟨.t rfl, .t rfl, .t rfl, .t rfl, .eq (.t rfl) (by first | rfl | (congr 3; omega) | (congr 2; omega)), trivial⟩))
    ·try simp only [bsx] at hc3
     have hs30 := hc3
     refine JC.exit (JQ.then_exit (JQ.then_exit (JQ.block_exit (JQ.then_normal (JC.g (J.o (oa (.t rfl) (.tail _ (.head _)) Z9 (Q6 (g := Y4) (y := (hornN (varP p.lv) (p.cs.drop k))) (Q0 (hornN (varP p.lv) (p.cs.drop k))).symm rfl)) rfl ?_))))))
     refine J.store (.t rfl) (.eq (.t rfl) (K2 (Ts := (pT (hornN (varP p.lv) (p.cs.drop k)))) (Q0 _))) (.there (.there .here)) U4 (Z4 (Ts' := (pT (hornN (varP p.lv) (p.cs.drop k)))) (o := 0) rfl) (J.e (JC.ret ?_))
     exact JQ.ret1 rfl (.agg (.t rfl) (.tail _ (.tail _ (.head _))) Z9 (U3 (T := tV Q5 (hornN (varP p.lv) (p.cs.drop k))) (T' := tV Q5 (W3 p)) (by rw [normN_eq, if_neg hc0, if_neg hc1, if_neg (by simpa using hs18), show k = 0 by omega, List.drop_zero]) (Q6 (g := Y4) (y := (hornN (varP p.lv) (p.cs.drop k))) (Q0 (hornN (varP p.lv) (p.cs.drop k))).symm rfl)))

theorem swap_c (b c p q n : Nat) (xs : List Tm) (h : p + n ≤ q ∧ q + n ≤ xs.length) (hl : xs.length ≤ 4294967296) : CtrL Try.prog 140 [sIs b 0 (xs.length) c, tIs (.int .i64 (p : Int)), tIs (.int .i64 (q : Int)), tIs (.int .i64 (n : Int)), tFn 111 []] b 97 (Y5 X5 xs c) (Y5 X5 (swR p q n xs) c) K5 := by
 refine CtrL.of Try.func140 rfl Try.ntmps140 (Nat.le_of_ble_eq_true rfl) fun w0 M0 => (JC.g ?_)
 refine J.a .is rfl (J.e (JC.block ?_))
 refine JC.loop (ι := Nat) (fun i => [(0, sIs b 0 (xs.length) c), (1, tIs (.int .i64 (p : Int))), (2, tIs (.int .i64 (q : Int))), (3, tIs (.int .i64 (n : Int))), (10, tIs (.int .i64 (i : Int)))]) (fun i => [⟨b, 97, Y5 X5 (swR p q i xs) c⟩]) (fun i => i ≤ n) (fun i => n - i) 0 (by omega) ?lsub0 ?round0
 case lsub0 => exact Q8 (X3 (.keep (fun _ _ h => by first | exact h | simpa using h) .nil)) (Z3 ⟨.t rfl, .t rfl, .t rfl, .t rfl, .eq (.t rfl) (by rfl), trivial⟩)
 intro i hinv
 have hwl := swR_len p q i xs
 refine JC.seq (JC.g (J.M rfl rfl (J.M rfl rfl (J.o (Y6 (.t rfl) (.t rfl)) rfl (J.e ?_)))))
 refine JC.cond (.t rfl) (fun hc0 => ?_) (fun hc0 => ?_)
 ·try simp only [bsx] at hc0
  have hs13 := hc0
  refine JC.skip (JQ.then_normal (JC.seq (JC.block ?_)))
  refine JC.drawF (Γ' := ?g1) (Γf := ?f1) (L' := ?l1) 21 [4, 5, 6, 7] mo (by kernel_rfl) (by kernel_rfl) (fun _ _ _ _ _ h => h) ?fl1 ?tk1 ?tw1 ?ag1 ?k1
  case fl1 =>
   refine FL.cons (i := 4) rfl rfl (ltN rfl) rfl (opv_move rfl) (by kernel_rfl) (by kernel_rfl) ?_
   refine FL.cons (i := 5) rfl rfl (ltN rfl) rfl (opv_move rfl) (by kernel_rfl) (by kernel_rfl) ?_
   refine FL.cons (i := 6) rfl rfl (ltN rfl) rfl (opv_move rfl) (by kernel_rfl) (by kernel_rfl) ?_
   refine FL.cons (i := 7) rfl rfl (ltN rfl) rfl (opv_add rfl rfl (w64 (by omega) (by omega))) (by kernel_rfl) (by kernel_rfl) ?_
   exact FL.nil
  case tk1 => kernel_rfl
  case tw1 =>
   refine TW.M rfl rfl (TW.M rfl rfl (TW.M rfl rfl ?_))
   refine TW.o (Z6 (.t rfl) (.t rfl) (w64 (by omega) (by omega))) rfl (TW.M rfl rfl (TW.M rfl rfl (TW.M rfl rfl ?_)))
   refine TW.o (Z6 (.t rfl) (.t rfl) (w64 (by omega) (by omega))) rfl (TW.M rfl rfl (TW.M rfl rfl (TW.M rfl rfl ?_)))
   refine TW.o (Z6 (.t rfl) (.t rfl) (w64 (by omega) (by omega))) rfl ?_
   refine TW.o (X9 (T' := X7 b (0 + (q + i) * 6)) (oix (.t rfl) (.t rfl) sl53 (by omega) (by omega)) (Z7 (by omega))) rfl (TW.o (oa (.t rfl) (.head _) ag97 (row_agg rfl (atT_some (by omega)))) rfl (TW.M rfl rfl (TW.M rfl rfl (TW.M rfl rfl ?_))))
   refine TW.o (Z6 (.t rfl) (.t rfl) (w64 (by omega) (by omega))) rfl ?_
   refine TW.o (X9 (T' := X7 b (0 + (p + i) * 6)) (oix (.t rfl) (.t rfl) sl53 (by omega) (by omega)) (Z7 (by omega))) rfl (TW.o (oa (.t rfl) (.head _) ag97 (row_agg rfl (atT_some (by omega)))) rfl ?_)
   refine TW.o (X9 (T' := X7 b (0 + (p + i) * 6)) (oix (.t rfl) (.t rfl) sl53 (by omega) (by omega)) (Z7 (by omega))) rfl ?_
   exact TW.nil
  case ag1 => exact ⟨⟨_, rfl, rfl⟩, ⟨_, rfl, rfl⟩, ⟨_, rfl, rfl⟩, ⟨_, rfl, rfl⟩, trivial⟩
  refine J.store (.t rfl) (.t rfl) .here sz97 (T4 (by omega)) ?_
  refine J.o (X9 (T' := X7 b (0 + (q + i) * 6)) (oix (.t rfl) (.t rfl) sl53 (by omega) (by omega)) (Z7 (by omega))) rfl ?_
  refine J.store (.t rfl) (.t rfl) .here sz97 (T4 (by simp; omega)) (J.nil (JQ.block_normal (JQ.then_normal (JC.region (J.M rfl rfl ?_)))))
  refine J.o (Z6 (.t rfl) .is (w64 (by omega) (by omega))) rfl (J.A rfl rfl (J.nil ?_))
  exact JQ.round (i + 1) (by omega) (by omega) (Q8 (X3 (.k .nil)) (Z3 ⟨.t rfl, .t rfl, .t rfl, .t rfl, .eq (.t rfl) (by first | rfl | (congr 3; omega) | (congr 2; omega)), trivial⟩))
 ·try simp only [bsx] at hc0
  have hs13 := hc0
  refine JC.exit (JQ.then_exit (JQ.then_exit (JQ.block_exit ?_)))
  exact (JQ.retL0 rfl (.head _) (K8 (by rw [show i = n by omega]))).2

theorem rotate_c (b c lo md hi : Nat) (xs : List Tm) (h : lo < md ∧ md < hi ∧ hi ≤ xs.length) (hl : xs.length ≤ 4294967296) : CtrL Try.prog 136 [sIs b 0 (xs.length) c, tIs (.int .i64 (lo : Int)), tIs (.int .i64 (md : Int)), tIs (.int .i64 (hi : Int)), tFn 111 []] b 97 (Y5 X5 xs c) (Y5 X5 (rotT md lo hi xs) c) K5 := by
 refine CtrL.of Try.func136 rfl Try.ntmps136 (Nat.le_of_ble_eq_true rfl) fun w0 M0 => (JC.g (J.M rfl rfl (J.M rfl rfl ?_)))
 refine J.o (K4 (.t rfl) (.t rfl) (w64 (by omega) (by omega))) rfl (J.A rfl rfl (J.e (JC.g (J.M rfl rfl (J.M rfl rfl ?_)))))
 refine J.o (K4 (.t rfl) (.t rfl) (w64 (by omega) (by omega))) rfl (J.A rfl rfl (J.e (JC.seq (JC.block ?_))))
 refine JC.loop4 (α := Nat) (β := Nat) (γ := Nat) (δ := List Tm) (fun i j f ys => [(0, sIs b 0 (xs.length) c), (2, tIs (.int .i64 (md : Int))), (4, tFn 111 []), (10, tIs (.int .i64 (i : Int))), (11, tIs (.int .i64 (j : Int)))]) (fun i j f ys => [⟨b, 97, Y5 X5 ys c⟩]) (fun i j f ys => 0 < i ∧ 0 < j ∧ i ≤ md - lo ∧ j ≤ hi - md ∧ i + j ≤ f ∧ ys.length = xs.length ∧ rotF f md i j ys = rotT md lo hi xs) (fun i j f ys => i + j) (md - lo) (hi - md) (hi - lo) xs ⟨by omega, by omega, by omega, by omega, by omega, rfl, rfl⟩ ?lsub0 ?round0
 case lsub0 => exact Q8 (X3 (.k .nil)) (Z3 ⟨.t rfl, .t rfl, .t rfl, .eq (.t rfl) (by congr 2; omega), .eq (.t rfl) (by congr 2; omega), trivial⟩)
 intro i j f ys hinv
 obtain ⟨hi0, hj0, hi1, hj1, hf, hys, hv⟩ := hinv
 refine JC.seq (JC.g (J.M rfl rfl (J.M rfl rfl (J.o (ot_neq (.t rfl) (.t rfl)) rfl (J.e ?_)))))
 refine JC.cond (.t rfl) (fun hc0 => ?_) (fun hc0 => ?_)
 ·try simp only [bsx] at hc0
  have hs20 := hc0
  refine JC.skip (JQ.then_normal (JC.block (JC.g (J.M rfl rfl (J.M rfl rfl (J.o (ot_gtr (.t rfl) (.t rfl)) rfl (J.e ?_)))))))
  refine JC.cond (.t rfl) (fun hc1 => ?_) (fun hc1 => ?_)
  ·try simp only [bsx] at hc1
   have hs23 := hc1
   refine (JC.g (J.M rfl rfl (J.M rfl rfl (J.M rfl rfl ?_))))
   refine J.o (K4 (.t rfl) (.t rfl) (w64 (by omega) (by omega))) rfl (J.M rfl rfl (J.M rfl rfl (J.M rfl rfl ?_)))
   refine J.callL (R' := Y5 X5 (swR (md - i) md j ys) c) (Us := []) (cap := []) fn140 (.func (fun _ => rfl)) (swap_c b c (md - i) md j ys (by omega) (by omega)) (.cons (.eq (.t rfl) (by rw [hys])) (.cons (.eq (.t rfl) (by congr 2; omega)) (.cons (.t rfl) (.cons (.t rfl) (.cons (.t rfl) .nil))))) (fun _ => trivial) .here (ltN rfl) (J.e (JC.region (J.M rfl rfl (J.M rfl rfl ?_))))
   refine J.o (K4 (.t rfl) (.t rfl) (w64 (by omega) (by omega))) rfl (J.A rfl rfl (J.nil (JQ.block_normal ?_)))
   exact JQ.round4 (i := i) (i2 := j) (i3 := f) (i4 := ys) (i - j) j (f - 1) (swR (md - i) md j ys) ⟨by omega, hj0, by omega, hj1, by omega, by rw [swR_len]; exact hys, by rw [← hv]; exact rotF_gt hf hj0 (by omega)⟩ (by omega) (Q8 (X3 (.keep (fun _ _ h => by first | exact h | simpa using h) .nil)) (Z3 ⟨.t rfl, .t rfl, .t rfl, .eq (.t rfl) (by congr 2; omega), .t rfl, trivial⟩))
  ·try simp only [bsx] at hc1
   have hs23 := hc1
   refine (JC.g (J.M rfl rfl (J.M rfl rfl (J.M rfl rfl ?_))))
   refine J.o (K4 (.t rfl) (.t rfl) (w64 (by omega) (by omega))) rfl (J.M rfl rfl (J.M rfl rfl ?_))
   refine J.o (Z6 (.t rfl) (.t rfl) (w64 (by omega) (by omega))) rfl (J.M rfl rfl ?_)
   refine J.o (K4 (.t rfl) (.t rfl) (w64 (by omega) (by omega))) rfl (J.M rfl rfl (J.M rfl rfl ?_))
   refine J.callL (R' := Y5 X5 (swR (md - i) (md + j - i) i ys) c) (Us := []) (cap := []) fn140 (.func (fun _ => rfl)) (swap_c b c (md - i) (md + j - i) i ys (by omega) (by omega)) (.cons (.eq (.t rfl) (by rw [hys])) (.cons (.eq (.t rfl) (by congr 2; omega)) (.cons (.eq (.t rfl) (by congr 2; omega)) (.cons (.t rfl) (.cons (.t rfl) .nil))))) (fun _ => trivial) .here (ltN rfl) (J.e (JC.region (J.M rfl rfl (J.M rfl rfl ?_))))
   refine J.o (K4 (.t rfl) (.t rfl) (w64 (by omega) (by omega))) rfl (J.A rfl rfl (J.nil (JQ.block_normal ?_)))
   exact JQ.round4 (i := i) (i2 := j) (i3 := f) (i4 := ys) i (j - i) (f - 1) (swR (md - i) (md + j - i) i ys) ⟨hi0, by omega, hi1, by omega, by omega, by rw [swR_len]; exact hys, by rw [← hv]; exact rotF_lt hf hi0 (by omega)⟩ (by omega) (Q8 (X3 (.keep (fun _ _ h => by first | exact h | simpa using h) .nil)) (Z3 ⟨.t rfl, .t rfl, .t rfl, .t rfl, .eq (.t rfl) (by congr 2; omega), trivial⟩))
 ·try simp only [bsx] at hc0
  have hs20 := hc0
  refine JC.exit (JQ.then_exit (JQ.then_exit (JQ.block_exit (JQ.then_normal (JC.region (J.M rfl rfl (J.M rfl rfl (J.M rfl rfl ?_))))))))
  refine J.o (K4 (.t rfl) (.t rfl) (w64 (by omega) (by omega))) rfl (J.M rfl rfl (J.M rfl rfl (J.M rfl rfl ?_)))
  refine J.callL (R' := Y5 X5 (swR (md - i) md i ys) c) (Us := []) (cap := []) fn140 (.func (fun _ => rfl)) (swap_c b c (md - i) md i ys (by omega) (by omega)) (.cons (.eq (.t rfl) (by rw [hys])) (.cons (.eq (.t rfl) (by congr 2; omega)) (.cons (.t rfl) (.cons (.t rfl) (.cons (.t rfl) .nil))))) (fun _ => trivial) .here (ltN rfl) (J.nil ?_)
  exact (JQ.retL0 rfl (.head _) (K8 (by rw [← hv]; exact rotF_eq hf hi0 (by omega)))).2

end Go.Proofs.Ytcbnpddeiaccbaa
