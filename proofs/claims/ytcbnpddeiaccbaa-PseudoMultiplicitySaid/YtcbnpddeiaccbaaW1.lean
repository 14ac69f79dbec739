/- Walks through the program: each function called at values of the kinds that its contract names returns what the contract says. Conditions: those in the contracts. Written by the program wip/gen. -/
import Derived.Test.YtcbnpddeiaccbaaFa
set_option linter.unusedVariables false
set_option linter.unusedSimpArgs false
set_option maxRecDepth 100000
set_option maxHeartbeats 4000000
namespace Go.Proofs.Ytcbnpddeiaccbaa
open Go Go.RowKit Go.Rt
theorem add32_c (x y c : Int) (hx : 0 ≤ x ∧ x < 4294967296) (hy : 0 ≤ y ∧ y < 4294967296) (hc : 0 ≤ c ∧ c < 4294967296) : Ctr Try.prog 124 [tIs (.int .u32 x), tIs (.int .u32 y), tIs (.int .u32 c)] (V5 [tIs (.int .u32 ((x + y + c) % 4294967296)), tIs (.int .u32 ((x + y + c) / 4294967296))]) := by
 refine Ctr.of Try.func124 rfl Try.ntmps124 (Nat.le_of_ble_eq_true rfl) fun w0 M0 => (JC.g ?_)
 refine J.a .is rfl ?_
 refine J.a .is rfl (J.e (JC.g (J.M rfl rfl ?_)))
 refine J.o (K7 (.t rfl) un116 (by kernel_rfl) (wu64 (by omega) (by omega))) rfl (J.M rfl rfl ?_)
 refine J.o (K7 (.t rfl) un116 (by kernel_rfl) (wu64 (by omega) (by omega))) rfl ?_
 refine J.o (Z6 (.t rfl) (.t rfl) (wu64 (by omega) (by omega))) rfl (J.M rfl rfl ?_)
 refine J.o (K7 (.t rfl) un116 (by kernel_rfl) (wu64 (by omega) (by omega))) rfl ?_
 refine J.o (Z6 (.t rfl) (.t rfl) (wu64 (by omega) (by omega))) rfl (J.A rfl rfl (J.e (JC.g (J.M rfl rfl ?_))))
 refine J.o (K7 (.t rfl) un128 (by kernel_rfl) (wu32_mod (by omega))) rfl (J.A rfl rfl (J.e (JC.g (J.M rfl rfl ?_))))
 refine J.o (ot_shr (.t rfl) .is (by omega) (shr32_u64 (by omega))) rfl ?_
 refine J.o (K7 (.t rfl) un128 (by kernel_rfl) (wu32 (by omega) (by omega))) rfl (J.A rfl rfl (J.e (JC.ret ?_)))
 exact JQ.ret2 rfl (.tmp (.t rfl)) (.tmp (.t rfl))

theorem sub32_c (x y c : Int) (hx : 0 ≤ x ∧ x < 4294967296) (hy : 0 ≤ y ∧ y < 4294967296) (hc : 0 ≤ c ∧ c ≤ 1) : Ctr Try.prog 125 [tIs (.int .u32 x), tIs (.int .u32 y), tIs (.int .u32 c)] (V5 [tIs (.int .u32 ((x - y - c) % 4294967296)), tIs (.int .u32 (if x < y + c then 1 else 0))]) := by
 refine Ctr.of Try.func125 rfl Try.ntmps125 (Nat.le_of_ble_eq_true rfl) fun w0 M0 => (JC.g ?_)
 refine J.a .is rfl ?_
 refine J.a .is rfl (J.e (JC.g (J.M rfl rfl (J.M rfl rfl ?_))))
 refine J.o (K4 (.t rfl) (.t rfl) (wu32_sub (by omega))) rfl (J.M rfl rfl ?_)
 refine J.o (K4 (.t rfl) (.t rfl) (wu32_sub2 (by omega))) rfl (J.A rfl rfl (J.e (JC.g (J.M rfl rfl ?_))))
 refine J.o (ot_com (.t rfl) rfl) rfl (J.M rfl rfl ?_)
 refine J.o (ot_and (.t rfl) (.t rfl) rfl) rfl (J.M rfl rfl (J.M rfl rfl ?_))
 refine J.o (ot_xor (.t rfl) (.t rfl) rfl) rfl ?_
 refine J.o (ot_com (.t rfl) rfl) rfl (J.M rfl rfl ?_)
 refine J.o (ot_and (.t rfl) (.t rfl) rfl) rfl ?_
 refine J.o (ot_or (.t rfl) (.t rfl) rfl) rfl ?_
 refine J.o (ot_shr (.t rfl) .is (by omega) (sub32_borrow (by omega) (by omega) (by omega) (by omega) (by omega) (by omega))) rfl (J.A rfl rfl (J.e (JC.ret ?_)))
 exact JQ.ret2 rfl (.tmp (.t rfl)) (.tmp (.t rfl))

theorem mul32_c (x y : Int) (hx : 0 ≤ x ∧ x < 4294967296) (hy : 0 ≤ y ∧ y < 4294967296) : Ctr Try.prog 126 [tIs (.int .u32 x), tIs (.int .u32 y)] (V5 [tIs (.int .u32 (x * y / 4294967296)), tIs (.int .u32 (x * y % 4294967296))]) := by
 have hm := mulb hx.1 hx.2 hy.1 hy.2
 refine Ctr.of Try.func126 rfl Try.ntmps126 (Nat.le_of_ble_eq_true rfl) fun w0 M0 => (JC.g ?_)
 refine J.a .is rfl ?_
 refine J.a .is rfl (J.e (JC.g (J.M rfl rfl ?_)))
 refine J.o (K7 (.t rfl) un116 (by kernel_rfl) (wu64 (by omega) (by omega))) rfl (J.M rfl rfl ?_)
 refine J.o (K7 (.t rfl) un116 (by kernel_rfl) (wu64 (by omega) (by omega))) rfl ?_
 refine J.o (ot_mul (.t rfl) (.t rfl) (wu64 (by omega) (by omega))) rfl (J.A rfl rfl (J.e (JC.g (J.M rfl rfl ?_))))
 refine J.o (ot_shr (.t rfl) .is (by omega) (shr32_u64 (by omega))) rfl ?_
 refine J.o (K7 (.t rfl) un128 (by kernel_rfl) (wu32 (by omega) (by omega))) rfl (J.M rfl rfl ?_)
 refine J.o (K7 (.t rfl) un128 (by kernel_rfl) (wu32_mod (by omega))) rfl (J.A rfl rfl (J.A rfl rfl (J.e (JC.ret ?_))))
 exact JQ.ret2 rfl (.tmp (.t rfl)) (.tmp (.t rfl))

theorem div32_c (h l y : Int) (hh : 0 ≤ h ∧ h < 4294967296) (hl : 0 ≤ l ∧ l < 4294967296) (hy : 0 ≤ y ∧ y < 4294967296) (hlt : h < y) : Ctr Try.prog 137 [tIs (.int .u32 h), tIs (.int .u32 l), tIs (.int .u32 y)] (V5 [tIs (.int .u32 ((h * 4294967296 + l) / y)), tIs (.int .u32 ((h * 4294967296 + l) % y))]) := by
 have hq := div_small (h := h) (l := l) (y := y) (by omega) (by omega) (by omega) (by omega)
 refine Ctr.of Try.func137 rfl Try.ntmps137 (Nat.le_of_ble_eq_true rfl) fun w0 M0 => (JC.g ?_)
 refine J.a .is rfl ?_
 refine J.a .is rfl (J.e (JC.seq (JC.g (J.M rfl rfl (J.o (ot_neq (.t rfl) .is) rfl (J.M rfl rfl ?_))))))
 refine J.opg rfl rfl rfl (ltN rfl) (fun hg => Y0 (.t rfl)) rfl (ltN rfl) ?_
 refine J.opg rfl rfl rfl (ltN rfl) (fun hg => Y0 (.t rfl)) rfl (ltN rfl) ?_
 refine J.opg rfl rfl rfl (ltN rfl) (fun hg => ot_leq (.iff hg (.t rfl)) (.iff hg (.t rfl))) rfl (ltN rfl) ?_
 refine J.o (R4 (.t rfl) (.t rfl) .is) rfl (J.e ?_)
 refine JC.cond_false (.eq (.t rfl) (by rw [decide_eq_false (show ¬ y ≤ h by omega), Bool.and_false])) (JC.skip (JQ.then_normal (JC.g (J.M rfl rfl ?_))))
 refine J.o (K7 (.t rfl) un116 (by kernel_rfl) (wu64 (by omega) (by omega))) rfl ?_
 refine J.o (ot_shl (.t rfl) .is (by omega) (shl32_u64 (by omega) (by omega))) rfl (J.M rfl rfl ?_)
 refine J.o (K7 (.t rfl) un116 (by kernel_rfl) (wu64 (by omega) (by omega))) rfl ?_
 refine J.o (ot_or (.t rfl) (.t rfl) (or_halvesI (by omega) (by omega) (by omega) (by omega))) rfl (J.A rfl rfl (J.e (JC.seq ?_)))
 refine JC.draw (Γ' := ?g1) mo (by kernel_rfl) ?tw1 ?k1
 case tw1 =>
  refine TW.M rfl rfl (TW.M rfl rfl ?_)
  refine TW.o (K7 (.t rfl) un116 (by kernel_rfl) (wu64 (by omega) (by omega))) rfl ?_
  refine TW.o (ot_quo (.t rfl) (.t rfl) (by omega) (wquo (by omega) (by omega) hq.1)) rfl ?_
  refine TW.o (K7 (.t rfl) un128 (by kernel_rfl) (wu32 (by omega) (by omega))) rfl (TW.M rfl rfl (TW.M rfl rfl ?_))
  refine TW.o (K7 (.t rfl) un116 (by kernel_rfl) (wu64 (by omega) (by omega))) rfl ?_
  refine TW.o (ot_rem (.t rfl) (.t rfl) (by omega) (Int.tmod_eq_emod_of_nonneg (by omega))) rfl ?_
  refine TW.o (K7 (.t rfl) un128 (by kernel_rfl) (wu32 (by omega) (by omega))) rfl ?_
  refine TW.o (Y2 (.t rfl)) rfl ?_
  refine TW.o (Y2 (.t rfl)) rfl ?_
  exact TW.nil
 refine JQ.then_normal (JC.ret ?_)
 exact JQ.ret2 rfl (.tmp (.t rfl)) (.tmp (.t rfl))

theorem trim_c (ds : List Nat) (hl : ds.length ≤ 17592186044416) : Ctr Try.prog 106 [tSl X8 ds] (tSl X8 (Q3 ds)) := by
 refine Ctr.of Try.func106 rfl Try.ntmps106 (Nat.le_of_ble_eq_true rfl) fun w0 M0 => (JC.g ?_)
 refine J.o (Y2 (.nil (E := X8))) rfl (J.e (JC.g (J.M rfl rfl (J.o (Y8 (.t rfl) V9 rfl) rfl (J.A rfl rfl (J.e (JC.seq (JC.block ?_))))))))
 refine JC.loop (ι := Nat) (fun n => [(0, tSl X8 ds), (3, tIs (.int .i64 (n : Int)))]) (fun n => []) (fun n => n ≤ ds.length ∧ Q3 (ds.take n) = Q3 ds) (fun n => n) ds.length ⟨Nat.le_refl _, by rw [List.take_length]⟩ ?lsub0 ?round0
 case lsub0 => exact Q8 (X3 .nil) (Z3 ⟨.t rfl, .eq (.t rfl) (by first | rfl | (congr 3; omega) | (congr 2; omega)), trivial⟩)
 intro n hinv
 obtain ⟨hn1, hn2⟩ := hinv
 refine JC.seq (JC.g (J.M rfl rfl (J.o (ot_gtr (.t rfl) .is) rfl (J.M rfl rfl ?_))))
 refine J.opg rfl rfl rfl (ltN rfl) (fun hg => Y0 (.t rfl)) rfl (ltN rfl) ?_
 refine J.opg rfl rfl rfl (ltN rfl) (fun hg => Y0 (.t rfl)) rfl (ltN rfl) ?_
 refine J.opg rfl rfl rfl (ltN rfl) (fun hg => (by have hg' := hg; (try simp only [bsx] at hg'); exact K4 (.iff hg (.t rfl)) .is (w64 (by omega) (by omega)))) rfl (ltN rfl) ?_
 refine J.opg rfl rfl rfl (ltN rfl) (fun hg => (by have hg' := hg; (try simp only [bsx] at hg'); exact ixo (z := ds.getD (n - 1) 0) (.iff hg (.t rfl)) (.iff hg (.t rfl)) V9 (by omega) (digAt (by omega) (by omega)))) rfl (ltN rfl) ?_
 refine J.opg rfl rfl rfl (ltN rfl) (fun hg => ld (.iff hg (.t rfl)) sc128 encD_ld) rfl (ltN rfl) ?_
 refine J.opg rfl rfl rfl (ltN rfl) (fun hg => U5 (.iff hg (.t rfl)) .is) rfl (ltN rfl) ?_
 refine J.o (R4 (.t rfl) (.t rfl) .is) rfl (J.e ?_)
 refine JC.cond (.t rfl) (fun hc0 => ?_) (fun hc0 => ?_)
 ·try simp only [bsx] at hc0
  have hs15 := hc0
  refine JC.skip (JQ.then_normal (JC.block (JC.region (J.M rfl rfl ?_))))
  refine J.o (K4 (.t rfl) .is (w64 (by omega) (by omega))) rfl (J.A rfl rfl (J.nil (JQ.block_normal ?_)))
  exact JQ.round (n - 1) ⟨by omega, by rw [← hn2]; exact trimD_step (by omega) (by omega)⟩ (by omega) (Q8 (X3 .nil) (Z3 ⟨.t rfl, .eq (.t rfl) (by first | rfl | (congr 3; omega) | (congr 2; omega)), trivial⟩))
 ·try simp only [bsx] at hc0
  have hs15 := hc0
  refine JC.exit (JQ.then_exit (JQ.then_exit (JQ.block_exit (JQ.then_normal (JC.seq (JC.g (J.M rfl rfl (J.o (U5 (.t rfl) .is) rfl (J.e ?_)))))))))
  refine JC.cond (.t rfl) (fun hc1 => ?_) (fun hc1 => ?_)
  ·try simp only [bsx] at hc1
   have hs19 := hc1
   refine (JC.g ?_)
   refine J.o (Y2 (.nil (E := X8))) rfl (J.e (JC.ret (JQ.then_ret ?_)))
   exact JQ.ret1 rfl (.tmp (.eq (.t rfl) (by rw [← hn2, show n = 0 by omega]; rfl)))
  ·try simp only [bsx] at hc1
   have hs19 := hc1
   refine JC.skip (JQ.then_normal (JC.g (J.M rfl rfl (J.M rfl rfl ?_))))
   refine J.o (X9 (T' := tSl X8 (Q3 ds)) (ot_slice (E := X8) (xs := ds) (l := 0) (h := n) (kl := .i64) (kh := .i64) (.t rfl) V9 rfl (.eq (.t rfl) rfl) (by omega) (by omega)) (by rw [← hn2, trimD_stop (by omega) (by omega)]; rfl)) rfl (J.A rfl rfl (J.e (JC.ret ?_)))
   exact JQ.ret1 rfl (.tmp (.t rfl))

theorem natOf_c (n : Int) (hn : 0 ≤ n ∧ n < 18446744073709551616) : Ctr Try.prog 83 [tIs (.int .u64 n)] (tSl X8 (dig n.toNat)) := by
 refine Ctr.of Try.func83 rfl Try.ntmps83 (Nat.le_of_ble_eq_true rfl) fun w0 M0 => (JC.g ?_)
 refine J.o (Y2 (.nil (E := X8))) rfl (J.e (JC.g (J.M rfl rfl ?_)))
 refine J.o (K7 (.t rfl) un128 (by kernel_rfl) (wu32_mod (by omega))) rfl (J.M rfl rfl ?_)
 refine J.o (ot_shr (.t rfl) .is (by omega) (shr32_u64 (by omega))) rfl ?_
 refine J.o (K7 (.t rfl) un128 (by kernel_rfl) (wu32 (by omega) (by omega))) rfl ?_
 refine J.o (K6 (E := X8) (zs := [(n % 4294967296).toNat, (n / 4294967296).toNat]) V9 (.cons (.sub (.t rfl) (encD_in (by omega) (by omega))) (.cons (.sub (.t rfl) (encD_in (by omega) (by omega))) .nil)) rfl zr128 rfl (by decide) (by decide)) rfl ?_
 refine J.o (X9 (T' := tSl X8 (dig n.toNat)) (oc fn106 (trim_c ([(n % 4294967296).toNat, (n / 4294967296).toNat]) (by simp)) (.cons (.t rfl) .nil)) (by rw [of_digits hn.1 hn.2])) rfl (J.A rfl rfl (J.e (JC.ret ?_)))
 exact JQ.ret1 rfl (.tmp (.t rfl))

theorem natNormal_c (ds : List Nat) (hl : ds.length ≤ 1099511627776) : Ctr Try.prog 120 [tSl X8 ds] (tSl X8 (Q3 ds)) := by
 have ht := trimD_len ds
 refine Ctr.of Try.func120 rfl Try.ntmps120 (Nat.le_of_ble_eq_true rfl) fun w0 M0 => (JC.g ?_)
 refine J.o (Y2 (.nil (E := X8))) rfl (J.e (JC.g (J.M rfl rfl ?_)))
 refine J.o (oc fn106 (trim_c ds (by omega)) (.cons (.t rfl) .nil)) rfl ?_
 refine J.o (ot_append0 (E := X8) (xs := Q3 ds) .z (.t rfl) V9 rfl zr128 rfl (by omega) (by omega)) rfl (J.A rfl rfl (J.e (JC.ret ?_)))
 exact JQ.ret1 rfl (.tmp (.t rfl))

theorem natIsZero_c (ds : List Nat) (hl : ds.length ≤ 1099511627776) : Ctr Try.prog 80 [tSl X8 ds] (tIs (.bool (decide (val ds = 0)))) := by
 refine Ctr.know 0 rfl (fun _ _ h => slP_encD h) fun hd => ?_
 refine Ctr.of Try.func80 rfl Try.ntmps80 (Nat.le_of_ble_eq_true rfl) fun w0 M0 => (JC.g ?_)
 refine J.a .is rfl (J.e (JC.g (J.M rfl rfl ?_)))
 refine J.o (oc fn106 (trim_c ds (by omega)) (.cons (.t rfl) .nil)) rfl (J.o (Y8 (.t rfl) V9 rfl) rfl (J.o (U5 (.t rfl) .is) rfl (J.A rfl rfl (J.e (JC.ret ?_)))))
 exact JQ.ret1 rfl (.tmp (.eq (.t rfl) (by rw [decide_eq_decide.2 (show _ ↔ val ds = 0 from ⟨fun h => (trimD_len_zero hd).1 (by omega), fun h => by have := (trimD_len_zero hd).2 h; omega⟩)])))

theorem natUint64_c (ds : List Nat) (hl : ds.length ≤ 1099511627776) : Ctr Try.prog 127 [tSl X8 ds] (V5 [tIs (.int .u64 (if val ds < 18446744073709551616 then (val ds : Int) else 0)), tIs (.bool (decide (val ds < 18446744073709551616)))]) := by
 refine Ctr.know 0 rfl (fun _ _ h => slP_encD h) fun hd => ?_
 have ht := trimD_len ds
 have hd0 := getD_lt (digs_trimD hd) 0
 have hd1 := getD_lt (digs_trimD hd) 1
 refine Ctr.of Try.func127 rfl Try.ntmps127 (Nat.le_of_ble_eq_true rfl) fun w0 M0 => (JC.g ?_)
 refine J.a .is rfl ?_
 refine J.a .is rfl (J.e (JC.g (J.M rfl rfl ?_)))
 refine J.o (oc fn106 (trim_c ds (by omega)) (.cons (.t rfl) .nil)) rfl (J.A rfl rfl (J.e (JC.seq (JC.g (J.M rfl rfl (J.o (Y8 (.t rfl) V9 rfl) rfl (J.e (JC.block (JC.g (J.o (U5 (.t rfl) .is) rfl (J.A rfl rfl (J.e ?_))))))))))))
 refine JC.cond (.t rfl) (fun hc0 => ?_) (fun hc0 => ?_)
 ·try simp only [bsx] at hc0
  have hs8 := hc0
  refine (JC.g ?_)
  refine J.a .is rfl ?_
  refine J.a .is rfl (J.e (JC.ret (JQ.block_ret (JQ.then_ret ?_))))
  have hv := val_len0 hd (by omega)
  exact JQ.ret2 rfl (.tmp (.eq (.t rfl) (by rw [hv]; rfl))) (.tmp (.eq (.t rfl) (by rw [hv]; rfl)))
 ·try simp only [bsx] at hc0
  have hs8 := hc0
  refine (JC.g (J.o (U5 (.t rfl) .is) rfl (J.A rfl rfl (J.e ?_))))
  refine JC.cond (.t rfl) (fun hc1 => ?_) (fun hc1 => ?_)
  ·try simp only [bsx] at hc1
   have hs10 := hc1
   refine (JC.g (J.M rfl rfl ?_))
   refine J.o (ixo (z := (Q3 ds).getD 0 0) (.t rfl) .is V9 (by omega) (digAt (by omega) (by omega))) rfl (J.o (ld (.t rfl) sc128 encD_ld) rfl ?_)
   refine J.o (K7 (.t rfl) un116 (by kernel_rfl) (wu64 (by omega) (by omega))) rfl (J.A rfl rfl ?_)
   refine J.a .is rfl (J.e (JC.ret (JQ.block_ret (JQ.then_ret ?_))))
   have hv := val_len1 hd (by omega)
   exact JQ.ret2 rfl (.tmp (.eq (.t rfl) (by rw [hv, if_pos (by omega)]))) (.tmp (.eq (.t rfl) (by rw [hv, decide_eq_true (by omega)])))
  ·try simp only [bsx] at hc1
   have hs10 := hc1
   refine (JC.g (J.o (U5 (.t rfl) .is) rfl (J.A rfl rfl (J.e ?_))))
   refine JC.cond (.t rfl) (fun hc2 => ?_) (fun hc2 => ?_)
   ·try simp only [bsx] at hc2
    have hs16 := hc2
    refine JC.seq ?_
    refine JC.draw (Γ' := ?g1) mo (by kernel_rfl) ?tw1 ?k1
    case tw1 =>
     refine TW.M rfl rfl ?_
     refine TW.o (ixo (z := (Q3 ds).getD 1 0) (.t rfl) .is V9 (by omega) (digAt (by omega) (by omega))) rfl (TW.o (ld (.t rfl) sc128 encD_ld) rfl ?_)
     refine TW.o (K7 (.t rfl) un116 (by kernel_rfl) (wu64 (by omega) (by omega))) rfl ?_
     refine TW.o (ot_shl (.t rfl) .is (by omega) (shl32_u64 (by omega) (by omega))) rfl (TW.M rfl rfl ?_)
     refine TW.o (ixo (z := (Q3 ds).getD 0 0) (.t rfl) .is V9 (by omega) (digAt (by omega) (by omega))) rfl (TW.o (ld (.t rfl) sc128 encD_ld) rfl ?_)
     refine TW.o (K7 (.t rfl) un116 (by kernel_rfl) (wu64 (by omega) (by omega))) rfl ?_
     refine TW.o (ot_or (.t rfl) (.t rfl) (or_halvesI (by omega) (by omega) (by omega) (by omega))) rfl ?_
     refine TW.o (Y2 (.t rfl)) rfl ?_
     refine TW.o (Y2 .is) rfl ?_
     exact TW.nil
    refine JQ.then_normal (JC.ret (JQ.block_ret (JQ.then_ret ?_)))
    have hv := val_len2 hd (by omega)
    exact JQ.ret2 rfl (.tmp (.eq (.t rfl) (by rw [hv, if_pos (by omega)]; congr 2; omega))) (.tmp (.eq (.t rfl) (by rw [hv, decide_eq_true (by omega)])))
   ·try simp only [bsx] at hc2
    have hs16 := hc2
    refine JC.skip (JQ.block_normal (JQ.then_normal (JC.g ?_)))
    refine J.a .is rfl ?_
    refine J.a .is rfl (J.e (JC.ret ?_))
    have hv := val_len3 hd (by omega)
    exact JQ.ret2 rfl (.tmp (.eq (.t rfl) (by rw [if_neg (by omega)]))) (.tmp (.eq (.t rfl) (by rw [decide_eq_false (by omega)])))

theorem natCmp_c (a b : List Nat) (hl : a.length ≤ 1099511627776) (hl1 : b.length ≤ 1099511627776) : Ctr Try.prog 121 [tSl X8 a, tSl X8 b] (tIs (.int .i64 (cmpN (val a) (val b)))) := by
 refine Ctr.know 0 rfl (fun _ _ h => slP_encD h) fun hd => ?_
 refine Ctr.know 1 rfl (fun _ _ h => slP_encD h) fun hd1 => ?_
 have ha := trimD_len a
 have hb := trimD_len b
 have qa := digs_trimD hd
 have qb := digs_trimD hd1
 have va := W7 hd
 have vb := W7 hd1
 refine Ctr.of Try.func121 rfl Try.ntmps121 (Nat.le_of_ble_eq_true rfl) fun w0 M0 => (JC.g ?_)
 refine J.a .is rfl (J.e (JC.g (J.M rfl rfl ?_)))
 refine J.o (oc fn106 (trim_c a (by omega)) (.cons (.t rfl) .nil)) rfl (J.M rfl rfl ?_)
 refine J.o (oc fn106 (trim_c b (by omega)) (.cons (.t rfl) .nil)) rfl (J.A rfl rfl (J.A rfl rfl (J.e (JC.seq (JC.block (JC.g (J.M rfl rfl (J.o (Y8 (.t rfl) V9 rfl) rfl (J.M rfl rfl (J.o (Y8 (.t rfl) V9 rfl) rfl (J.o (ot_gtr (.t rfl) (.t rfl)) rfl (J.A rfl rfl (J.e ?_)))))))))))))
 refine JC.cond (.t rfl) (fun hc0 => ?_) (fun hc0 => ?_)
 ·try simp only [bsx] at hc0
  have hs10 := hc0
  refine (JC.g ?_)
  refine J.a .is rfl (J.e (JC.ret (JQ.block_ret (JQ.then_ret ?_))))
  exact JQ.ret1 rfl (.tmp (.eq (.t rfl) (by rw [cmpN_gt (len_lt (by rw [← va, ← vb]; omega))])))
 ·try simp only [bsx] at hc0
  have hs10 := hc0
  refine (JC.g (J.M rfl rfl (J.o (Y8 (.t rfl) V9 rfl) rfl (J.M rfl rfl (J.o (Y8 (.t rfl) V9 rfl) rfl (J.o (Y6 (.t rfl) (.t rfl)) rfl (J.A rfl rfl (J.e ?_))))))))
  refine JC.cond (.t rfl) (fun hc1 => ?_) (fun hc1 => ?_)
  ·try simp only [bsx] at hc1
   have hs16 := hc1
   refine (JC.g ?_)
   refine J.a .is rfl (J.e (JC.ret (JQ.block_ret (JQ.then_ret ?_))))
   exact JQ.ret1 rfl (.tmp (.eq (.t rfl) (by rw [cmpN_lt (len_lt (by rw [← va, ← vb]; omega))])))
  ·try simp only [bsx] at hc1
   have hs16 := hc1
   refine JC.skip (JQ.block_normal (JQ.then_normal (JC.seq (JC.g (J.M rfl rfl (J.o (Y8 (.t rfl) V9 rfl) rfl ?_))))))
   refine J.o (K4 (.t rfl) .is (w64 (by omega) (by omega))) rfl (J.A rfl rfl (J.e (JC.block ?_)))
   refine JC.loop (ι := Nat) (fun n => [(0, tSl X8 (Q3 a)), (1, tSl X8 (Q3 b)), (5, tIs (.int .i64 ((n : Int) - 1)))]) (fun n => []) (fun n => n ≤ (Q3 a).length ∧ (Q3 a).drop n = (Q3 b).drop n) (fun n => n) ((Q3 a).length) ⟨Nat.le_refl _, by rw [List.drop_length, List.drop_of_length_le (by omega)]⟩ ?lsub0 ?round0
   case lsub0 => exact Q8 (X3 .nil) (Z3 ⟨.t rfl, .t rfl, .eq (.t rfl) (by first | rfl | (congr 3; omega) | (congr 2; omega)), trivial⟩)
   intro n hinv
   obtain ⟨hn1, hn2⟩ := hinv
   refine JC.seq (JC.g (J.M rfl rfl (J.o (ot_geq (.t rfl) .is) rfl (J.e ?_))))
   refine JC.cond (.t rfl) (fun hc2 => ?_) (fun hc2 => ?_)
   ·try simp only [bsx] at hc2
    have hs26 := hc2
    refine JC.skip (JQ.then_normal (JC.seq (JC.block (JC.seq (JC.seq ?_)))))
    refine JC.draw (Γ' := ?g1) mo (by kernel_rfl) ?tw1 ?k1
    case tw1 =>
     refine TW.M rfl rfl (TW.M rfl rfl ?_)
     refine TW.o (ixo (z := (Q3 a).getD (n - 1) 0) (.t rfl) (.t rfl) V9 (by omega) (digAt (by omega) (by omega))) rfl (TW.o (ld (.t rfl) sc128 encD_ld) rfl (TW.M rfl rfl (TW.M rfl rfl ?_)))
     refine TW.o (ixo (z := (Q3 b).getD (n - 1) 0) (.t rfl) (.t rfl) V9 (by omega) (digAt (by omega) (by omega))) rfl (TW.o (ld (.t rfl) sc128 encD_ld) rfl (TW.o (ot_gtr (.t rfl) (.t rfl)) rfl ?_))
     exact TW.nil
    refine JQ.then_normal ?_
    refine JC.cond (.t rfl) (fun hc3 => ?_) (fun hc3 => ?_)
    ·try simp only [bsx] at hc3
     have hs37 := hc3
     refine (JC.g ?_)
     refine J.a .is rfl (J.e (JC.ret (JQ.then_ret (JQ.block_ret (JQ.then_ret (JQ.then_ret (JQ.block_ret (JQ.then_ret ?_))))))))
     exact JQ.ret1 rfl (.tmp (.eq (.t rfl) (by rw [cmpN_gt]; rw [← val_trimD hd, ← val_trimD hd1]; exact val_gt qa qb (n := n) (by omega) (by omega) (by omega) hn2 (by omega))))
    ·try simp only [bsx] at hc3
     have hs37 := hc3
     refine JC.skip (JQ.then_normal (JC.seq ?_))
     refine JC.draw (Γ' := ?g2) mo (by kernel_rfl) ?tw2 ?k2
     case tw2 =>
      refine TW.M rfl rfl (TW.M rfl rfl ?_)
      refine TW.o (ixo (z := (Q3 a).getD (n - 1) 0) (.t rfl) (.t rfl) V9 (by omega) (digAt (by omega) (by omega))) rfl (TW.o (ld (.t rfl) sc128 encD_ld) rfl (TW.M rfl rfl (TW.M rfl rfl ?_)))
      refine TW.o (ixo (z := (Q3 b).getD (n - 1) 0) (.t rfl) (.t rfl) V9 (by omega) (digAt (by omega) (by omega))) rfl (TW.o (ld (.t rfl) sc128 encD_ld) rfl (TW.o (Y6 (.t rfl) (.t rfl)) rfl ?_))
      exact TW.nil
     refine JQ.then_normal ?_
     refine JC.cond (.t rfl) (fun hc4 => ?_) (fun hc4 => ?_)
     ·try simp only [bsx] at hc4
      have hs46 := hc4
      refine (JC.g ?_)
      refine J.a .is rfl (J.e (JC.ret (JQ.block_ret (JQ.then_ret (JQ.then_ret (JQ.block_ret (JQ.then_ret ?_)))))))
      exact JQ.ret1 rfl (.tmp (.eq (.t rfl) (by rw [cmpN_lt]; rw [← val_trimD hd, ← val_trimD hd1]; exact val_gt qb qa (n := n) (by omega) (by omega) (by omega) hn2.symm (by omega))))
     ·try simp only [bsx] at hc4
      have hs46 := hc4
      refine JC.skip (JQ.block_normal (JQ.then_normal (JC.region (J.M rfl rfl ?_))))
      refine J.o (K4 (.t rfl) .is (w64 (by omega) (by omega))) rfl (J.A rfl rfl (J.nil ?_))
      exact JQ.round (n - 1) ⟨by omega, drop_step (by omega) (by omega) (by omega) hn2 (by omega)⟩ (by omega) (Q8 (X3 .nil) (Z3 ⟨.t rfl, .t rfl, .eq (.t rfl) (by first | rfl | (congr 3; omega) | (congr 2; omega)), trivial⟩))
   ·try simp only [bsx] at hc2
    have hs26 := hc2
    refine JC.exit (JQ.then_exit (JQ.then_exit (JQ.block_exit (JQ.then_normal (JC.g ?_)))))
    refine J.a .is rfl (J.e (JC.ret ?_))
    exact JQ.ret1 rfl (.tmp (.eq (.t rfl) (by rw [cmpN_eq (by rw [← val_trimD hd, ← val_trimD hd1, eq_of_drop0 hn2 (by omega)])])))

theorem add1_c (x y c : Int) (hx : 0 ≤ x ∧ x < 4294967296) (hy : 0 ≤ y ∧ y < 4294967296) (hc : 0 ≤ c ∧ c < 4294967296) (b : Nat) : CtrL Try.prog 123 [tIs (.int .u32 x), tIs (.int .u32 y), X7 b 0] b 128 (cTs [tIs (.int .u32 c)]) (cTs [tIs (.int .u32 ((x + y + c) / 4294967296))]) (tIs (.int .u32 ((x + y + c) % 4294967296))) := by
 refine CtrL.of Try.func123 rfl Try.ntmps123 (Nat.le_of_ble_eq_true rfl) fun w0 M0 => (JC.g ?_)
 refine J.a .is rfl (J.e (JC.g (J.M rfl rfl (J.M rfl rfl (J.o (ol (.t rfl) (.head _) sc128 (Z8 rfl)) rfl ?_)))))
 refine J.o (oc fn124 (add32_c x y c (by omega) (by omega) (by omega)) (.cons (.t rfl) (.cons (.t rfl) (.cons (.t rfl) .nil)))) rfl (J.M rfl rfl ?_)
 refine J.o (Z1 (.t rfl) rfl) rfl ?_
 refine J.o (Z1 (.t rfl) rfl) rfl (J.A rfl rfl (J.A rfl rfl (J.e (JC.g (J.M rfl rfl ?_)))))
 refine J.store (.t rfl) (.t rfl) .here sz128 (st_cell (o := 0) (one_is rfl rfl) rfl) (J.e (JC.g (J.M rfl rfl (J.A rfl rfl (J.e (JC.ret ?_))))))
 exact (JQ.retL1 rfl (.head _) (fun _ _ h => h) (.t rfl)).1

theorem natAdd_c (a b : List Nat) (hl : a.length ≤ 1099511627776) (hl1 : b.length ≤ 1099511627776) : Ctr Try.prog 114 [tSl X8 a, tSl X8 b] (tSl X8 (dig (val a + val b))) := by
 refine Ctr.know 0 rfl (fun _ _ h => slP_encD h) fun hd => ?_
 refine Ctr.know 1 rfl (fun _ _ h => slP_encD h) fun hd1 => ?_
 have ha := trimD_len a
 have hb := trimD_len b
 have qa := digs_trimD hd
 have qb := digs_trimD hd1
 have va := val_trimD hd
 have vb := val_trimD hd1
 refine Ctr.of Try.func114 rfl Try.ntmps114 (Nat.le_of_ble_eq_true rfl) fun w0 M0 => (JC.g ?_)
 refine J.o (Y2 (.nil (E := X8))) rfl (J.e (JC.g (J.M rfl rfl ?_)))
 refine J.o (oc fn106 (trim_c a (by omega)) (.cons (.t rfl) .nil)) rfl (J.M rfl rfl ?_)
 refine J.o (oc fn106 (trim_c b (by omega)) (.cons (.t rfl) .nil)) rfl (J.A rfl rfl (J.A rfl rfl (J.e ?_)))
 refine JC.join2 (α := List Nat) (β := List Nat) (fun A B => [(0, tSl X8 A), (1, tSl X8 B)]) (fun A B => []) (fun A B => U7 A ∧ U7 B ∧ B.length ≤ A.length ∧ A.length ≤ 1099511627776 ∧ val A + val B = val a + val b) ?way1 ?on1
 case way1 =>
  refine (JC.g (J.M rfl rfl (J.o (Y8 (.t rfl) V9 rfl) rfl (J.M rfl rfl (J.o (Y8 (.t rfl) V9 rfl) rfl (J.o (Y6 (.t rfl) (.t rfl)) rfl (J.e ?_)))))))
  refine JC.cond (.t rfl) (fun hc0 => ?_) (fun hc0 => ?_)
  ·try simp only [bsx] at hc0
   have hs19 := hc0
   refine JC.region (J.M rfl rfl (J.M rfl rfl (J.A rfl rfl (J.A rfl rfl (J.nil ?_)))))
   exact JQ.join2 (Q3 b) (Q3 a) ⟨qb, qa, by omega, by omega, by omega⟩ (Q8 (X3 .nil) (Z3 ⟨.eq (.t rfl) (by first | rfl | (congr 3; omega) | (congr 2; omega)), .eq (.t rfl) (by first | rfl | (congr 3; omega) | (congr 2; omega)), trivial⟩))
  ·try simp only [bsx] at hc0
   have hs19 := hc0
   refine JC.skip ?_
   exact JQ.join2 (Q3 a) (Q3 b) ⟨qa, qb, by omega, by omega, by omega⟩ (Q8 (X3 .nil) (Z3 ⟨.eq (.t rfl) (by first | rfl | (congr 3; omega) | (congr 2; omega)), .eq (.t rfl) (by first | rfl | (congr 3; omega) | (congr 2; omega)), trivial⟩))
 intro A B hj2
 obtain ⟨hA, hB, hBA, hAm, hAB⟩ := hj2
 refine (JC.g (J.M rfl rfl (J.o (Y8 (.t rfl) V9 rfl) rfl ?_)))
 refine J.o (Z6 (.t rfl) .is (w64 (by omega) (by omega))) rfl ?_
 refine J.make (E := X8) (z := 0) (n := A.length + 1) V9 (.eq (.t rfl) (by congr 2)) (.eq (.t rfl) (by congr 2)) zr128 (fun _ => encD_zero) (by decide) (by omega) (by omega) (ltN rfl) fun b25 => (J.A rfl rfl (J.e (JC.g ?_)))
 refine J.alloc (R := cTs [tIs (.int .u32 0)]) zr128 (fun _ => ⟨rfl, rfl, trivial⟩) (ltN rfl) fun b6 => ?_
 refine J.store (.t rfl) .is .here sz128 (st_cell (o := 0) (one_is rfl rfl) rfl) (J.e (JC.g ?_))
 refine J.o (ot_makeFunc1 (.t rfl)) rfl (J.A rfl rfl (J.e (JC.seq (JC.g (J.M rfl rfl (J.o (Y8 (.t rfl) V9 rfl) rfl ?_))))))
 refine J.m .is rfl (J.e (JC.block ?_))
 refine JC.loop3 (α := Nat) (β := List Nat) (γ := Nat) (fun k xs c => [(0, tSl X8 A), (1, tSl X8 B), (5, sIs b25 0 (A.length + 1) (A.length + 1)), (6, X7 b6 0), (7, tFn 123 [.pointer (some ⟨b6, 0, none⟩)]), (27, tSl X8 B), (28, tIs (.int .i64 (((B).length : Int)))), (29, tIs (.int .i64 (k : Int)))]) (fun k xs c => [⟨b6, 128, cTs [tIs (.int .u32 (c : Int))]⟩, ⟨b25, 128, Y5 X8 xs (A.length + 1)⟩]) (fun k xs c => k ≤ B.length ∧ xs.length = A.length + 1 ∧ c ≤ 1 ∧ U7 xs ∧ val (xs.take k) + B32 ^ k * c = val (A.take k) + val (B.take k)) (fun k xs c => B.length - k) 0 (List.replicate (A.length + 1) 0) 0 ⟨by omega, by simp, by omega, digs_rep _, by simp [val]⟩ ?lsub0 ?round0
 case lsub0 => exact Q8 (X3 (.keep (fun _ _ h => by first | exact h | simpa using h) (.keep (fun _ _ h => by first | exact h | simpa using h) .nil))) (Z3 ⟨.t rfl, .t rfl, .eq (.t rfl) (by first | rfl | (congr 3; omega) | (congr 2; omega)), .t rfl, .t rfl, .t rfl, .t rfl, .eq (.t rfl) (by first | rfl | (congr 3; omega) | (congr 2; omega)), trivial⟩)
 intro k xs c hinv
 obtain ⟨hk, hxs, hc, hdx, hv⟩ := hinv
 have hak := getD_lt hA k
 have hbk0 := getD_lt hB k
 refine (JC.g (J.o (Y6 (.t rfl) (.t rfl)) rfl (J.e (JC.seq ?_))))
 refine JC.cond (.t rfl) (fun hc1 => ?_) (fun hc1 => ?_)
 ·try simp only [bsx] at hc1
  have hs30 := hc1
  refine JC.skip (JQ.then_normal (JC.seq (JC.block (JC.g (J.M rfl rfl ?_)))))
  refine J.o (ixo (z := B.getD k 0) (.t rfl) (.t rfl) V9 (by omega) (digAt (by omega) (by omega))) rfl (J.o (ld (.t rfl) sc128 encD_ld) rfl (J.A rfl rfl (J.A rfl rfl (J.e (JC.region (J.M rfl rfl (J.M rfl rfl (J.M rfl rfl (J.M rfl rfl (J.M rfl rfl ?_))))))))))
  refine J.o (ixo (z := A.getD k 0) (.t rfl) (.t rfl) V9 (by omega) (digAt (by omega) (by omega))) rfl (J.o (ld (.t rfl) sc128 encD_ld) rfl (J.M rfl rfl ?_))
  refine J.callL (R' := cTs [tIs (.int .u32 (((((A.getD k 0 : Nat) : Int) : Int) + (((B.getD k 0 : Nat) : Int) : Int) + (c : Int)) / 4294967296))]) (Us := [X7 b6 0]) fn123 (.t rfl) (add1_c (((A.getD k 0 : Nat) : Int) : Int) (((B.getD k 0 : Nat) : Int) : Int) (c : Int) (by omega) (by omega) (by omega) b6) (.cons (.t rfl) (.cons (.t rfl) .nil)) (fun _ => ⟨rfl, trivial⟩) .here (ltN rfl) ?_
  refine J.o (X9 (T' := X7 b25 (0 + k * 1)) (oix (.t rfl) (.t rfl) V9 (by omega) (by omega)) (Z7 (by omega))) rfl ?_
  refine J.store (.t rfl) (.sub (.t rfl) (encD_in (by omega) (by omega))) (.there .here) sz128 (T4 (by omega)) (J.nil (JQ.block_normal (JQ.then_normal (JC.region ?_))))
  refine J.o (Z6 (.t rfl) .is (w64 (by omega) (by omega))) rfl (J.M rfl rfl (J.nil ?_))
  exact JQ.round3 (i := k) (i2 := xs) (i3 := c) (k + 1) (xs.set k ((A.getD k 0 + B.getD k 0 + c) % 4294967296)) ((A.getD k 0 + B.getD k 0 + c) / 4294967296) ⟨by omega, by simpa using hxs, by omega, digs_set hdx (by omega), add_step hv (by omega) (by omega)⟩ (by omega) (Q8 (X3 (.keep (cTs_eq1 (by congr 3 <;> omega)) (.keep (K8 (by congr 1 <;> omega)) .nil))) (Z3 ⟨.t rfl, .t rfl, .t rfl, .t rfl, .t rfl, .t rfl, .t rfl, .eq (.t rfl) (by first | rfl | (congr 3; omega) | (congr 2; omega)), trivial⟩))
 ·try simp only [bsx] at hc1
  have hs30 := hc1
  refine JC.exit (JQ.then_exit (JQ.then_exit (JQ.block_exit (JQ.then_normal (JC.seq (JC.g (J.M rfl rfl (J.o (Y8 (.t rfl) V9 rfl) rfl (J.A rfl rfl (J.e (JC.block ?_)))))))))))
  refine JC.loop3 (α := Nat) (β := List Nat) (γ := Nat) (fun k xs c => [(0, tSl X8 A), (1, tSl X8 B), (5, sIs b25 0 (A.length + 1) (A.length + 1)), (6, X7 b6 0), (7, tFn 123 [.pointer (some ⟨b6, 0, none⟩)]), (10, tIs (.int .i64 (k : Int)))]) (fun k xs c => [⟨b6, 128, cTs [tIs (.int .u32 (c : Int))]⟩, ⟨b25, 128, Y5 X8 xs (A.length + 1)⟩]) (fun k xs c => k ≤ A.length ∧ xs.length = A.length + 1 ∧ c ≤ 1 ∧ U7 xs ∧ val (xs.take k) + B32 ^ k * c = val (A.take k) + val (B.take k) ∧ B.length ≤ k) (fun k xs c => A.length - k) B.length xs c ⟨by omega, by omega, by omega, hdx, by have h0 : k = B.length := (by omega); subst h0; exact hv, Nat.le_refl _⟩ ?lsub1 ?round1
  case lsub1 => exact Q8 (X3 (.k (.k .nil))) (Z3 ⟨.t rfl, .t rfl, .t rfl, .t rfl, .t rfl, .eq (.t rfl) (by first | rfl | (congr 3; omega) | (congr 2; omega)), trivial⟩)
  intro k xs c hinv
  obtain ⟨hk, hxs, hc, hdx, hv, hbk⟩ := hinv
  have hak := getD_lt hA k
  have hbk0 := getD_lt hB k
  refine JC.seq (JC.g (J.M rfl rfl (J.M rfl rfl (J.o (Y8 (.t rfl) V9 rfl) rfl (J.o (Y6 (.t rfl) (.t rfl)) rfl (J.e ?_))))))
  refine JC.cond (.t rfl) (fun hc2 => ?_) (fun hc2 => ?_)
  ·try simp only [bsx] at hc2
   have hs50 := hc2
   refine JC.skip (JQ.then_normal (JC.seq (JC.block (JC.region (J.M rfl rfl (J.M rfl rfl (J.M rfl rfl (J.M rfl rfl (J.M rfl rfl ?_)))))))))
   refine J.o (ixo (z := A.getD k 0) (.t rfl) (.t rfl) V9 (by omega) (digAt (by omega) (by omega))) rfl (J.o (ld (.t rfl) sc128 encD_ld) rfl ?_)
   refine J.callL (R' := cTs [tIs (.int .u32 (((((A.getD k 0 : Nat) : Int) : Int) + (0 : Int) + (c : Int)) / 4294967296))]) (Us := [X7 b6 0]) fn123 (.t rfl) (add1_c (((A.getD k 0 : Nat) : Int) : Int) (0 : Int) (c : Int) (by omega) (by omega) (by omega) b6) (.cons (.t rfl) (.cons .is .nil)) (fun _ => ⟨rfl, trivial⟩) .here (ltN rfl) ?_
   refine J.o (X9 (T' := X7 b25 (0 + k * 1)) (oix (.t rfl) (.t rfl) V9 (by omega) (by omega)) (Z7 (by omega))) rfl ?_
   refine J.store (.t rfl) (.sub (.t rfl) (encD_in (by omega) (by omega))) (.there .here) sz128 (T4 (by omega)) (J.nil (JQ.block_normal (JQ.then_normal (JC.region (J.M rfl rfl ?_)))))
   refine J.o (Z6 (.t rfl) .is (w64 (by omega) (by omega))) rfl (J.A rfl rfl (J.nil ?_))
   exact JQ.round3 (i := k) (i2 := xs) (i3 := c) (k + 1) (xs.set k ((A.getD k 0 + 0 + c) % 4294967296)) ((A.getD k 0 + 0 + c) / 4294967296) ⟨by omega, by simpa using hxs, by omega, digs_set hdx (by omega), add_step0 hv (by omega) (by omega) (by omega), by omega⟩ (by omega) (Q8 (X3 (.keep (cTs_eq1 (by congr 3 <;> omega)) (.keep (K8 (by congr 1 <;> omega)) .nil))) (Z3 ⟨.t rfl, .t rfl, .t rfl, .t rfl, .t rfl, .eq (.t rfl) (by first | rfl | (congr 3; omega) | (congr 2; omega)), trivial⟩))
  ·try simp only [bsx] at hc2
   have hs50 := hc2
   refine JC.exit (JQ.then_exit (JQ.then_exit (JQ.block_exit (JQ.then_normal (JC.g (J.M rfl rfl (J.M rfl rfl (J.o (Y8 (.t rfl) V9 rfl) rfl (J.o (ol (.t rfl) (.head _) sc128 (Z8 rfl)) rfl ?_)))))))))
   refine J.o (X9 (T' := X7 b25 (0 + A.length * 1)) (oix (.t rfl) (.t rfl) V9 (by omega) (by omega)) (Z7 (by omega))) rfl ?_
   refine J.store (.t rfl) (.sub (.t rfl) (encD_in (by omega) (by omega))) (.there .here) sz128 (T4 (by omega)) (J.e (JC.seq ?_))
   refine JC.weak (U9 (E := X8) (xs := (xs).set (A.length) c) (n := (A.length + 1)) (c := (A.length + 1)) [62, 5] ⟨rfl, rfl, trivial⟩ (.there .here) (by simp; omega) (by omega)) (JC.region (J.M rfl rfl ?_))
   refine J.o (X9 (T' := tSl X8 (dig (val a + val b))) (oc fn106 (trim_c ((xs).set (A.length) c) (by simp; omega)) (.cons (.t rfl) .nil)) (by rw [add_done hxs hv (by omega) (by omega) hdx (by omega) hAB])) rfl (J.A rfl rfl (J.e (JC.ret ?_)))
   exact JQ.ret1 rfl (.tmp (.t rfl))

theorem natSub_c (a b : List Nat) (hl : a.length ≤ 1099511627776) (hl1 : b.length ≤ 1099511627776) : Ctr Try.prog 115 [tSl X8 a, tSl X8 b] (V5 [tSl X8 (if val b ≤ val a then dig (val a - val b) else []), tIs (.bool (decide (val b ≤ val a)))]) := by
 refine Ctr.know 0 rfl (fun _ _ h => slP_encD h) fun hd => ?_
 refine Ctr.know 1 rfl (fun _ _ h => slP_encD h) fun hd1 => ?_
 have ha := trimD_len a
 have hb := trimD_len b
 have qa := digs_trimD hd
 have qb := digs_trimD hd1
 have va := val_trimD hd
 have vb := val_trimD hd1
 have la := W7 hd
 have lb := W7 hd1
 refine Ctr.of Try.func115 rfl Try.ntmps115 (Nat.le_of_ble_eq_true rfl) fun w0 M0 => (JC.g ?_)
 refine J.o (Y2 (.nil (E := X8))) rfl ?_
 refine J.a .is rfl (J.e (JC.seq (JC.g (J.M rfl rfl (J.M rfl rfl ?_)))))
 refine J.o (oc fn121 (natCmp_c a b (by omega) (by omega)) (.cons (.t rfl) (.cons (.t rfl) .nil))) rfl (J.o (Y6 (.t rfl) .is) rfl (J.e ?_))
 refine JC.cond (.t rfl) (fun hc0 => ?_) (fun hc0 => ?_)
 ·try simp only [bsx] at hc0
  have hs14 := hc0
  have hlt := cmpN_neg hc0
  refine (JC.g ?_)
  refine J.o (Y2 (.nil (E := X8))) rfl ?_
  refine J.a .is rfl (J.e (JC.ret (JQ.then_ret ?_)))
  exact JQ.ret2 rfl (.tmp (.eq (.t rfl) (by rw [if_neg (by omega)]))) (.tmp (.eq (.t rfl) (by rw [decide_eq_false (by omega)])))
 ·try simp only [bsx] at hc0
  have hs14 := hc0
  have hle := cmpN_nonneg hc0
  have hlen := dig_len_mono hle
  rw [← la, ← lb] at hlen
  refine JC.skip (JQ.then_normal (JC.g (J.M rfl rfl ?_)))
  refine J.o (oc fn106 (trim_c a (by omega)) (.cons (.t rfl) .nil)) rfl (J.M rfl rfl ?_)
  refine J.o (oc fn106 (trim_c b (by omega)) (.cons (.t rfl) .nil)) rfl (J.A rfl rfl (J.A rfl rfl (J.e (JC.g (J.M rfl rfl (J.o (Y8 (.t rfl) V9 rfl) rfl ?_))))))
  refine J.make (E := X8) (z := 0) (n := (Q3 a).length) V9 (.eq (.t rfl) rfl) (.eq (.t rfl) rfl) zr128 (fun _ => encD_zero) (by decide) (by omega) (by omega) (ltN rfl) fun b21 => (J.A rfl rfl (J.e (JC.g ?_)))
  refine J.a .is rfl (J.e (JC.seq (JC.g (J.M rfl rfl (J.o (Y8 (.t rfl) V9 rfl) rfl ?_)))))
  refine J.m .is rfl (J.e (JC.block ?_))
  refine JC.loop3 (α := Nat) (β := List Nat) (γ := Nat) (fun k xs w => [(1, tSl X8 (Q3 b)), (4, tSl X8 ([])), (5, tIs (.bool false)), (6, sIs b21 0 ((Q3 a).length) ((Q3 a).length)), (7, tIs (.int .u32 (w : Int))), (22, tSl X8 (Q3 a)), (23, tIs (.int .i64 (((Q3 a).length : Int)))), (24, tIs (.int .i64 (k : Int)))]) (fun k xs w => [⟨b21, 128, Y5 X8 xs ((Q3 a).length)⟩]) (fun k xs w => k ≤ (Q3 a).length ∧ xs.length = (Q3 a).length ∧ w ≤ 1 ∧ U7 xs ∧ val (xs.take k) + val ((Q3 b).take k) = val ((Q3 a).take k) + B32 ^ k * w) (fun k xs w => (Q3 a).length - k) 0 (List.replicate (Q3 a).length 0) 0 ⟨by omega, by simp, by omega, digs_rep _, by simp [val]⟩ ?lsub0 ?round0
  case lsub0 => exact Q8 (X3 (.keep (fun _ _ h => by first | exact h | simpa using h) .nil)) (Z3 ⟨.t rfl, .t rfl, .t rfl, .t rfl, .eq (.t rfl) (by first | rfl | (congr 3; omega) | (congr 2; omega)), .t rfl, .t rfl, .eq (.t rfl) (by first | rfl | (congr 3; omega) | (congr 2; omega)), trivial⟩)
  intro k xs w hinv
  obtain ⟨hk, hxs, hw, hdx, hv⟩ := hinv
  have hxk := getD_lt qa k
  have hyk := getD_lt qb k
  refine (JC.g (J.o (Y6 (.t rfl) (.t rfl)) rfl (J.e (JC.seq ?_))))
  refine JC.cond (.t rfl) (fun hc1 => ?_) (fun hc1 => ?_)
  ·try simp only [bsx] at hc1
   have hs25 := hc1
   refine JC.skip (JQ.then_normal (JC.seq (JC.block (JC.g (J.M rfl rfl ?_)))))
   refine J.o (ixo (z := (Q3 a).getD k 0) (.t rfl) (.t rfl) V9 (by omega) (digAt (by omega) (by omega))) rfl (J.o (ld (.t rfl) sc128 encD_ld) rfl (J.A rfl rfl (J.A rfl rfl (J.e (JC.g ?_)))))
   refine J.a .is rfl (J.e ?_)
   refine JC.join1 (α := Nat) (fun y => [(1, tSl X8 (Q3 b)), (4, tSl X8 ([])), (5, tIs (.bool false)), (6, sIs b21 0 ((Q3 a).length) ((Q3 a).length)), (7, tIs (.int .u32 (w : Int))), (8, tIs (.int .i64 (k : Int))), (9, tIs (.int .u32 (((((Q3 a).getD k 0) : Nat) : Int)))), (10, tIs (.int .u32 (y : Int))), (22, tSl X8 (Q3 a)), (23, tIs (.int .i64 (((Q3 a).length : Int)))), (24, tIs (.int .i64 (k : Int))), (25, tIs (.bool (decide ((k : Int) < ((Q3 a).length : Int))))), (26, tIs (.int .i64 (k : Int))), (27, tPtr (cEnc X8 ((Q3 a).getD k 0))), (28, tIs (.int .u32 (((((Q3 a).getD k 0) : Nat) : Int))))]) (fun y => [⟨b21, 128, Y5 X8 xs ((Q3 a).length)⟩]) (fun y => y = (Q3 b).getD k 0) ?way1 ?on1
   case way1 =>
    refine (JC.g (J.M rfl rfl (J.M rfl rfl (J.o (Y8 (.t rfl) V9 rfl) rfl (J.o (Y6 (.t rfl) (.t rfl)) rfl (J.e ?_))))))
    refine JC.cond (.t rfl) (fun hc2 => ?_) (fun hc2 => ?_)
    ·try simp only [bsx] at hc2
     have hs32 := hc2
     refine JC.region (J.M rfl rfl (J.M rfl rfl ?_))
     refine J.o (ixo (z := (Q3 b).getD k 0) (.t rfl) (.t rfl) V9 (by omega) (digAt (by omega) (by omega))) rfl (J.o (ld (.t rfl) sc128 encD_ld) rfl (J.A rfl rfl (J.nil ?_)))
     exact JQ.join1 ((Q3 b).getD k 0) rfl (Q8 (X3 (.k .nil)) (Z3 ⟨.t rfl, .t rfl, .t rfl, .t rfl, .t rfl, .t rfl, .t rfl, .t rfl, .t rfl, .t rfl, .t rfl, .t rfl, .t rfl, .t rfl, .t rfl, trivial⟩))
    ·try simp only [bsx] at hc2
     have hs32 := hc2
     refine JC.skip ?_
     exact JQ.join1 ((Q3 b).getD k 0) rfl (Q8 (X3 (.k .nil)) (Z3 ⟨.t rfl, .t rfl, .t rfl, .t rfl, .t rfl, .t rfl, .t rfl, .eq (.t rfl) (by rw [getD_ge (by omega)]; rfl), .t rfl, .t rfl, .t rfl, .t rfl, .t rfl, .t rfl, .t rfl, trivial⟩))
   intro y hj10
   refine JC.region (J.M rfl rfl (J.M rfl rfl (J.M rfl rfl (J.M rfl rfl (J.M rfl rfl ?_)))))
   refine J.o (oc fn125 (sub32_c ((((Q3 a).getD k 0) : Nat) : Int) (y : Int) (w : Int) (by omega) (by omega) (by omega)) (.cons (.t rfl) (.cons (.t rfl) (.cons (.t rfl) .nil)))) rfl (J.M rfl rfl ?_)
   refine J.o (Z1 (.t rfl) rfl) rfl ?_
   refine J.o (Z1 (.t rfl) rfl) rfl ?_
   refine J.o (X9 (T' := X7 b21 (0 + k * 1)) (oix (.t rfl) (.t rfl) V9 (by omega) (by omega)) (Z7 (by omega))) rfl ?_
   refine J.store (.t rfl) (.sub (.t rfl) (encD_in (by omega) (by omega))) .here sz128 (T4 (by omega)) (J.A rfl rfl (J.nil (JQ.block_normal (JQ.then_normal (JC.region ?_)))))
   refine J.o (Z6 (.t rfl) .is (w64 (by omega) (by omega))) rfl (J.M rfl rfl (J.nil ?_))
   exact JQ.round3 (i := k) (i2 := xs) (i3 := w) (k + 1) (xs.set k (((Q3 a).getD k 0 + 4294967296 - (Q3 b).getD k 0 - w) % 4294967296)) (if (Q3 a).getD k 0 < (Q3 b).getD k 0 + w then 1 else 0) ⟨by omega, by simpa using hxs, by split <;> omega, digs_set hdx (by omega), sub_step qa qb hv (by omega) hw⟩ (by omega) (Q8 (X3 (.keep (K8 (by congr 1; omega)) .nil)) (Z3 ⟨.t rfl, .t rfl, .t rfl, .t rfl, .eq (.t rfl) (by congr 2; split <;> split <;> omega), .t rfl, .t rfl, .eq (.t rfl) (by first | rfl | (congr 3; omega) | (congr 2; omega)), trivial⟩))
  ·try simp only [bsx] at hc1
   have hs25 := hc1
   refine JC.exit (JQ.then_exit (JQ.then_exit (JQ.block_exit (JQ.then_normal (JC.seq ?_)))))
   refine JC.weak (U9 (E := X8) (xs := xs) (n := (Q3 a).length) (c := (Q3 a).length) [6] ⟨rfl, trivial⟩ .here (by omega) (by omega)) (JC.region (J.M rfl rfl ?_))
   refine J.o (oc fn106 (trim_c xs (by omega)) (.cons (.t rfl) .nil)) rfl (J.A rfl rfl ?_)
   refine J.a .is rfl (J.e (JC.ret ?_))
   exact JQ.ret2 rfl (.tmp (.eq (.t rfl) (by rw [if_pos hle, sub_done hxs hv (by omega) hlen hdx va vb hle]))) (.tmp (.eq (.t rfl) (by rw [decide_eq_true hle])))

theorem natMul_c (a b : List Nat) (hl : a.length ≤ 1099511627776) (hl1 : b.length ≤ 1099511627776) : Ctr Try.prog 116 [tSl X8 a, tSl X8 b] (tSl X8 (dig (val a * val b))) := by
 refine Ctr.know 0 rfl (fun _ _ h => slP_encD h) fun hd => ?_
 refine Ctr.know 1 rfl (fun _ _ h => slP_encD h) fun hd1 => ?_
 have ha := trimD_len a
 have hb := trimD_len b
 have qa := digs_trimD hd
 have qb := digs_trimD hd1
 have va := val_trimD hd
 have vb := val_trimD hd1
 have la := W7 hd
 have lb := W7 hd1
 have na := trimD_len_zero hd
 have nb := trimD_len_zero hd1
 refine Ctr.of Try.func116 rfl Try.ntmps116 (Nat.le_of_ble_eq_true rfl) fun w0 M0 => (JC.g ?_)
 refine J.o (Y2 (.nil (E := X8))) rfl (J.e (JC.g (J.M rfl rfl ?_)))
 refine J.o (oc fn106 (trim_c a (by omega)) (.cons (.t rfl) .nil)) rfl (J.M rfl rfl ?_)
 refine J.o (oc fn106 (trim_c b (by omega)) (.cons (.t rfl) .nil)) rfl (J.A rfl rfl (J.A rfl rfl (J.e (JC.seq (JC.g (J.M rfl rfl (J.o (Y8 (.t rfl) V9 rfl) rfl (J.o (U5 (.t rfl) .is) rfl (J.M rfl rfl ?_)))))))))
 refine J.opg rfl rfl rfl (ltN rfl) (fun hg => Y0 (.t rfl)) rfl (ltN rfl) ?_
 refine J.opg rfl rfl rfl (ltN rfl) (fun hg => Y8 (.iff hg (.t rfl)) V9 rfl) rfl (ltN rfl) ?_
 refine J.opg rfl rfl rfl (ltN rfl) (fun hg => U5 (.iff hg (.t rfl)) .is) rfl (ltN rfl) ?_
 refine J.o (ot_or2 (.t rfl) .is (.t rfl)) rfl (J.e ?_)
 refine JC.cond (.t rfl) (fun hc0 => ?_) (fun hc0 => ?_)
 ·try simp only [bsx] at hc0
  have hs26 := hc0
  refine (JC.g ?_)
  refine J.o (Y2 (.nil (E := X8))) rfl (J.e (JC.ret (JQ.then_ret ?_)))
  exact JQ.ret1 rfl (.tmp (.eq (.t rfl) (by rw [mul_zero_or (by omega)])))
 ·try simp only [bsx] at hc0
  have hs26 := hc0
  refine JC.skip (JQ.then_normal (JC.g (J.M rfl rfl (J.o (Y8 (.t rfl) V9 rfl) rfl (J.M rfl rfl (J.o (Y8 (.t rfl) V9 rfl) rfl ?_))))))
  refine J.o (Z6 (.t rfl) (.t rfl) (w64 (by omega) (by omega))) rfl ?_
  refine J.make (E := X8) (z := 0) (n := (Q3 a).length + (Q3 b).length) V9 (.eq (.t rfl) (by congr 2)) (.eq (.t rfl) (by congr 2)) zr128 (fun _ => encD_zero) (by decide) (by omega) (by omega) (ltN rfl) fun b32 => (J.A rfl rfl (J.e (JC.seq (JC.g (J.M rfl rfl (J.o (Y8 (.t rfl) V9 rfl) rfl ?_))))))
  refine J.m .is rfl (J.e (JC.block ?_))
  refine JC.loop2 (α := Nat) (β := List Nat) (fun i xs => [(1, tSl X8 (Q3 b)), (4, tSl X8 ([])), (5, sIs b32 0 ((Q3 a).length + (Q3 b).length) ((Q3 a).length + (Q3 b).length)), (33, tSl X8 (Q3 a)), (34, tIs (.int .i64 (((Q3 a).length : Int)))), (35, tIs (.int .i64 (i : Int)))]) (fun i xs => [⟨b32, 128, Y5 X8 xs ((Q3 a).length + (Q3 b).length)⟩]) (fun i xs => i ≤ (Q3 a).length ∧ xs.length = (Q3 a).length + (Q3 b).length ∧ U7 xs ∧ val xs = val ((Q3 a).take i) * val (Q3 b) ∧ ∀ j, i + (Q3 b).length ≤ j → xs.getD j 0 = 0) (fun i xs => (Q3 a).length - i) 0 (List.replicate ((Q3 a).length + (Q3 b).length) 0) ⟨by omega, by simp, digs_rep _, by simp [val_rep, val], fun j _ => getD_rep _ _⟩ ?lsub0 ?round0
  case lsub0 => exact Q8 (X3 (.keep (fun _ _ h => by first | exact h | simpa using h) .nil)) (Z3 ⟨.t rfl, .t rfl, .t rfl, .t rfl, .t rfl, .eq (.t rfl) (by first | rfl | (congr 3; omega) | (congr 2; omega)), trivial⟩)
  intro i xs hinv
  obtain ⟨hi, hxs, hdx, hv, hz⟩ := hinv
  have hxi := getD_lt qa i
  refine (JC.g (J.o (Y6 (.t rfl) (.t rfl)) rfl (J.e (JC.seq ?_))))
  refine JC.cond (.t rfl) (fun hc1 => ?_) (fun hc1 => ?_)
  ·try simp only [bsx] at hc1
   have hs36 := hc1
   refine JC.skip (JQ.then_normal (JC.seq (JC.block (JC.g (J.M rfl rfl ?_)))))
   refine J.o (ixo (z := (Q3 a).getD i 0) (.t rfl) (.t rfl) V9 (by omega) (digAt (by omega) (by omega))) rfl (J.o (ld (.t rfl) sc128 encD_ld) rfl (J.A rfl rfl (J.A rfl rfl (J.e (JC.seq (JC.g (J.M rfl rfl (J.o (U5 (.t rfl) .is) rfl (J.e ?_)))))))))
   refine JC.cond (.t rfl) (fun hc2 => ?_) (fun hc2 => ?_)
   ·try simp only [bsx] at hc2
    have hs41 := hc2
    refine JC.exit (JQ.then_exit (JQ.block_exit (JQ.then_normal (JC.region ?_))))
    refine J.o (Z6 (.t rfl) .is (w64 (by omega) (by omega))) rfl (J.M rfl rfl (J.nil ?_))
    exact JQ.round2 (i := i) (i2 := xs) (i + 1) xs ⟨by omega, hxs, hdx, val_zero_getD hv (by omega), fun j hj => hz j (by omega)⟩ (by omega) (Q8 (X3 (.k .nil)) (Z3 ⟨.t rfl, .t rfl, .t rfl, .t rfl, .t rfl, .eq (.t rfl) (by first | rfl | (congr 3; omega) | (congr 2; omega)), trivial⟩))
   ·try simp only [bsx] at hc2
    have hs41 := hc2
    refine JC.skip (JQ.then_normal (JC.g ?_))
    refine J.a .is rfl (J.e (JC.g (J.M rfl rfl (J.M rfl rfl (J.M rfl rfl (J.M rfl rfl (J.o (Y8 (.t rfl) V9 rfl) rfl ?_)))))))
    refine J.o (Z6 (.t rfl) (.t rfl) (w64 (by omega) (by omega))) rfl ?_
    refine J.o (X9 (T' := sIs b32 (0 + i * 1) ((Q3 b).length) ((Q3 a).length + (Q3 b).length - i)) (ot_slice_own (l := i) (h := i + (Q3 b).length) (kl := .i64) (kh := .i64) (.t rfl) V9 (.eq (.t rfl) (by congr 2)) (.eq (.t rfl) (by congr 2)) (by omega) (by omega) (by omega)) (by congr 1 <;> omega)) rfl (J.A rfl rfl (J.e (JC.seq (JC.g (J.M rfl rfl (J.o (Y8 (.t rfl) V9 rfl) rfl ?_))))))
    refine J.m .is rfl (J.e (JC.block ?_))
    refine JC.loop3 (α := Nat) (β := List Nat) (γ := Nat) (fun k ys c => [(1, tSl X8 (Q3 b)), (4, tSl X8 ([])), (5, sIs b32 0 ((Q3 a).length + (Q3 b).length) ((Q3 a).length + (Q3 b).length)), (6, tIs (.int .i64 (i : Int))), (7, tIs (.int .u32 (((((Q3 a).getD i 0) : Nat) : Int)))), (8, tIs (.int .u32 (c : Int))), (9, sIs b32 (0 + i * 1) ((Q3 b).length) ((Q3 a).length + (Q3 b).length - i)), (33, tSl X8 (Q3 a)), (34, tIs (.int .i64 (((Q3 a).length : Int)))), (35, tIs (.int .i64 (i : Int))), (36, tIs (.bool (decide ((i : Int) < ((Q3 a).length : Int))))), (37, tIs (.int .i64 (i : Int))), (38, tPtr (cEnc X8 ((Q3 a).getD i 0))), (39, tIs (.int .u32 (((((Q3 a).getD i 0) : Nat) : Int)))), (40, tIs (.int .u32 (((((Q3 a).getD i 0) : Nat) : Int)))), (41, tIs (.bool (decide (((((Q3 a).getD i 0) : Nat) : Int) = 0)))), (42, sIs b32 0 ((Q3 a).length + (Q3 b).length) ((Q3 a).length + (Q3 b).length)), (43, tIs (.int .i64 (i : Int))), (44, tIs (.int .i64 (i : Int))), (45, tSl X8 (Q3 b)), (46, tIs (.int .i64 (((Q3 b).length : Int)))), (47, tIs (.int .i64 ((i : Int) + ((Q3 b).length : Int)))), (48, sIs b32 (0 + i * 1) ((Q3 b).length) ((Q3 a).length + (Q3 b).length - i)), (49, tSl X8 (Q3 b)), (50, tIs (.int .i64 (((Q3 b).length : Int)))), (51, tIs (.int .i64 (k : Int)))]) (fun k ys c => [⟨b32, 128, Y5 X8 ys ((Q3 a).length + (Q3 b).length)⟩]) (fun k ys c => k ≤ (Q3 b).length ∧ ys.length = xs.length ∧ U7 ys ∧ c < 4294967296 ∧ val ys + B32 ^ (i + k) * c = val xs + B32 ^ i * ((Q3 a).getD i 0 * val ((Q3 b).take k)) ∧ ∀ j, i + (Q3 b).length ≤ j → ys.getD j 0 = 0) (fun k ys c => (Q3 b).length - k) 0 xs 0 ⟨by omega, rfl, hdx, by omega, by simp [val], hz⟩ ?lsub1 ?round1
    case lsub1 => exact Q8 (X3 (.k .nil)) (Z3 ⟨.t rfl, .t rfl, .t rfl, .t rfl, .t rfl, .eq (.t rfl) (by first | rfl | (congr 3; omega) | (congr 2; omega)), .t rfl, .t rfl, .t rfl, .t rfl, .t rfl, .t rfl, .t rfl, .t rfl, .t rfl, .t rfl, .t rfl, .t rfl, .t rfl, .t rfl, .t rfl, .t rfl, .t rfl, .t rfl, .t rfl, .eq (.t rfl) (by first | rfl | (congr 3; omega) | (congr 2; omega)), trivial⟩)
    intro k ys c hinv
    obtain ⟨hk, hys, hdy, hc, hw, hz1⟩ := hinv
    have hyk := getD_lt qb k
    have hr := getD_lt hdy (i + k)
    have hm := mulb (x := ((Q3 a).getD i 0 : Int)) (y := ((Q3 b).getD k 0 : Int)) (by omega) (by omega) (by omega) (by omega)
    have hmb := mul_bound hr hxi hyk hc
    refine (JC.g (J.o (Y6 (.t rfl) (.t rfl)) rfl (J.e (JC.seq ?_))))
    refine JC.cond (.t rfl) (fun hc3 => ?_) (fun hc3 => ?_)
    ·try simp only [bsx] at hc3
     have hs52 := hc3
     refine JC.skip (JQ.then_normal (JC.seq (JC.block (JC.g (J.M rfl rfl ?_)))))
     refine J.o (ixo (z := (Q3 b).getD k 0) (.t rfl) (.t rfl) V9 (by omega) (digAt (by omega) (by omega))) rfl (J.o (ld (.t rfl) sc128 encD_ld) rfl (J.A rfl rfl (J.A rfl rfl (J.e (JC.g (J.M rfl rfl (J.M rfl rfl ?_)))))))
     refine J.o (oc fn126 (mul32_c ((((Q3 a).getD i 0) : Nat) : Int) ((((Q3 b).getD k 0) : Nat) : Int) (by omega) (by omega)) (.cons (.t rfl) (.cons (.t rfl) .nil))) rfl (J.M rfl rfl ?_)
     refine J.o (Z1 (.t rfl) rfl) rfl ?_
     refine J.o (Z1 (.t rfl) rfl) rfl (J.A rfl rfl (J.A rfl rfl (J.e (JC.g (J.M rfl rfl (J.M rfl rfl (J.M rfl rfl ?_)))))))
     refine J.o (X9 (T' := X7 b32 (0 + (i + k) * 1)) (oix (.t rfl) (.t rfl) V9 (by omega) (by omega)) (Z7 (by omega))) rfl (J.o (ol (.t rfl) (.head _) sc128 (encD_row (digAtN (by omega)))) rfl ?_)
     refine J.o (oc fn124 (add32_c (((((Q3 a).getD i 0) : Nat) : Int) * ((((Q3 b).getD k 0) : Nat) : Int) % 4294967296) (((ys.getD (i + k) 0) : Nat) : Int) 0 (by omega) (by omega) (by omega)) (.cons (.t rfl) (.cons (.t rfl) (.cons .is .nil)))) rfl (J.M rfl rfl ?_)
     refine J.o (Z1 (.t rfl) rfl) rfl ?_
     refine J.o (Z1 (.t rfl) rfl) rfl (J.A rfl rfl (J.A rfl rfl (J.e (JC.g (J.M rfl rfl (J.M rfl rfl ?_))))))
     refine J.o (Z6 (.t rfl) (.t rfl) (wu32 (by omega) (by omega))) rfl (J.A rfl rfl (J.e (JC.g (J.M rfl rfl (J.M rfl rfl ?_)))))
     refine J.o (oc fn124 (add32_c (((((((Q3 a).getD i 0) : Nat) : Int) * ((((Q3 b).getD k 0) : Nat) : Int) % 4294967296) + (((ys.getD (i + k) 0) : Nat) : Int) + 0) % 4294967296) (c : Int) 0 (by omega) (by omega) (by omega)) (.cons (.t rfl) (.cons (.t rfl) (.cons .is .nil)))) rfl (J.M rfl rfl ?_)
     refine J.o (Z1 (.t rfl) rfl) rfl ?_
     refine J.o (Z1 (.t rfl) rfl) rfl (J.A rfl rfl (J.A rfl rfl (J.e (JC.region (J.M rfl rfl (J.M rfl rfl (J.M rfl rfl (J.M rfl rfl (J.M rfl rfl ?_)))))))))
     refine J.o (Z6 (.t rfl) (.t rfl) (wu32 (by omega) (by omega))) rfl ?_
     refine J.o (X9 (T' := X7 b32 (0 + (i + k) * 1)) (oix (.t rfl) (.t rfl) V9 (by omega) (by omega)) (Z7 (by omega))) rfl ?_
     refine J.store (.t rfl) (.sub (.t rfl) (encD_in (by omega) (by omega))) .here sz128 (T4 (by omega)) (J.A rfl rfl (J.nil (JQ.block_normal (JQ.then_normal (JC.region ?_)))))
     refine J.o (Z6 (.t rfl) .is (w64 (by omega) (by omega))) rfl (J.M rfl rfl (J.nil ?_))
     exact JQ.round3 (i := k) (i2 := ys) (i3 := c) (k + 1) (ys.set (i + k) ((ys.getD (i + k) 0 + (Q3 a).getD i 0 * (Q3 b).getD k 0 + c) % 4294967296)) ((ys.getD (i + k) 0 + (Q3 a).getD i 0 * (Q3 b).getD k 0 + c) / 4294967296) ⟨by omega, by simpa using hys, digs_set hdy (by omega), hmb, mul_step hw (by omega), fun j hj => by rw [digD_set, if_neg (by omega)]; exact hz1 j hj⟩ (by omega) (Q8 (X3 (.keep (K8 (by congr 1; omega)) .nil)) (Z3 ⟨.t rfl, .t rfl, .t rfl, .t rfl, .t rfl, .eq (.t rfl) (by congr 2; omega), .t rfl, .t rfl, .t rfl, .t rfl, .t rfl, .t rfl, .t rfl, .t rfl, .t rfl, .t rfl, .t rfl, .t rfl, .t rfl, .t rfl, .t rfl, .t rfl, .t rfl, .t rfl, .t rfl, .eq (.t rfl) (by first | rfl | (congr 3; omega) | (congr 2; omega)), trivial⟩))
    ·try simp only [bsx] at hc3
     have hs52 := hc3
     refine JC.exit (JQ.then_exit (JQ.then_exit (JQ.block_exit (JQ.then_normal (JC.region (J.M rfl rfl (J.M rfl rfl (J.M rfl rfl (J.o (Y8 (.t rfl) V9 rfl) rfl ?_)))))))))
     refine J.o (Z6 (.t rfl) (.t rfl) (w64 (by omega) (by omega))) rfl (J.M rfl rfl ?_)
     refine J.o (X9 (T' := X7 b32 (0 + (i + (Q3 b).length) * 1)) (oix (.t rfl) (.t rfl) V9 (by omega) (by omega)) (Z7 (by omega))) rfl ?_
     refine J.store (.t rfl) (.sub (.t rfl) (encD_in (by omega) (by omega))) .here sz128 (T4 (by omega)) (J.nil (JQ.block_normal (JQ.then_normal (JC.region ?_))))
     refine J.o (Z6 (.t rfl) .is (w64 (by omega) (by omega))) rfl (J.M rfl rfl (J.nil ?_))
     exact JQ.round2 (i := i) (i2 := xs) (i + 1) (ys.set (i + (Q3 b).length) c) ⟨by omega, by simp; omega, digs_set hdy hc, mul_top (by rw [← List.take_of_length_le (l := Q3 b) (i := k) (by omega)] ; simpa [show (Q3 b).length = k by omega] using hw) hv (hz1 _ (Nat.le_refl _)) (by omega), fun j hj => by rw [digD_set, if_neg (by omega)]; exact hz1 j (by omega)⟩ (by omega) (Q8 (X3 (.keep (fun _ _ h => by first | exact h | simpa using h) .nil)) (Z3 ⟨.t rfl, .t rfl, .t rfl, .t rfl, .t rfl, .eq (.t rfl) (by first | rfl | (congr 3; omega) | (congr 2; omega)), trivial⟩))
  ·try simp only [bsx] at hc1
   have hs36 := hc1
   refine JC.exit (JQ.then_exit (JQ.then_exit (JQ.block_exit (JQ.then_normal (JC.seq ?_)))))
   refine JC.weak (U9 (E := X8) (xs := xs) (n := (Q3 a).length + (Q3 b).length) (c := (Q3 a).length + (Q3 b).length) [5] ⟨rfl, trivial⟩ .here (by omega) (by omega)) (JC.region (J.M rfl rfl ?_))
   refine J.o (oc fn106 (trim_c xs (by omega)) (.cons (.t rfl) .nil)) rfl (J.A rfl rfl (J.e (JC.ret ?_)))
   exact JQ.ret1 rfl (.tmp (.eq (.t rfl) (by rw [W7 hdx, hv, List.take_of_length_le (by omega), va, vb])))

theorem natDivSmall_c (ds : List Nat) (d : Int) (hl : ds.length ≤ 1099511627776) (hd0 : 0 ≤ d ∧ d < 4294967296) : Ctr Try.prog 131 [tSl X8 ds, tIs (.int .u32 d)] (V5 [tSl X8 (if d = 0 then [] else dig (val ds / d.toNat)), tIs (.int .u32 (if d = 0 then 0 else ((val ds % d.toNat : Nat) : Int))), tIs (.bool (!decide (d = 0)))]) := by
 refine Ctr.know 0 rfl (fun _ _ h => slP_encD h) fun hd => ?_
 have ht := trimD_len ds
 have qd := digs_trimD hd
 have vd := val_trimD hd
 refine Ctr.of Try.func131 rfl Try.ntmps131 (Nat.le_of_ble_eq_true rfl) fun w0 M0 => (JC.g ?_)
 refine J.o (Y2 (.nil (E := X8))) rfl ?_
 refine J.a .is rfl ?_
 refine J.a .is rfl (J.e (JC.seq (JC.g (J.M rfl rfl (J.o (U5 (.t rfl) .is) rfl (J.e ?_))))))
 refine JC.cond (.t rfl) (fun hc0 => ?_) (fun hc0 => ?_)
 ·try simp only [bsx] at hc0
  have hs11 := hc0
  refine (JC.g ?_)
  refine J.o (Y2 (.nil (E := X8))) rfl ?_
  refine J.a .is rfl ?_
  refine J.a .is rfl (J.e (JC.ret (JQ.then_ret ?_)))
  exact JQ.ret3 rfl (.tmp (.eq (.t rfl) (by rw [if_pos hc0]))) (.tmp (.eq (.t rfl) (by rw [if_pos hc0]))) (.tmp (.eq (.t rfl) (by rw [decide_eq_true hc0]; rfl)))
 ·try simp only [bsx] at hc0
  have hs11 := hc0
  refine JC.skip (JQ.then_normal (JC.g (J.M rfl rfl ?_)))
  refine J.o (oc fn106 (trim_c ds (by omega)) (.cons (.t rfl) .nil)) rfl (J.A rfl rfl (J.e (JC.g (J.M rfl rfl (J.o (Y8 (.t rfl) V9 rfl) rfl ?_)))))
  refine J.make (E := X8) (z := 0) (n := (Q3 ds).length) V9 (.eq (.t rfl) rfl) (.eq (.t rfl) rfl) zr128 (fun _ => encD_zero) (by decide) (by omega) (by omega) (ltN rfl) fun b16 => (J.A rfl rfl (J.e (JC.g ?_)))
  refine J.a .is rfl (J.e (JC.seq (JC.g (J.M rfl rfl (J.o (Y8 (.t rfl) V9 rfl) rfl ?_)))))
  refine J.o (K4 (.t rfl) .is (w64 (by omega) (by omega))) rfl (J.A rfl rfl (J.e (JC.block ?_)))
  refine JC.loop3 (α := Nat) (β := List Nat) (γ := Nat) (fun n xs r => [(0, tSl X8 (Q3 ds)), (1, tIs (.int .u32 d)), (4, tSl X8 ([])), (5, tIs (.int .u32 0)), (6, tIs (.bool false)), (7, sIs b16 0 ((Q3 ds).length) ((Q3 ds).length)), (8, tIs (.int .u32 (r : Int))), (9, tIs (.int .i64 ((n : Int) - 1)))]) (fun n xs r => [⟨b16, 128, Y5 X8 xs ((Q3 ds).length)⟩]) (fun n xs r => n ≤ (Q3 ds).length ∧ xs.length = (Q3 ds).length ∧ U7 xs ∧ r < d.toNat ∧ val ((Q3 ds).drop n) = d.toNat * val (xs.drop n) + r) (fun n xs r => n) ((Q3 ds).length) (List.replicate (Q3 ds).length 0) 0 ⟨by omega, by simp, digs_rep _, by omega, by simp [val]⟩ ?lsub0 ?round0
  case lsub0 => exact Q8 (X3 (.keep (fun _ _ h => by first | exact h | simpa using h) .nil)) (Z3 ⟨.t rfl, .t rfl, .t rfl, .t rfl, .t rfl, .t rfl, .eq (.t rfl) (by first | rfl | (congr 3; omega) | (congr 2; omega)), .eq (.t rfl) (by first | rfl | (congr 3; omega) | (congr 2; omega)), trivial⟩)
  intro n xs r hinv
  obtain ⟨hn, hxs, hdx, hr, hv⟩ := hinv
  have hxk := getD_lt qd (n - 1)
  refine JC.seq (JC.g (J.M rfl rfl (J.o (ot_geq (.t rfl) .is) rfl (J.e ?_))))
  refine JC.cond (.t rfl) (fun hc1 => ?_) (fun hc1 => ?_)
  ·try simp only [bsx] at hc1
   have hs21 := hc1
   refine JC.skip (JQ.then_normal (JC.seq (JC.block (JC.region (J.M rfl rfl (J.M rfl rfl (J.M rfl rfl (J.M rfl rfl (J.M rfl rfl ?_)))))))))
   refine J.o (ixo (z := (Q3 ds).getD (n - 1) 0) (.t rfl) (.t rfl) V9 (by omega) (digAt (by omega) (by omega))) rfl (J.o (ld (.t rfl) sc128 encD_ld) rfl (J.M rfl rfl ?_))
   refine J.o (oc fn137 (div32_c (r : Int) ((((Q3 ds).getD (n - 1) 0) : Nat) : Int) d (by omega) (by omega) (by omega) (by omega)) (.cons (.t rfl) (.cons (.t rfl) (.cons (.t rfl) .nil)))) rfl (J.M rfl rfl ?_)
   refine J.o (Z1 (.t rfl) rfl) rfl ?_
   refine J.o (Z1 (.t rfl) rfl) rfl ?_
   refine J.o (X9 (T' := X7 b16 (0 + (n - 1) * 1)) (oix (.t rfl) (.t rfl) V9 (by omega) (by omega)) (Z7 (by omega))) rfl ?_
   refine J.store (.t rfl) (.sub (.t rfl) (encD_in (div_nat0 (by omega)) (div_lt (by omega) (by omega) (by omega)))) .here sz128 (T4 (by omega)) (J.A rfl rfl (J.nil (JQ.block_normal (JQ.then_normal (JC.region (J.M rfl rfl ?_))))))
   refine J.o (K4 (.t rfl) .is (w64 (by omega) (by omega))) rfl (J.A rfl rfl (J.nil ?_))
   exact JQ.round3 (i := n) (i2 := xs) (i3 := r) (n - 1) (xs.set (n - 1) ((r * 4294967296 + (Q3 ds).getD (n - 1) 0) / d.toNat)) ((r * 4294967296 + (Q3 ds).getD (n - 1) 0) % d.toNat) ⟨by omega, by simpa using hxs, digs_set hdx (divs_digit hr hxk), Nat.mod_lt _ (by omega), divs_step hv (by omega) hn hxs⟩ (by omega) (Q8 (X3 (.keep (K8 (by rw [div_nat (by omega)])) .nil)) (Z3 ⟨.t rfl, .t rfl, .t rfl, .t rfl, .t rfl, .t rfl, .eq (.t rfl) (by rw [mod_nat (by omega)]), .eq (.t rfl) (by first | rfl | (congr 3; omega) | (congr 2; omega)), trivial⟩))
  ·try simp only [bsx] at hc1
   have hs21 := hc1
   refine JC.exit (JQ.then_exit (JQ.then_exit (JQ.block_exit (JQ.then_normal (JC.seq ?_)))))
   refine JC.weak (U9 (E := X8) (xs := xs) (n := (Q3 ds).length) (c := (Q3 ds).length) [7] ⟨rfl, trivial⟩ .here (by omega) (by omega)) (JC.region (J.M rfl rfl ?_))
   refine J.o (oc fn106 (trim_c xs (by omega)) (.cons (.t rfl) .nil)) rfl (J.M rfl rfl (J.A rfl rfl (J.A rfl rfl ?_)))
   refine J.a .is rfl (J.e (JC.ret ?_))
   have hq := divs_done hv (by omega) hr hdx vd
   exact JQ.ret3 rfl (.tmp (.eq (.t rfl) (by rw [if_neg hc0, hq.1]))) (.tmp (.eq (.t rfl) (by rw [if_neg hc0, hq.2]))) (.tmp (.eq (.t rfl) (by rw [decide_eq_false hc0]; rfl)))

theorem made_c (n : Bool) (ds : List Nat) : Ctr Try.prog 82 [tIs (.bool n), tSl X8 ds] (tV R9 (mkZ n ds)) := by
 refine Ctr.of Try.func82 rfl Try.ntmps82 (Nat.le_of_ble_eq_true rfl) fun w0 M0 => (JC.g ?_)
 refine J.alloc (R := cTs [tIs (.bool false), tSl X8 ([])]) zr25 (fun _ => ⟨rfl, rfl, Q9 _ _, rfl, trivial⟩) (ltN rfl) fun b4 => (J.e (JC.g (J.M rfl rfl (J.M rfl rfl ?_))))
 refine J.opg rfl rfl rfl (ltN rfl) (fun hg => Y0 (.t rfl)) rfl (ltN rfl) ?_
 refine J.opg rfl rfl rfl (ltN rfl) (fun hg => Y8 (.iff hg (.t rfl)) V9 rfl) rfl (ltN rfl) ?_
 refine J.opg rfl rfl rfl (ltN rfl) (fun hg => ot_gtr (.iff hg (.t rfl)) .is) rfl (ltN rfl) ?_
 refine J.o (R4 (.t rfl) (.t rfl) .is) rfl (J.M rfl rfl ?_)
 refine J.o (X9 (T' := tV R9 (Z.mk (n && (decide (0 < ((ds).length : Int)))) ds)) (V7 (Ts := [tIs (.bool false), tSl X8 ([])]) pl25 (fun _ => ⟨rfl, rfl, Q9 _ _, rfl, trivial⟩) ((.one (off := 0) rfl (.t rfl) (one_is rfl rfl) (Ts' := [tIs (.bool (n && (decide (0 < ((ds).length : Int))))), tSl X8 ([])]) rfl rfl (.one (off := 1) rfl (.t rfl) one_sl (Ts' := [tIs (.bool (n && (decide (0 < ((ds).length : Int))))), tSl X8 ds]) rfl rfl .nil))) rfl) (tV_F' rfl)) rfl ?_
 refine J.store (.t rfl) (.eq (.t rfl) (K2 (Ts := [tIs (.bool (n && (decide (0 < ((ds).length : Int))))), tSl X8 ds]) rfl)) .here sz25 (Z4 (Ts' := [tIs (.bool (n && (decide (0 < ((ds).length : Int))))), tSl X8 ds]) (o := 0) rfl) (J.e (JC.ret ?_))
 exact JQ.ret1 rfl (.agg (.t rfl) (.head _) ag25 (U3 (T := tV R9 (Z.mk (n && (decide (0 < ((ds).length : Int)))) ds)) (T' := tV R9 (mkZ n ds)) (by rw [mkZ_int]) (Q6 (g := zT) (y := (Z.mk (n && (decide (0 < ((ds).length : Int)))) ds)) rfl rfl)))

theorem intOf_c (n : Int) (hn : -9223372036854775808 ≤ n ∧ n < 9223372036854775808) : Ctr Try.prog 37 [tIs (.int .i64 n)] (tV R9 (ofI n)) := by
 refine Ctr.of Try.func37 rfl Try.ntmps37 (Nat.le_of_ble_eq_true rfl) fun w0 M0 => (JC.g ?_)
 refine J.alloc (R := cTs [tIs (.bool false), tSl X8 ([])]) zr25 (fun _ => ⟨rfl, rfl, Q9 _ _, rfl, trivial⟩) (ltN rfl) fun b2 => (J.e (JC.seq (JC.g (J.M rfl rfl (J.o (Y6 (.t rfl) .is) rfl (J.e ?_))))))
 refine JC.cond (.t rfl) (fun hc0 => ?_) (fun hc0 => ?_)
 ·try simp only [bsx] at hc0
  have hs4 := hc0
  refine (JC.g (J.M rfl rfl ?_))
  refine J.o (K7 (.t rfl) un116 (by kernel_rfl) (wu64_neg1 (by omega) (by omega))) rfl ?_
  refine J.o (ot_neg (.t rfl) (wu64_neg (by omega))) rfl ?_
  refine J.o (oc fn83 (natOf_c (0 - n) (by omega)) (.cons (.t rfl) .nil)) rfl ?_
  refine J.o (oc fn82 (made_c true (dig (0 - n).toNat) ) (.cons .is (.cons (.t rfl) .nil))) rfl ?_
  refine J.store (.t rfl) (.eq (.t rfl) (K2 (Ts := (iT (mkZ true (dig (0 - n).toNat)))) rfl)) .here sz25 (Z4 (Ts' := (iT (mkZ true (dig (0 - n).toNat)))) (o := 0) rfl) (J.e (JC.ret (JQ.then_ret ?_)))
  exact JQ.ret1 rfl (.agg (.t rfl) (.head _) ag25 (U3 (T := tV R9 (mkZ true (dig (0 - n).toNat))) (T' := tV R9 (ofI n)) (by rw [mkZ_neg (by omega)]) (Q6 (g := zT) (y := (mkZ true (dig (0 - n).toNat))) rfl rfl)))
 ·try simp only [bsx] at hc0
  have hs4 := hc0
  refine JC.skip (JQ.then_normal (JC.g (J.M rfl rfl ?_)))
  refine J.o (K7 (.t rfl) un116 (by kernel_rfl) (wu64 (by omega) (by omega))) rfl ?_
  refine J.o (oc fn83 (natOf_c n (by omega)) (.cons (.t rfl) .nil)) rfl ?_
  refine J.o (oc fn82 (made_c false (dig n.toNat) ) (.cons .is (.cons (.t rfl) .nil))) rfl ?_
  refine J.store (.t rfl) (.eq (.t rfl) (K2 (Ts := (iT (mkZ false (dig n.toNat)))) rfl)) .here sz25 (Z4 (Ts' := (iT (mkZ false (dig n.toNat)))) (o := 0) rfl) (J.e (JC.ret ?_))
  exact JQ.ret1 rfl (.agg (.t rfl) (.head _) ag25 (U3 (T := tV R9 (mkZ false (dig n.toNat))) (T' := tV R9 (ofI n)) (by rw [mkZ_pos (by omega)]) (Q6 (g := zT) (y := (mkZ false (dig n.toNat))) rfl rfl)))

theorem intFrom_c (n : Bool) (ds : List Nat) (hl : ds.length ≤ 1099511627776) : Ctr Try.prog 107 [tIs (.bool n), tSl X8 ds] (tV R9 (ofI (X4 (Z.mk n ds)))) := by
 refine Ctr.know 1 rfl (fun _ _ h => slP_encD h) fun hd => ?_
 refine Ctr.of Try.func107 rfl Try.ntmps107 (Nat.le_of_ble_eq_true rfl) fun w0 M0 => (JC.g ?_)
 refine J.alloc (R := cTs [tIs (.bool false), tSl X8 ([])]) zr25 (fun _ => ⟨rfl, rfl, Q9 _ _, rfl, trivial⟩) (ltN rfl) fun b4 => (J.e (JC.g (J.M rfl rfl (J.M rfl rfl ?_))))
 refine J.o (oc fn120 (natNormal_c ds (by omega)) (.cons (.t rfl) .nil)) rfl ?_
 refine J.o (oc fn82 (made_c n (Q3 ds) ) (.cons (.t rfl) (.cons (.t rfl) .nil))) rfl ?_
 refine J.store (.t rfl) (.eq (.t rfl) (K2 (Ts := (iT (mkZ n (Q3 ds)))) rfl)) .here sz25 (Z4 (Ts' := (iT (mkZ n (Q3 ds)))) (o := 0) rfl) (J.e (JC.ret ?_))
 exact JQ.ret1 rfl (.agg (.t rfl) (.head _) ag25 (U3 (T := tV R9 (mkZ n (Q3 ds))) (T' := tV R9 (ofI (X4 (Z.mk n ds)))) (by rw [mkZ_ofI hd]) (Q6 (g := zT) (y := (mkZ n (Q3 ds))) rfl rfl)))

theorem intNormal_c (z : Z) (hlz : z.abs.length ≤ 1099511627776) : Ctr Try.prog 81 [tV R9 z] (tV R9 (ofI (X4 z))) := by
 refine Ctr.of Try.func81 rfl Try.ntmps81 (Nat.le_of_ble_eq_true rfl) fun w0 M0 => (JC.g ?_)
 refine J.boxF (Ts := (iT z)) (.t rfl) rfl (ltN rfl) fun b1 => ?_
 refine J.alloc (R := cTs [tIs (.bool false), tSl X8 ([])]) zr25 (fun _ => ⟨rfl, rfl, Q9 _ _, rfl, trivial⟩) (ltN rfl) fun b2 => (J.e (JC.g (J.o (ofa (.t rfl) fd25_0) rfl (J.o (ol (.t rfl) (.tail _ (.head _)) sc4 (Z8 rfl)) rfl (J.o (ofa (.t rfl) fd25_1) rfl (J.o (ol (.t rfl) (.tail _ (.head _)) sc23 (Z8 rfl)) rfl ?_))))))
 refine J.o (oc fn107 (intFrom_c z.neg z.abs (by omega)) (.cons (.t rfl) (.cons (.t rfl) .nil))) rfl ?_
 refine J.store (.t rfl) (.eq (.t rfl) (K2 (Ts := (iT (ofI (X4 (Z.mk (z.neg) (z.abs)))))) rfl)) .here sz25 (Z4 (Ts' := (iT (ofI (X4 (Z.mk (z.neg) (z.abs)))))) (o := 0) rfl) (J.e (JC.ret ?_))
 exact JQ.ret1 rfl (.agg (.t rfl) (.head _) ag25 (U3 (T := tV R9 (ofI (X4 (Z.mk (z.neg) (z.abs))))) (T' := tV R9 (ofI (X4 z))) (by first | rfl | (congr 1; done) | simp [*]) (Q6 (g := zT) (y := (ofI (X4 (Z.mk (z.neg) (z.abs))))) rfl rfl)))

theorem intSign_c (z : Z) (hlz : z.abs.length ≤ 1099511627776) : Ctr Try.prog 35 [tV R9 z] (tIs (.int .i64 (sgn (X4 z)))) := by
 refine Ctr.of Try.func35 rfl Try.ntmps35 (Nat.le_of_ble_eq_true rfl) fun w0 M0 => (JC.g ?_)
 refine J.boxF (Ts := (iT z)) (.t rfl) rfl (ltN rfl) fun b1 => ?_
 refine J.a .is rfl (J.e (JC.seq (JC.block (JC.g (J.o (ofa (.t rfl) fd25_1) rfl (J.o (ol (.t rfl) (.head _) sc23 (Z8 rfl)) rfl ?_))))))
 refine J.o (oc fn80 (natIsZero_c z.abs (by omega)) (.cons (.t rfl) .nil)) rfl (J.A rfl rfl (J.e ?_))
 refine JC.cond (.t rfl) (fun hc0 => ?_) (fun hc0 => ?_)
 ·try simp only [bsx] at hc0
  have hs3 := hc0
  refine (JC.g ?_)
  refine J.a .is rfl (J.e (JC.ret (JQ.block_ret (JQ.then_ret ?_))))
  exact JQ.ret1 rfl (.tmp (.eq (.t rfl) (by rw [sgn_zero hc0])))
 ·try simp only [bsx] at hc0
  have hs3 := hc0
  refine (JC.g (J.o (ofa (.t rfl) fd25_0) rfl (J.o (ol (.t rfl) (.head _) sc4 (Z8 rfl)) rfl (J.A rfl rfl (J.e ?_)))))
  refine JC.cond (.t rfl) (fun hc1 => ?_) (fun hc1 => ?_)
  ·try simp only [bsx] at hc1
   have hs7 := hc1
   refine (JC.g ?_)
   refine J.a .is rfl (J.e (JC.ret (JQ.block_ret (JQ.then_ret ?_))))
   exact JQ.ret1 rfl (.tmp (.eq (.t rfl) (by rw [sgn_neg hc0 hc1])))
  ·try simp only [bsx] at hc1
   have hs7 := hc1
   refine JC.skip (JQ.block_normal (JQ.then_normal (JC.g ?_)))
   refine J.a .is rfl (J.e (JC.ret ?_))
   exact JQ.ret1 rfl (.tmp (.eq (.t rfl) (by rw [sgn_pos hc0 hc1])))

theorem intCmp_c (x : Z) (y : Z) (hlx : x.abs.length ≤ 1099511627776) (hly : y.abs.length ≤ 1099511627776) : Ctr Try.prog 108 [tV R9 x, tV R9 y] (tIs (.int .i64 (sgn (X4 x - X4 y)))) := by
 refine Ctr.of Try.func108 rfl Try.ntmps108 (Nat.le_of_ble_eq_true rfl) fun w0 M0 => (JC.g ?_)
 refine J.boxF (Ts := (iT x)) (.t rfl) rfl (ltN rfl) fun b2 => ?_
 refine J.boxF (Ts := (iT y)) (.t rfl) rfl (ltN rfl) fun b3 => ?_
 refine J.a .is rfl (J.e (JC.seq ?_))
 refine JC.draw (Γ' := ?g1) mo (by kernel_rfl) ?tw1 ?k1
 case tw1 =>
  refine TW.o (oa (.t rfl) (.tail _ (.head _)) ag25 (Q6 (g := zT) (y := x) rfl rfl)) rfl ?_
  refine TW.o (oc fn35 (intSign_c x (by omega)) (.cons (.t rfl) .nil)) rfl (TW.o (oa (.t rfl) (.head _) ag25 (Q6 (g := zT) (y := y) rfl rfl)) rfl ?_)
  refine TW.o (oc fn35 (intSign_c y (by omega)) (.cons (.t rfl) .nil)) rfl ?_
  refine TW.o (Y2 (.t rfl)) rfl ?_
  refine TW.o (Y2 (.t rfl)) rfl ?_
  exact TW.nil
 refine JQ.then_normal (JC.seq (JC.block (JC.g (J.M rfl rfl (J.M rfl rfl (J.o (ot_gtr (.t rfl) (.t rfl)) rfl (J.A rfl rfl (J.e ?_))))))))
 refine JC.cond (.t rfl) (fun hc0 => ?_) (fun hc0 => ?_)
 ·try simp only [bsx] at hc0
  have hs11 := hc0
  refine (JC.g ?_)
  refine J.a .is rfl (J.e (JC.ret (JQ.block_ret (JQ.then_ret ?_))))
  exact JQ.ret1 rfl (.tmp (.eq (.t rfl) (by rw [cmp_gt hc0])))
 ·try simp only [bsx] at hc0
  have hs11 := hc0
  refine (JC.g (J.M rfl rfl (J.M rfl rfl (J.o (Y6 (.t rfl) (.t rfl)) rfl (J.A rfl rfl (J.e ?_))))))
  refine JC.cond (.t rfl) (fun hc1 => ?_) (fun hc1 => ?_)
  ·try simp only [bsx] at hc1
   have hs15 := hc1
   refine (JC.g ?_)
   refine J.a .is rfl (J.e (JC.ret (JQ.block_ret (JQ.then_ret ?_))))
   exact JQ.ret1 rfl (.tmp (.eq (.t rfl) (by rw [cmp_lt hc1])))
  ·try simp only [bsx] at hc1
   have hs15 := hc1
   refine (JC.g (J.M rfl rfl (J.o (Y6 (.t rfl) .is) rfl (J.A rfl rfl (J.e ?_)))))
   refine JC.cond (.t rfl) (fun hc2 => ?_) (fun hc2 => ?_)
   ·try simp only [bsx] at hc2
    have hs19 := hc2
    refine (JC.g (J.o (ofa (.t rfl) fd25_1) rfl (J.o (ol (.t rfl) (.head _) sc23 (Z8 rfl)) rfl (J.o (ofa (.t rfl) fd25_1) rfl (J.o (ol (.t rfl) (.tail _ (.head _)) sc23 (Z8 rfl)) rfl ?_)))))
    refine J.o (oc fn121 (natCmp_c y.abs x.abs (by omega) (by omega)) (.cons (.t rfl) (.cons (.t rfl) .nil))) rfl (J.A rfl rfl (J.e (JC.ret (JQ.block_ret (JQ.then_ret ?_)))))
    exact JQ.ret1 rfl (.tmp (.eq (.t rfl) (by rw [cmp_neg hc0 hc1 hc2])))
   ·try simp only [bsx] at hc2
    have hs19 := hc2
    refine JC.skip (JQ.block_normal (JQ.then_normal (JC.g (J.o (ofa (.t rfl) fd25_1) rfl (J.o (ol (.t rfl) (.tail _ (.head _)) sc23 (Z8 rfl)) rfl (J.o (ofa (.t rfl) fd25_1) rfl (J.o (ol (.t rfl) (.head _) sc23 (Z8 rfl)) rfl ?_)))))))
    refine J.o (oc fn121 (natCmp_c x.abs y.abs (by omega) (by omega)) (.cons (.t rfl) (.cons (.t rfl) .nil))) rfl (J.A rfl rfl (J.e (JC.ret ?_)))
    exact JQ.ret1 rfl (.tmp (.eq (.t rfl) (by rw [cmp_pos hc0 hc1 hc2])))

theorem intSame_c (x : Z) (y : Z) (hlx : x.abs.length ≤ 1099511627776) (hly : y.abs.length ≤ 1099511627776) : Ctr Try.prog 92 [tV R9 x, tV R9 y] (tIs (.bool (decide (X4 x = X4 y)))) := by
 refine Ctr.of Try.func92 rfl Try.ntmps92 (Nat.le_of_ble_eq_true rfl) fun w0 M0 => (JC.g ?_)
 refine J.boxF (Ts := (iT x)) (.t rfl) rfl (ltN rfl) fun b2 => ?_
 refine J.boxF (Ts := (iT y)) (.t rfl) rfl (ltN rfl) fun b3 => ?_
 refine J.a .is rfl (J.e (JC.g (J.o (oa (.t rfl) (.tail _ (.head _)) ag25 (Q6 (g := zT) (y := x) rfl rfl)) rfl (J.o (oa (.t rfl) (.head _) ag25 (Q6 (g := zT) (y := y) rfl rfl)) rfl ?_))))
 refine J.o (oc fn108 (intCmp_c x y (by omega) (by omega)) (.cons (.t rfl) (.cons (.t rfl) .nil))) rfl (J.o (U5 (.t rfl) .is) rfl (J.A rfl rfl (J.e (JC.ret ?_))))
 exact JQ.ret1 rfl (.tmp (.eq (.t rfl) (by rw [sgn_sub_zero])))

theorem intNeg_c (z : Z) (hlz : z.abs.length ≤ 1099511627776) : Ctr Try.prog 100 [tV R9 z] (tV R9 (ofI (- X4 z))) := by
 refine Ctr.of Try.func100 rfl Try.ntmps100 (Nat.le_of_ble_eq_true rfl) fun w0 M0 => (JC.g ?_)
 refine J.boxF (Ts := (iT z)) (.t rfl) rfl (ltN rfl) fun b1 => ?_
 refine J.alloc (R := cTs [tIs (.bool false), tSl X8 ([])]) zr25 (fun _ => ⟨rfl, rfl, Q9 _ _, rfl, trivial⟩) (ltN rfl) fun b2 => (J.e (JC.g (J.o (ofa (.t rfl) fd25_0) rfl (J.o (ol (.t rfl) (.tail _ (.head _)) sc4 (Z8 rfl)) rfl (J.o (ot_not (.t rfl)) rfl (J.o (ofa (.t rfl) fd25_1) rfl (J.o (ol (.t rfl) (.tail _ (.head _)) sc23 (Z8 rfl)) rfl ?_)))))))
 refine J.o (oc fn107 (intFrom_c (!z.neg) z.abs (by omega)) (.cons (.t rfl) (.cons (.t rfl) .nil))) rfl ?_
 refine J.store (.t rfl) (.eq (.t rfl) (K2 (Ts := (iT (ofI (X4 (Z.mk (!z.neg) (z.abs)))))) rfl)) .here sz25 (Z4 (Ts' := (iT (ofI (X4 (Z.mk (!z.neg) (z.abs)))))) (o := 0) rfl) (J.e (JC.ret ?_))
 exact JQ.ret1 rfl (.agg (.t rfl) (.head _) ag25 (U3 (T := tV R9 (ofI (X4 (Z.mk (!z.neg) (z.abs))))) (T' := tV R9 (ofI (- X4 z))) (by rw [zval_not]) (Q6 (g := zT) (y := (ofI (X4 (Z.mk (!z.neg) (z.abs))))) rfl rfl)))

theorem intAdd_c (x : Z) (y : Z) (hlx : x.abs.length ≤ 1099511627776) (hly : y.abs.length ≤ 1099511627776) : Ctr Try.prog 96 [tV R9 x, tV R9 y] (tV R9 (ofI (X4 x + X4 y))) := by
 refine Ctr.of Try.func96 rfl Try.ntmps96 (Nat.le_of_ble_eq_true rfl) fun w0 M0 => (JC.g ?_)
 refine J.boxF (Ts := (iT x)) (.t rfl) rfl (ltN rfl) fun b2 => ?_
 refine J.boxF (Ts := (iT y)) (.t rfl) rfl (ltN rfl) fun b3 => ?_
 refine J.alloc (R := cTs [tIs (.bool false), tSl X8 ([])]) zr25 (fun _ => ⟨rfl, rfl, Q9 _ _, rfl, trivial⟩) (ltN rfl) fun b4 => (J.e (JC.seq (JC.g (J.o (ofa (.t rfl) fd25_0) rfl (J.o (ol (.t rfl) (.tail _ (.tail _ (.head _))) sc4 (Z8 rfl)) rfl (J.o (ofa (.t rfl) fd25_0) rfl (J.o (ol (.t rfl) (.tail _ (.head _)) sc4 (Z8 rfl)) rfl ?_)))))))
 refine J.o (ot_eqlb (.t rfl) (.t rfl) un4) rfl (J.e ?_)
 refine JC.cond (.t rfl) (fun hc0 => ?_) (fun hc0 => ?_)
 ·try simp only [bsx] at hc0
  have hs13 := hc0
  refine JC.seq ?_
  refine JC.drawAt (Γ' := ?g1) 8 mo (by kernel_rfl) ?tw1 ?k1
  case tw1 =>
   refine TW.o (ofa (.t rfl) fd25_0) rfl (TW.o (ol (.t rfl) (.tail _ (.tail _ (.head _))) sc4 (Z8 rfl)) rfl (TW.o (ofa (.t rfl) fd25_1) rfl (TW.o (ol (.t rfl) (.tail _ (.tail _ (.head _))) sc23 (Z8 rfl)) rfl (TW.o (ofa (.t rfl) fd25_1) rfl (TW.o (ol (.t rfl) (.tail _ (.head _)) sc23 (Z8 rfl)) rfl ?_)))))
   refine TW.o (oc fn114 (natAdd_c x.abs y.abs (by omega) (by omega)) (.cons (.t rfl) (.cons (.t rfl) .nil))) rfl ?_
   refine TW.o (oc fn82 (made_c x.neg (dig (val x.abs + val y.abs)) ) (.cons (.t rfl) (.cons (.t rfl) .nil))) rfl ?_
   exact TW.nil
  refine J.store (.t rfl) (.eq (.t rfl) (K2 (Ts := (iT (mkZ x.neg (dig (val x.abs + val y.abs))))) rfl)) .here sz25 (Z4 (Ts' := (iT (mkZ x.neg (dig (val x.abs + val y.abs))))) (o := 0) rfl) (J.e (JC.ret (JQ.then_ret ?_)))
  exact JQ.ret1 rfl (.agg (.t rfl) (.head _) ag25 (U3 (T := tV R9 (mkZ x.neg (dig (val x.abs + val y.abs)))) (T' := tV R9 (ofI (X4 x + X4 y))) (by rw [add_same hc0]) (Q6 (g := zT) (y := (mkZ x.neg (dig (val x.abs + val y.abs)))) rfl rfl)))
 ·try simp only [bsx] at hc0
  have hs13 := hc0
  refine JC.skip (JQ.then_normal (JC.seq (JC.g (J.o (ofa (.t rfl) fd25_1) rfl (J.o (ol (.t rfl) (.tail _ (.tail _ (.head _))) sc23 (Z8 rfl)) rfl (J.o (ofa (.t rfl) fd25_1) rfl (J.o (ol (.t rfl) (.tail _ (.head _)) sc23 (Z8 rfl)) rfl ?_)))))))
  refine J.o (oc fn115 (natSub_c x.abs y.abs (by omega) (by omega)) (.cons (.t rfl) (.cons (.t rfl) .nil))) rfl (J.M rfl rfl ?_)
  refine J.o (Z1 (.t rfl) rfl) rfl ?_
  refine J.o (Z1 (.t rfl) rfl) rfl (J.A rfl rfl (J.A rfl rfl (J.e (JC.g (J.M rfl rfl (J.e ?_))))))
  refine JC.cond (.t rfl) (fun hc1 => ?_) (fun hc1 => ?_)
  ·try simp only [bsx] at hc1
   have hs30 := hc1
   refine (JC.g (J.o (ofa (.t rfl) fd25_0) rfl (J.o (ol (.t rfl) (.tail _ (.tail _ (.head _))) sc4 (Z8 rfl)) rfl (J.M rfl rfl ?_))))
   refine J.o (oc fn82 (made_c x.neg (if val y.abs ≤ val x.abs then dig (val x.abs - val y.abs) else []) ) (.cons (.t rfl) (.cons (.t rfl) .nil))) rfl ?_
   refine J.store (.t rfl) (.eq (.t rfl) (K2 (Ts := (iT (mkZ x.neg (if val y.abs ≤ val x.abs then dig (val x.abs - val y.abs) else [])))) rfl)) .here sz25 (Z4 (Ts' := (iT (mkZ x.neg (if val y.abs ≤ val x.abs then dig (val x.abs - val y.abs) else [])))) (o := 0) rfl) (J.e (JC.ret (JQ.then_ret ?_)))
   exact JQ.ret1 rfl (.agg (.t rfl) (.head _) ag25 (U3 (T := tV R9 (mkZ x.neg (if val y.abs ≤ val x.abs then dig (val x.abs - val y.abs) else []))) (T' := tV R9 (ofI (X4 x + X4 y))) (by rw [if_pos hc1, add_ge hc0 hc1]) (Q6 (g := zT) (y := (mkZ x.neg (if val y.abs ≤ val x.abs then dig (val x.abs - val y.abs) else []))) rfl rfl)))
  ·try simp only [bsx] at hc1
   have hs30 := hc1
   refine JC.skip (JQ.then_normal (JC.g (J.o (ofa (.t rfl) fd25_1) rfl (J.o (ol (.t rfl) (.tail _ (.head _)) sc23 (Z8 rfl)) rfl (J.o (ofa (.t rfl) fd25_1) rfl (J.o (ol (.t rfl) (.tail _ (.tail _ (.head _))) sc23 (Z8 rfl)) rfl ?_))))))
   refine J.o (oc fn115 (natSub_c y.abs x.abs (by omega) (by omega)) (.cons (.t rfl) (.cons (.t rfl) .nil))) rfl (J.M rfl rfl ?_)
   refine J.o (Z1 (.t rfl) rfl) rfl ?_
   refine J.o (Z1 (.t rfl) rfl) rfl (J.A rfl rfl (J.A rfl rfl (J.e (JC.g (J.o (ofa (.t rfl) fd25_0) rfl (J.o (ol (.t rfl) (.tail _ (.head _)) sc4 (Z8 rfl)) rfl (J.M rfl rfl ?_)))))))
   refine J.o (oc fn82 (made_c y.neg (if val x.abs ≤ val y.abs then dig (val y.abs - val x.abs) else []) ) (.cons (.t rfl) (.cons (.t rfl) .nil))) rfl ?_
   refine J.store (.t rfl) (.eq (.t rfl) (K2 (Ts := (iT (mkZ y.neg (if val x.abs ≤ val y.abs then dig (val y.abs - val x.abs) else [])))) rfl)) .here sz25 (Z4 (Ts' := (iT (mkZ y.neg (if val x.abs ≤ val y.abs then dig (val y.abs - val x.abs) else [])))) (o := 0) rfl) (J.e (JC.ret ?_))
   exact JQ.ret1 rfl (.agg (.t rfl) (.head _) ag25 (U3 (T := tV R9 (mkZ y.neg (if val x.abs ≤ val y.abs then dig (val y.abs - val x.abs) else []))) (T' := tV R9 (ofI (X4 x + X4 y))) (by rw [if_pos (by omega), add_lt hc0 hc1]) (Q6 (g := zT) (y := (mkZ y.neg (if val x.abs ≤ val y.abs then dig (val y.abs - val x.abs) else []))) rfl rfl)))

theorem intMul_c (x : Z) (y : Z) (hlx : x.abs.length ≤ 1099511627776) (hly : y.abs.length ≤ 1099511627776) : Ctr Try.prog 97 [tV R9 x, tV R9 y] (tV R9 (ofI (X4 x * X4 y))) := by
 refine Ctr.of Try.func97 rfl Try.ntmps97 (Nat.le_of_ble_eq_true rfl) fun w0 M0 => (JC.g ?_)
 refine J.boxF (Ts := (iT x)) (.t rfl) rfl (ltN rfl) fun b2 => ?_
 refine J.boxF (Ts := (iT y)) (.t rfl) rfl (ltN rfl) fun b3 => ?_
 refine J.alloc (R := cTs [tIs (.bool false), tSl X8 ([])]) zr25 (fun _ => ⟨rfl, rfl, Q9 _ _, rfl, trivial⟩) (ltN rfl) fun b4 => (J.e (JC.seq ?_))
 refine JC.drawAt (Γ' := ?g1) 11 mo (by kernel_rfl) ?tw1 ?k1
 case tw1 =>
  refine TW.o (ofa (.t rfl) fd25_0) rfl (TW.o (ol (.t rfl) (.tail _ (.tail _ (.head _))) sc4 (Z8 rfl)) rfl (TW.o (ofa (.t rfl) fd25_0) rfl (TW.o (ol (.t rfl) (.tail _ (.head _)) sc4 (Z8 rfl)) rfl ?_)))
  refine TW.o (ot_neqb (.t rfl) (.t rfl) un4) rfl (TW.o (ofa (.t rfl) fd25_1) rfl (TW.o (ol (.t rfl) (.tail _ (.tail _ (.head _))) sc23 (Z8 rfl)) rfl (TW.o (ofa (.t rfl) fd25_1) rfl (TW.o (ol (.t rfl) (.tail _ (.head _)) sc23 (Z8 rfl)) rfl ?_))))
  refine TW.o (oc fn116 (natMul_c x.abs y.abs (by omega) (by omega)) (.cons (.t rfl) (.cons (.t rfl) .nil))) rfl ?_
  refine TW.o (oc fn82 (made_c (!(x.neg == y.neg)) (dig (val x.abs * val y.abs)) ) (.cons (.t rfl) (.cons (.t rfl) .nil))) rfl ?_
  exact TW.nil
 refine J.store (.t rfl) (.eq (.t rfl) (K2 (Ts := (iT (mkZ (!(x.neg == y.neg)) (dig (val x.abs * val y.abs))))) rfl)) .here sz25 (Z4 (Ts' := (iT (mkZ (!(x.neg == y.neg)) (dig (val x.abs * val y.abs))))) (o := 0) rfl) (J.e (JC.ret ?_))
 exact JQ.ret1 rfl (.agg (.t rfl) (.head _) ag25 (U3 (T := tV R9 (mkZ (!(x.neg == y.neg)) (dig (val x.abs * val y.abs)))) (T' := tV R9 (ofI (X4 x * X4 y))) (by rw [mul_made]) (Q6 (g := zT) (y := (mkZ (!(x.neg == y.neg)) (dig (val x.abs * val y.abs)))) rfl rfl)))

theorem pzero_c (p : Pol) (hl : p.c.abs.length ≤ 1099511627776) : Ctr Try.prog 76 [tV Q5 p] (tIs (.bool (Z5 p))) := by
 refine Ctr.of Try.func76 rfl Try.ntmps76 (Nat.le_of_ble_eq_true rfl) fun w0 M0 => (JC.g ?_)
 refine J.boxF (Ts := (pT p)) (.t rfl) (Q0 _) (ltN rfl) fun b1 => ?_
 refine J.a .is rfl (J.e (JC.g (J.o (ofa (.t rfl) T1) rfl (J.o (ol (.t rfl) (.head _) sc3 (Z8 rfl)) rfl (J.o (U5 (.t rfl) .is) rfl (J.M rfl rfl ?_))))))
 refine J.opg rfl rfl rfl (ltN rfl) (fun hg => ofa (.t rfl) fd28_1) rfl (ltN rfl) ?_
 refine J.opg rfl rfl rfl (ltN rfl) (fun hg => oa (.iff hg (.t rfl)) (.head _) ag25 (Q6 (g := zT) (y := p.c) rfl rfl)) rfl (ltN rfl) ?_
 refine J.opg rfl rfl rfl (ltN rfl) (fun hg => (by have hg' := hg; (try simp only [bsx] at hg'); exact oc fn35 (intSign_c p.c (by omega)) (.cons (.iff hg (.t rfl)) .nil))) rfl (ltN rfl) ?_
 refine J.opg rfl rfl rfl (ltN rfl) (fun hg => U5 (.iff hg (.t rfl)) .is) rfl (ltN rfl) ?_
 refine J.o (R4 (.t rfl) (.t rfl) .is) rfl (J.A rfl rfl (J.e (JC.ret ?_)))
 exact JQ.ret1 rfl (.tmp (.eq (.t rfl) (by rw [Z5, sgn_eq0])))

theorem join_c (l : Int) (cs : List Pol) (hl : cs.length ≤ 4294967296) (hz : ∀ p ∈ cs, p.c.abs.length ≤ 1099511627776) : Ctr Try.prog 103 [tIs (.int .i64 l), tSl Q5 cs] (tV Q5 (U0 l cs)) := by
 refine Ctr.of Try.func103 rfl Try.ntmps103 (Nat.le_of_ble_eq_true rfl) fun w0 M0 => (JC.g ?_)
 refine J.alloc (R := cTs zP) W9 (fun _ => ⟨rfl, rfl, rfl, rfl, Q9 _ _, rfl, Q9 _ _, rfl, trivial⟩) (ltN rfl) fun b4 => (J.e (JC.g (J.M rfl rfl (J.o (Y8 (.t rfl) W5 rfl) rfl (J.A rfl rfl (J.e (JC.seq (JC.block ?_))))))))
 refine JC.loop (ι := Nat) (fun n => [(0, tIs (.int .i64 l)), (1, tSl Q5 cs), (4, X7 b4 0), (5, tIs (.int .i64 (n : Int)))]) (fun n => [⟨b4, 28, cTs zP⟩]) (fun n => n ≤ cs.length ∧ trimP (cs.take n) = trimP cs) (fun n => n) cs.length ⟨Nat.le_refl _, by rw [List.take_length]⟩ ?lsub0 ?round0
 case lsub0 => exact Q8 (X3 (.k .nil)) (Z3 ⟨.t rfl, .t rfl, .t rfl, .eq (.t rfl) (by first | rfl | (congr 3; omega) | (congr 2; omega)), trivial⟩)
 intro n hinv
 obtain ⟨hn1, hn2⟩ := hinv
 have hat : 0 < n → (atP cs (n - 1)).c.abs.length ≤ 1099511627776 := fun h => hz _ (Y3 (by omega))
 refine JC.seq (JC.g (J.M rfl rfl (J.o (ot_gtr (.t rfl) .is) rfl (J.M rfl rfl ?_))))
 refine J.opg rfl rfl rfl (ltN rfl) (fun hg => Y0 (.t rfl)) rfl (ltN rfl) ?_
 refine J.opg rfl rfl rfl (ltN rfl) (fun hg => Y0 (.t rfl)) rfl (ltN rfl) ?_
 refine J.opg rfl rfl rfl (ltN rfl) (fun hg => (by have hg' := hg; (try simp only [bsx] at hg'); exact K4 (.iff hg (.t rfl)) .is (w64 (by omega) (by omega)))) rfl (ltN rfl) ?_
 refine J.opg rfl rfl rfl (ltN rfl) (fun hg => (by have hg' := hg; (try simp only [bsx] at hg'); exact ixo (z := atP cs (n - 1)) (.iff hg (.t rfl)) (.iff hg (.t rfl)) W5 (by omega) (atP_at (by omega) (by omega)))) rfl (ltN rfl) ?_
 refine J.opg rfl rfl rfl (ltN rfl) (fun hg => lda (.iff hg (.t rfl)) Z9 V0) rfl (ltN rfl) ?_
 refine J.opg rfl rfl rfl (ltN rfl) (fun hg => (by have hg' := hg; (try simp only [bsx] at hg'); exact oc fn76 (pzero_c (atP cs (n - 1)) (hat (by omega))) (.cons (.iff hg (.t rfl)) .nil))) rfl (ltN rfl) ?_
 refine J.o (R4 (.t rfl) (.t rfl) .is) rfl (J.e ?_)
 refine JC.cond (.t rfl) (fun hc0 => ?_) (fun hc0 => ?_)
 ·try simp only [bsx] at hc0
  have hs17 := hc0
  refine JC.skip (JQ.then_normal (JC.block (JC.region (J.M rfl rfl ?_))))
  refine J.o (K4 (.t rfl) .is (w64 (by omega) (by omega))) rfl (J.A rfl rfl (J.nil (JQ.block_normal ?_)))
  exact JQ.round (n - 1) ⟨by omega, by rw [← hn2]; exact trimP_step (by omega) (by omega) (by simp only [hc0])⟩ (by omega) (Q8 (X3 (.k .nil)) (Z3 ⟨.t rfl, .t rfl, .t rfl, .eq (.t rfl) (by first | rfl | (congr 3; omega) | (congr 2; omega)), trivial⟩))
 ·try simp only [bsx] at hc0
  have hs17 := hc0
  have hst := trimP_stop hn1 (by simpa using hc0)
  refine JC.exit (JQ.then_exit (JQ.then_exit (JQ.block_exit (JQ.then_normal (JC.seq (JC.g (J.M rfl rfl (J.o (U5 (.t rfl) .is) rfl (J.e ?_)))))))))
  refine JC.cond (.t rfl) (fun hc1 => ?_) (fun hc1 => ?_)
  ·try simp only [bsx] at hc1
   have hs21 := hc1
   refine (JC.g ?_)
   refine J.o (X9 (T' := tV Q5 (Pol.mk 0 (Z.mk false ([])) ([]))) (V7 (Ts := zP) pl28 (fun _ => ⟨rfl, rfl, rfl, rfl, Q9 _ _, rfl, Q9 _ _, rfl, trivial⟩) (.nil) rfl) (tV_F' (Q0 _))) rfl ?_
   refine J.store (.t rfl) (.eq (.t rfl) (K2 (Ts := zP) (Q0 _))) .here U4 (Z4 (Ts' := zP) (o := 0) rfl) (J.e (JC.ret (JQ.then_ret ?_)))
   exact JQ.ret1 rfl (.agg (.t rfl) (.head _) Z9 (U3 (T := tV Q5 (Pol.mk 0 (Z.mk false ([])) ([]))) (T' := tV Q5 (U0 l cs)) (by rw [← joinP_0 hn2 hst (by omega)]; rfl) (Q6 (g := Y4) (y := (Pol.mk 0 (Z.mk false ([])) ([]))) (Q0 (Pol.mk 0 (Z.mk false ([])) ([]))).symm rfl)))
  ·try simp only [bsx] at hc1
   have hs21 := hc1
   refine JC.skip (JQ.then_normal (JC.seq (JC.g (J.M rfl rfl (J.o (U5 (.t rfl) .is) rfl (J.e ?_))))))
   refine JC.cond (.t rfl) (fun hc2 => ?_) (fun hc2 => ?_)
   ·try simp only [bsx] at hc2
    have hs24 := hc2
    refine (JC.g (J.M rfl rfl ?_))
    refine J.o (ixo (z := atP cs 0) (.t rfl) .is W5 (by omega) (atP_at rfl (by omega))) rfl (J.o (lda (.t rfl) Z9 V0) rfl ?_)
    refine J.store (.t rfl) (.eq (.t rfl) (K2 (Ts := (pT (atP cs 0))) (Q0 _))) .here U4 (Z4 (Ts' := (pT (atP cs 0))) (o := 0) rfl) (J.e (JC.ret (JQ.then_ret ?_)))
    exact JQ.ret1 rfl (.agg (.t rfl) (.head _) Z9 (U3 (T := tV Q5 (atP cs 0)) (T' := tV Q5 (U0 l cs)) (by rw [joinP_1 hn2 hst hn1 (by omega)]) (Q6 (g := Y4) (y := (atP cs 0)) (Q0 (atP cs 0)).symm rfl)))
   ·try simp only [bsx] at hc2
    have hs24 := hc2
    refine JC.skip (JQ.then_normal (JC.g (J.M rfl rfl (J.M rfl rfl (J.M rfl rfl (J.M rfl rfl ?_))))))
    refine J.o (ot_slice3 (E := Q5) (xs := cs) (h := n) (m := n) (kh := .i64) (km := .i64) (.t rfl) W5 (.eq (.t rfl) rfl) (.eq (.t rfl) rfl) (by omega) (by omega)) rfl ?_
    refine J.o (X9 (T' := tV Q5 (Pol.mk l (Z.mk false ([])) ((cs).take n))) (V7 (Ts := zP) pl28 (fun _ => ⟨rfl, rfl, rfl, rfl, Q9 _ _, rfl, Q9 _ _, rfl, trivial⟩) ((.one (off := 0) rfl (.t rfl) (one_is rfl rfl) (Ts' := [tIs (.int .i64 l), tIs (.bool false), tSl X8 ([]), tSl Q5 ([])]) rfl rfl (.one (off := 3) rfl (.t rfl) one_sl (Ts' := [tIs (.int .i64 l), tIs (.bool false), tSl X8 ([]), tSl Q5 ((cs).take n)]) rfl rfl .nil))) rfl) (tV_F' (Q0 _))) rfl ?_
    refine J.store (.t rfl) (.eq (.t rfl) (K2 (Ts := [tIs (.int .i64 l), tIs (.bool false), tSl X8 ([]), tSl Q5 ((cs).take n)]) (Q0 _))) .here U4 (Z4 (Ts' := [tIs (.int .i64 l), tIs (.bool false), tSl X8 ([]), tSl Q5 ((cs).take n)]) (o := 0) rfl) (J.e (JC.ret ?_))
    exact JQ.ret1 rfl (.agg (.t rfl) (.head _) Z9 (U3 (T := tV Q5 (Pol.mk l (Z.mk false ([])) ((cs).take n))) (T' := tV Q5 (U0 l cs)) (by rw [← joinP_2 hn2 hst hn1 (by omega) (by omega)]; rfl) (Q6 (g := Y4) (y := (Pol.mk l (Z.mk false ([])) ((cs).take n))) (Q0 (Pol.mk l (Z.mk false ([])) ((cs).take n))).symm rfl)))

theorem coefs_c (p : Pol) (l : Int) (hl : p.cs.length ≤ 4294967296) : Ctr Try.prog 105 [tV Q5 p, tIs (.int .i64 l)] (tSl Q5 (Z0 p l)) := by
 refine Ctr.of Try.func105 rfl Try.ntmps105 (Nat.le_of_ble_eq_true rfl) fun w0 M0 => (JC.g ?_)
 refine J.boxF (Ts := (pT p)) (.t rfl) (Q0 _) (ltN rfl) fun b2 => ?_
 refine J.o (Y2 (.nil (E := Q5))) rfl (J.e (JC.seq (JC.g (J.o (ofa (.t rfl) T1) rfl (J.o (ol (.t rfl) (.head _) sc3 (Z8 rfl)) rfl (J.M rfl rfl (J.o (U5 (.t rfl) (.t rfl)) rfl (J.M rfl rfl ?_))))))))
 refine J.opg rfl rfl rfl (ltN rfl) (fun hg => Y0 (.t rfl)) rfl (ltN rfl) ?_
 refine J.opg rfl rfl rfl (ltN rfl) (fun hg => ot_gtr (.iff hg (.t rfl)) .is) rfl (ltN rfl) ?_
 refine J.o (R4 (.t rfl) (.t rfl) .is) rfl (J.e ?_)
 refine JC.cond (.t rfl) (fun hc0 => ?_) (fun hc0 => ?_)
 ·try simp only [bsx] at hc0
  have hs12 := hc0
  refine JC.seq ?_
  refine JC.draw (Γ' := ?g1) mo (by kernel_rfl) ?tw1 ?k1
  case tw1 =>
   refine TW.o (ofa (.t rfl) fd28_2) rfl (TW.o (ol (.t rfl) (.head _) sc26 (Z8 rfl)) rfl ?_)
   refine TW.o (ot_slice00 (.t rfl) W5 .is .is) rfl (TW.o (ofa (.t rfl) fd28_2) rfl (TW.o (ol (.t rfl) (.head _) sc26 (Z8 rfl)) rfl ?_))
   refine TW.o (ot_append0 (E := Q5) (xs := p.cs) (.t rfl) (.t rfl) W5 rfl W9 rfl (by omega) (by omega)) rfl ?_
   refine TW.o (Y2 (.t rfl)) rfl ?_
   exact TW.nil
  refine JQ.then_normal (JC.ret (JQ.then_ret ?_))
  exact JQ.ret1 rfl (.tmp (.eq (.t rfl) (by rw [Z0, if_pos hc0])))
 ·try simp only [bsx] at hc0
  have hs12 := hc0
  refine JC.skip (JQ.then_normal (JC.g (J.o (oa (.t rfl) (.head _) Z9 (Q6 (g := Y4) (y := p) (Q0 p).symm rfl)) rfl ?_)))
  refine J.o (K6 (E := Q5) (zs := [p]) W5 (.cons (.t rfl) .nil) rfl W9 rfl (by decide) (by decide)) rfl (J.A rfl rfl (J.e (JC.ret ?_)))
  exact JQ.ret1 rfl (.tmp (.eq (.t rfl) (by rw [Z0, if_neg (by omega)])))

theorem scale_c {B : Nat} (p : Pol) (z : Z) (hf : Fit B p) (hz : U7 z.abs) (hb : B + z.abs.length ≤ 1099511627776) : Ctr Try.prog 79 [tV Q5 p, tV R9 z] (tV Q5 (Z2 p (X4 z))) := by
 induction p using Pol.ind
 rename_i p ih
 have hc := hf.c
 have hcs := hf.cs
 refine Ctr.of Try.func79 rfl Try.ntmps79 (Nat.le_of_ble_eq_true rfl) fun w0 M0 => (JC.g ?_)
 refine J.boxF (Ts := (pT p)) (.t rfl) (Q0 _) (ltN rfl) fun b2 => ?_
 refine J.boxF (Ts := (iT z)) (.t rfl) rfl (ltN rfl) fun b3 => ?_
 refine J.alloc (R := cTs zP) W9 (fun _ => ⟨rfl, rfl, rfl, rfl, Q9 _ _, rfl, Q9 _ _, rfl, trivial⟩) (ltN rfl) fun b4 => (J.e (JC.seq (JC.g (J.o (ofa (.t rfl) T1) rfl (J.o (ol (.t rfl) (.tail _ (.tail _ (.head _))) sc3 (Z8 rfl)) rfl (J.o (U5 (.t rfl) .is) rfl (J.e ?_)))))))
 refine JC.cond (.t rfl) (fun hc0 => ?_) (fun hc0 => ?_)
 ·try simp only [bsx] at hc0
  have hs10 := hc0
  refine (JC.g (J.o (ofa (.t rfl) fd28_1) rfl (J.o (oa (.t rfl) (.tail _ (.tail _ (.head _))) ag25 (Q6 (g := zT) (y := p.c) rfl rfl)) rfl (J.o (oa (.t rfl) (.tail _ (.head _)) ag25 (Q6 (g := zT) (y := z) rfl rfl)) rfl ?_))))
  refine J.o (oc fn97 (intMul_c p.c z (by omega) (by omega)) (.cons (.t rfl) (.cons (.t rfl) .nil))) rfl ?_
  refine J.o (X9 (T' := tV Q5 (Pol.mk 0 (ofI (X4 p.c * X4 z)) ([]))) (V7 (Ts := zP) pl28 (fun _ => ⟨rfl, rfl, rfl, rfl, Q9 _ _, rfl, Q9 _ _, rfl, trivial⟩) ((.agg (off := 1) rfl (.eq (.t rfl) (K2 (Ts := (iT (ofI (X4 p.c * X4 z)))) rfl)) (Ts' := [tIs (.int .i64 0), tIs (.bool ((ofI (X4 p.c * X4 z)).neg)), tSl X8 ((ofI (X4 p.c * X4 z)).abs), tSl Q5 ([])]) rfl rfl .nil)) rfl) (tV_F' (Q0 _))) rfl ?_
  refine J.store (.t rfl) (.eq (.t rfl) (K2 (Ts := [tIs (.int .i64 0), tIs (.bool ((ofI (X4 p.c * X4 z)).neg)), tSl X8 ((ofI (X4 p.c * X4 z)).abs), tSl Q5 ([])]) (Q0 _))) .here U4 (Z4 (Ts' := [tIs (.int .i64 0), tIs (.bool ((ofI (X4 p.c * X4 z)).neg)), tSl X8 ((ofI (X4 p.c * X4 z)).abs), tSl Q5 ([])]) (o := 0) rfl) (J.e (JC.ret (JQ.then_ret ?_)))
  exact JQ.ret1 rfl (.agg (.t rfl) (.head _) Z9 (U3 (T := tV Q5 (Pol.mk 0 (ofI (X4 p.c * X4 z)) ([]))) (T' := tV Q5 (Z2 p (X4 z))) (by rw [scaleP_eq, if_pos hc0]; rfl) (Q6 (g := Y4) (y := (Pol.mk 0 (ofI (X4 p.c * X4 z)) ([]))) (Q0 (Pol.mk 0 (ofI (X4 p.c * X4 z)) ([]))).symm rfl)))
 ·try simp only [bsx] at hc0
  have hs10 := hc0
  refine JC.skip (JQ.then_normal (JC.g (J.o (ofa (.t rfl) fd28_2) rfl (J.o (ol (.t rfl) (.tail _ (.tail _ (.head _))) sc26 (Z8 rfl)) rfl (J.o (Y8 (.t rfl) W5 rfl) rfl ?_)))))
  refine J.make (E := Q5) (z := p0) (n := p.cs.length) W5 (.eq (.t rfl) rfl) (.eq (.t rfl) rfl) W9 (fun _ => encP_zero) (by decide) (by omega) (by omega) (ltN rfl) fun b19 => (J.A rfl rfl (J.e (JC.seq (JC.g (J.o (ofa (.t rfl) fd28_2) rfl (J.o (ol (.t rfl) (.tail _ (.tail _ (.tail _ (.head _)))) sc26 (Z8 rfl)) rfl (J.o (Y8 (.t rfl) W5 rfl) rfl ?_)))))))
  refine J.m .is rfl (J.e (JC.block ?_))
  refine JC.loop (ι := Nat) (fun k => [(2, X7 b2 0), (3, X7 b3 0), (4, X7 b4 0), (5, sIs b19 0 (p.cs.length) (p.cs.length)), (21, tSl Q5 (p.cs)), (22, tIs (.int .i64 (((p.cs).length : Int)))), (23, tIs (.int .i64 (k : Int)))]) (fun k => [⟨b19, 28, Y5 Q5 (fillP (Z2 · (X4 z)) p.cs k) (p.cs.length)⟩, ⟨b4, 28, cTs zP⟩, ⟨b3, 25, cTs (iT z)⟩, ⟨b2, 28, cTs (pT p)⟩]) (fun k => k ≤ p.cs.length) (fun k => p.cs.length - k) 0 (by omega) ?lsub0 ?round0
  case lsub0 => exact Q8 (X3 (.keep (K8 fillP_zero) (.k (.k (.k .nil))))) (Z3 ⟨.t rfl, .t rfl, .t rfl, .t rfl, .t rfl, .t rfl, .eq (.t rfl) (by first | rfl | (congr 3; omega) | (congr 2; omega)), trivial⟩)
  intro k hinv
  have hfl := fillP_len (f := (Z2 · (X4 z))) hinv
  refine (JC.g (J.o (Y6 (.t rfl) (.t rfl)) rfl (J.e (JC.seq ?_))))
  refine JC.cond (.t rfl) (fun hc1 => ?_) (fun hc1 => ?_)
  ·try simp only [bsx] at hc1
   have hs24 := hc1
   refine JC.skip (JQ.then_normal (JC.seq (JC.block (JC.g (J.M rfl rfl ?_)))))
   refine J.o (ixo (z := atP p.cs k) (.t rfl) (.t rfl) W5 (by omega) (atP_at (by omega) (by omega))) rfl (J.o (lda (.t rfl) Z9 V0) rfl ?_)
   refine J.alloc (R := cTs zP) W9 (fun _ => ⟨rfl, rfl, rfl, rfl, Q9 _ _, rfl, Q9 _ _, rfl, trivial⟩) (ltN rfl) fun b7 => (J.A rfl rfl ?_)
   refine J.store (.t rfl) (.eq (.t rfl) (K2 (Ts := (pT (atP p.cs k))) (Q0 _))) .here U4 (Z4 (Ts' := (pT (atP p.cs k))) (o := 0) rfl) (J.e (JC.region (J.M rfl rfl (J.M rfl rfl (J.o (oa (.t rfl) (.head _) Z9 (Q6 (g := Y4) (y := (atP p.cs k)) (Q0 (atP p.cs k)).symm rfl)) rfl (J.o (oa (.t rfl) (.tail _ (.tail _ (.tail _ (.head _)))) ag25 (Q6 (g := zT) (y := z) rfl rfl)) rfl ?_))))))
   refine J.o (oc fn79 (ih (atP p.cs k) (Y3 (by omega)) (hf.at (by omega))) (.cons (.t rfl) (.cons (.t rfl) .nil))) rfl ?_
   refine J.o (X9 (T' := X7 b19 (0 + k * 4)) (oix (.t rfl) (.t rfl) W5 (by omega) (by omega)) (Z7 (by omega))) rfl ?_
   refine J.store (.t rfl) (.t rfl) (.there .here) U4 (T4 (by omega)) (J.nil (JQ.block_normal (JQ.then_normal (JC.region ?_))))
   refine J.o (Z6 (.t rfl) .is (w64 (by omega) (by omega))) rfl (J.M rfl rfl (J.nil ?_))
   exact JQ.round (k + 1) (by omega) (by omega) (Q8 (X3 (.drop (.keep (K8 (fillP_set (by omega))) (.k (.k (.k .nil)))))) (Z3 ⟨.t rfl, .t rfl, .t rfl, .t rfl, .t rfl, .t rfl, .eq (.t rfl) (by first | rfl | (congr 3; omega) | (congr 2; omega)), trivial⟩))
  ·try simp only [bsx] at hc1
   have hs24 := hc1
   refine JC.exit (JQ.then_exit (JQ.then_exit (JQ.block_exit (JQ.then_normal (JC.seq ?_)))))
   refine JC.weak (U9 (E := Q5) (xs := fillP (Z2 · (X4 z)) p.cs k) (n := p.cs.length) (c := p.cs.length) [5] ⟨rfl, trivial⟩ .here (by omega) (by omega)) (JC.region (J.o (ofa (.t rfl) T1) rfl (J.o (ol (.t rfl) (.tail _ (.tail _ (.head _))) sc3 (Z8 rfl)) rfl (J.M rfl rfl ?_))))
   refine J.o (oc fn103 (join_c p.lv (fillP (Z2 · (X4 z)) p.cs k) (by omega) (by rw [fillP_full (by omega)]; intro q hq; obtain ⟨x, hx, rfl⟩ := List.mem_map.1 hq; exact Nat.le_trans (scaleP_fit (hf.sub x hx) (dig_zval hz)).c hb)) (.cons (.t rfl) (.cons (.t rfl) .nil))) rfl ?_
   refine J.store (.t rfl) (.eq (.t rfl) (K2 (Ts := (pT (U0 p.lv (fillP (Z2 · (X4 z)) p.cs k)))) (Q0 _))) .here U4 (Z4 (Ts' := (pT (U0 p.lv (fillP (Z2 · (X4 z)) p.cs k)))) (o := 0) rfl) (J.e (JC.ret ?_))
   exact JQ.ret1 rfl (.agg (.t rfl) (.head _) Z9 (U3 (T := tV Q5 (U0 p.lv (fillP (Z2 · (X4 z)) p.cs k))) (T' := tV Q5 (Z2 p (X4 z))) (by rw [scaleP_eq, if_neg hc0, fillP_full (by omega)]) (Q6 (g := Y4) (y := (U0 p.lv (fillP (Z2 · (X4 z)) p.cs k))) (Q0 (U0 p.lv (fillP (Z2 · (X4 z)) p.cs k))).symm rfl)))

theorem copied_c {B : Nat} (p : Pol) (hf : Fit B p) (hb : B ≤ 1000000000000) : Ctr Try.prog 89 [tV Q5 p] (tV Q5 (Z2 p 1)) := by
 refine Ctr.of Try.func89 rfl Try.ntmps89 (Nat.le_of_ble_eq_true rfl) fun w0 M0 => (JC.g ?_)
 refine J.boxF (Ts := (pT p)) (.t rfl) (Q0 _) (ltN rfl) fun b1 => ?_
 refine J.alloc (R := cTs zP) W9 (fun _ => ⟨rfl, rfl, rfl, rfl, Q9 _ _, rfl, Q9 _ _, rfl, trivial⟩) (ltN rfl) fun b2 => (J.e (JC.seq ?_))
 refine JC.drawAt (Γ' := ?g1) 3 mo (by kernel_rfl) ?tw1 ?k1
 case tw1 =>
  refine TW.o (oa (.t rfl) (.tail _ (.head _)) Z9 (Q6 (g := Y4) (y := p) (Q0 p).symm rfl)) rfl ?_
  refine TW.o (oc fn37 (intOf_c 1 (by omega)) (.cons .is .nil)) rfl ?_
  refine TW.o (X9 (T' := tV Q5 (Z2 p 1)) (oc fn79 (scale_c p (ofI 1) (by assumption) (digs_dig _) (by rw [ofI1_len]; omega)) (.cons (.t rfl) (.cons (.t rfl) .nil))) (by rw [Y9])) rfl ?_
  exact TW.nil
 refine J.store (.t rfl) (.eq (.t rfl) (K2 (Ts := (pT (Z2 p 1))) (Q0 _))) .here U4 (Z4 (Ts' := (pT (Z2 p 1))) (o := 0) rfl) (J.e (JC.ret ?_))
 exact JQ.ret1 rfl (.agg (.t rfl) (.head _) Z9 (Q6 (g := Y4) (y := (Z2 p 1)) (Q0 (Z2 p 1)).symm rfl))

theorem canonical_c {B : Nat} (p : Pol) (b : Int) (hf : Fit B p) (hb : B ≤ 1099511627776) : Ctr Try.prog 88 [tV Q5 p, tIs (.int .i64 b)] (tIs (.bool (canonB p b))) := by
 induction p using Pol.ind generalizing b
 rename_i p ih
 have hc := hf.c
 have hcs := hf.cs
 refine Ctr.of Try.func88 rfl Try.ntmps88 (Nat.le_of_ble_eq_true rfl) fun w0 M0 => (JC.g ?_)
 refine J.boxF (Ts := (pT p)) (.t rfl) (Q0 _) (ltN rfl) fun b2 => ?_
 refine J.a .is rfl (J.e (JC.seq (JC.g (J.o (ofa (.t rfl) T1) rfl (J.o (ol (.t rfl) (.head _) sc3 (Z8 rfl)) rfl (J.o (U5 (.t rfl) .is) rfl (J.e ?_)))))))
 refine JC.cond (.t rfl) (fun hc0 => ?_) (fun hc0 => ?_)
 ·try simp only [bsx] at hc0
  have hs9 := hc0
  refine (JC.g (J.o (ofa (.t rfl) fd28_2) rfl (J.o (ol (.t rfl) (.head _) sc26 (Z8 rfl)) rfl (J.o (Y8 (.t rfl) W5 rfl) rfl (J.o (U5 (.t rfl) .is) rfl (J.M rfl rfl ?_))))))
  refine J.opg rfl rfl rfl (ltN rfl) (fun hg => ofa (.t rfl) fd28_1) rfl (ltN rfl) ?_
  refine J.opg rfl rfl rfl (ltN rfl) (fun hg => ofa (.iff hg (.t rfl)) fd25_0) rfl (ltN rfl) ?_
  refine J.opg rfl rfl rfl (ltN rfl) (fun hg => ol (.iff hg (.t rfl)) (.head _) sc4 (Z8 rfl)) rfl (ltN rfl) ?_
  refine J.opg rfl rfl rfl (ltN rfl) (fun hg => ot_not (.iff hg (.t rfl))) rfl (ltN rfl) ?_
  refine J.opg rfl rfl rfl (ltN rfl) (fun hg => Y0 (.iff hg (.t rfl))) rfl (ltN rfl) ?_
  refine J.opgg rfl rfl rfl (ltN rfl) (fun hg => ofa (.t rfl) fd28_1) rfl (ltN rfl) ?_
  refine J.opgg rfl rfl rfl (ltN rfl) (fun hg => oa (.iff hg (.t rfl)) (.head _) ag25 (Q6 (g := zT) (y := p.c) rfl rfl)) rfl (ltN rfl) ?_
  refine J.opgg rfl rfl rfl (ltN rfl) (fun hg => (by have hg' := hg; (try simp only [bsx] at hg'); exact oc fn35 (intSign_c p.c (by omega)) (.cons (.iff hg (.t rfl)) .nil))) rfl (ltN rfl) ?_
  refine J.opgg rfl rfl rfl (ltN rfl) (fun hg => ot_neq (.iff hg (.t rfl)) .is) rfl (ltN rfl) ?_
  refine J.opg rfl rfl rfl (ltN rfl) (fun hg => ot_or2 (.iff hg (.t rfl)) .is (.iffr hg (.t rfl))) rfl (ltN rfl) ?_
  refine J.o (R4 (.t rfl) (.t rfl) .is) rfl (J.A rfl rfl (J.e (JC.ret (JQ.then_ret ?_))))
  exact JQ.ret1 rfl (.tmp (.eq (.t rfl) (by rw [canon_0 hc0])))
 ·try simp only [bsx] at hc0
  have hs9 := hc0
  refine JC.skip (JQ.then_normal (JC.seq (JC.g (J.o (ofa (.t rfl) T1) rfl (J.o (ol (.t rfl) (.head _) sc3 (Z8 rfl)) rfl (J.o (Y6 (.t rfl) .is) rfl (J.M rfl rfl ?_)))))))
  refine J.opg rfl rfl rfl (ltN rfl) (fun hg => ofa (.t rfl) T1) rfl (ltN rfl) ?_
  refine J.opg rfl rfl rfl (ltN rfl) (fun hg => ol (.iff hg (.t rfl)) (.head _) sc3 (Z8 rfl)) rfl (ltN rfl) ?_
  refine J.opg rfl rfl rfl (ltN rfl) (fun hg => Y0 (.t rfl)) rfl (ltN rfl) ?_
  refine J.opg rfl rfl rfl (ltN rfl) (fun hg => ot_geq (.iff hg (.t rfl)) (.iff hg (.t rfl))) rfl (ltN rfl) ?_
  refine J.o (ot_or2 (.t rfl) .is (.t rfl)) rfl (J.M rfl rfl ?_)
  refine J.opg rfl rfl rfl (ltN rfl) (fun hg => ofa (.t rfl) fd28_2) rfl (ltN rfl) ?_
  refine J.opg rfl rfl rfl (ltN rfl) (fun hg => ol (.iff hg (.t rfl)) (.head _) sc26 (Z8 rfl)) rfl (ltN rfl) ?_
  refine J.opg rfl rfl rfl (ltN rfl) (fun hg => Y8 (.iff hg (.t rfl)) W5 rfl) rfl (ltN rfl) ?_
  refine J.opg rfl rfl rfl (ltN rfl) (fun hg => Y6 (.iff hg (.t rfl)) .is) rfl (ltN rfl) ?_
  refine J.o (ot_or2 (.t rfl) .is (.t rfl)) rfl (J.M rfl rfl ?_)
  refine J.opg rfl rfl rfl (ltN rfl) (fun hg => ofa (.t rfl) fd28_1) rfl (ltN rfl) ?_
  refine J.opg rfl rfl rfl (ltN rfl) (fun hg => oa (.iff hg (.t rfl)) (.head _) ag25 (Q6 (g := zT) (y := p.c) rfl rfl)) rfl (ltN rfl) ?_
  refine J.opg rfl rfl rfl (ltN rfl) (fun hg => (by have hg' := hg; (try simp only [bsx] at hg'); exact oc fn35 (intSign_c p.c (by omega)) (.cons (.iff hg (.t rfl)) .nil))) rfl (ltN rfl) ?_
  refine J.opg rfl rfl rfl (ltN rfl) (fun hg => ot_neq (.iff hg (.t rfl)) .is) rfl (ltN rfl) ?_
  refine J.o (ot_or2 (.t rfl) .is (.t rfl)) rfl (J.e ?_)
  refine JC.cond (.t rfl) (fun hc1 => ?_) (fun hc1 => ?_)
  ·try simp only [bsx] at hc1
   have hs46 := hc1
   refine (JC.g ?_)
   refine J.a .is rfl (J.e (JC.ret (JQ.then_ret ?_)))
   exact JQ.ret1 rfl (.tmp (.eq (.t rfl) (by rw [canon_no hc0 (by simpa using hc1)])))
  ·try simp only [bsx] at hc1
   have hs46 := hc1
   refine JC.skip (JQ.then_normal (JC.seq (JC.g (J.o (ofa (.t rfl) fd28_2) rfl (J.o (ol (.t rfl) (.head _) sc26 (Z8 rfl)) rfl (J.o (Y8 (.t rfl) W5 rfl) rfl ?_))))))
   refine J.m .is rfl (J.e (JC.block ?_))
   refine JC.loop (ι := Nat) (fun k => [(2, X7 b2 0), (48, tSl Q5 (p.cs)), (49, tIs (.int .i64 (((p.cs).length : Int)))), (50, tIs (.int .i64 (k : Int)))]) (fun k => [⟨b2, 28, cTs (pT p)⟩]) (fun k => k ≤ p.cs.length ∧ (p.cs.take k).all (canonB · p.lv) = true) (fun k => p.cs.length - k) 0 ⟨by omega, by simp⟩ ?lsub0 ?round0
   case lsub0 => exact Q8 (X3 (.k .nil)) (Z3 ⟨.t rfl, .t rfl, .t rfl, .eq (.t rfl) (by first | rfl | (congr 3; omega) | (congr 2; omega)), trivial⟩)
   intro k hinv
   obtain ⟨hk, hall⟩ := hinv
   refine (JC.g (J.o (Y6 (.t rfl) (.t rfl)) rfl (J.e (JC.seq ?_))))
   refine JC.cond (.t rfl) (fun hc2 => ?_) (fun hc2 => ?_)
   ·try simp only [bsx] at hc2
    have hs51 := hc2
    refine JC.skip (JQ.then_normal (JC.seq (JC.block (JC.g ?_))))
    refine J.o (ixo (z := atP p.cs k) (.t rfl) (.t rfl) W5 (by omega) (atP_at (by omega) (by omega))) rfl (J.o (lda (.t rfl) Z9 V0) rfl ?_)
    refine J.alloc (R := cTs zP) W9 (fun _ => ⟨rfl, rfl, rfl, rfl, Q9 _ _, rfl, Q9 _ _, rfl, trivial⟩) (ltN rfl) fun b6 => ?_
    refine J.store (.t rfl) (.eq (.t rfl) (K2 (Ts := (pT (atP p.cs k))) (Q0 _))) .here U4 (Z4 (Ts' := (pT (atP p.cs k))) (o := 0) rfl) (J.e (JC.g (J.o (oa (.t rfl) (.head _) Z9 (Q6 (g := Y4) (y := (atP p.cs k)) (Q0 (atP p.cs k)).symm rfl)) rfl (J.o (ofa (.t rfl) T1) rfl (J.o (ol (.t rfl) (.tail _ (.head _)) sc3 (Z8 rfl)) rfl ?_)))))
    refine J.o (oc fn88 (ih (atP p.cs k) (Y3 (by omega)) p.lv (hf.at (by omega))) (.cons (.t rfl) (.cons (.t rfl) .nil))) rfl (J.o (ot_not (.t rfl)) rfl (J.e ?_))
    refine JC.cond (.t rfl) (fun hc3 => ?_) (fun hc3 => ?_)
    ·try simp only [bsx] at hc3
     have hs58 := hc3
     refine (JC.g ?_)
     refine J.a .is rfl (J.e (JC.ret (JQ.block_ret (JQ.then_ret (JQ.then_ret (JQ.block_ret (JQ.then_ret ?_)))))))
     exact JQ.ret1 rfl (.tmp (.eq (.t rfl) (by rw [canon_sub (k := k) hc0 (by omega) (by simpa using hc3)])))
    ·try simp only [bsx] at hc3
     have hs58 := hc3
     refine JC.skip (JQ.block_normal (JQ.then_normal (JC.region ?_)))
     refine J.o (Z6 (.t rfl) .is (w64 (by omega) (by omega))) rfl (J.M rfl rfl (J.nil ?_))
     exact JQ.round (k + 1) ⟨by omega, all_take (by omega) hall (by simpa using hc3)⟩ (by omega) (Q8 (X3 (.drop (.k .nil))) (Z3 ⟨.t rfl, .t rfl, .t rfl, .eq (.t rfl) (by first | rfl | (congr 3; omega) | (congr 2; omega)), trivial⟩))
   ·try simp only [bsx] at hc2
    have hs51 := hc2
    have hcn : ((¬ p.lv < 0 ∧ ¬ b ≤ p.lv) ∧ ¬ (p.cs.length : Int) < 2) ∧ sgn (X4 p.c) = 0 := by simpa using hc1
    refine JC.exit (JQ.then_exit (JQ.then_exit (JQ.block_exit (JQ.then_normal (JC.g (J.o (ofa (.t rfl) fd28_2) rfl (J.o (ol (.t rfl) (.head _) sc26 (Z8 rfl)) rfl (J.o (ofa (.t rfl) fd28_2) rfl (J.o (ol (.t rfl) (.head _) sc26 (Z8 rfl)) rfl (J.o (Y8 (.t rfl) W5 rfl) rfl ?_))))))))))
    refine J.o (K4 (.t rfl) .is (w64 (by omega) (by omega))) rfl ?_
    refine J.o (ixo (z := atP p.cs (p.cs.length - 1)) (.t rfl) (.t rfl) W5 (by omega) (atP_at (by omega) (by omega))) rfl (J.o (lda (.t rfl) Z9 V0) rfl ?_)
    refine J.o (oc fn76 (pzero_c (atP p.cs (p.cs.length - 1)) (Nat.le_trans (hf.at (i := p.cs.length - 1) (by omega)).c hb)) (.cons (.t rfl) .nil)) rfl (J.o (ot_not (.t rfl)) rfl (J.A rfl rfl (J.e (JC.ret ?_))))
    exact JQ.ret1 rfl (.tmp (.eq (.t rfl) (by rw [canon_end hc0 hcn (by omega) hall])))

theorem rnormal_c {B : Nat} (p : Pol) (hf : Fit B p) (hb : B ≤ 1000000000000) (hn : p.lv ≤ 0 ∨ 4 < p.lv ∨ canonB p 5 = true) : Ctr Try.prog 45 [tV Q5 p] (tV Q5 (normC p)) := by
 have hc := hf.c
 refine Ctr.of Try.func45 rfl Try.ntmps45 (Nat.le_of_ble_eq_true rfl) fun w0 M0 => (JC.g ?_)
 refine J.boxF (Ts := (pT p)) (.t rfl) (Q0 _) (ltN rfl) fun b1 => ?_
 refine J.alloc (R := cTs zP) W9 (fun _ => ⟨rfl, rfl, rfl, rfl, Q9 _ _, rfl, Q9 _ _, rfl, trivial⟩) (ltN rfl) fun b2 => (J.e (JC.seq (JC.g (J.o (ofa (.t rfl) T1) rfl (J.o (ol (.t rfl) (.tail _ (.head _)) sc3 (Z8 rfl)) rfl (J.o (ot_leq (.t rfl) .is) rfl (J.e ?_)))))))
 refine JC.cond (.t rfl) (fun hc0 => ?_) (fun hc0 => ?_)
 ·try simp only [bsx] at hc0
  have hs8 := hc0
  refine (JC.g (J.o (ofa (.t rfl) fd28_1) rfl (J.o (oa (.t rfl) (.tail _ (.head _)) ag25 (Q6 (g := zT) (y := p.c) rfl rfl)) rfl ?_)))
  refine J.o (oc fn81 (intNormal_c p.c (by omega)) (.cons (.t rfl) .nil)) rfl ?_
  refine J.o (X9 (T' := tV Q5 (Pol.mk 0 (ofI (X4 p.c)) ([]))) (V7 (Ts := zP) pl28 (fun _ => ⟨rfl, rfl, rfl, rfl, Q9 _ _, rfl, Q9 _ _, rfl, trivial⟩) ((.agg (off := 1) rfl (.eq (.t rfl) (K2 (Ts := (iT (ofI (X4 p.c)))) rfl)) (Ts' := [tIs (.int .i64 0), tIs (.bool ((ofI (X4 p.c)).neg)), tSl X8 ((ofI (X4 p.c)).abs), tSl Q5 ([])]) rfl rfl .nil)) rfl) (tV_F' (Q0 _))) rfl ?_
  refine J.store (.t rfl) (.eq (.t rfl) (K2 (Ts := [tIs (.int .i64 0), tIs (.bool ((ofI (X4 p.c)).neg)), tSl X8 ((ofI (X4 p.c)).abs), tSl Q5 ([])]) (Q0 _))) .here U4 (Z4 (Ts' := [tIs (.int .i64 0), tIs (.bool ((ofI (X4 p.c)).neg)), tSl X8 ((ofI (X4 p.c)).abs), tSl Q5 ([])]) (o := 0) rfl) (J.e (JC.ret (JQ.then_ret ?_)))
  exact JQ.ret1 rfl (.agg (.t rfl) (.head _) Z9 (U3 (T := tV Q5 (Pol.mk 0 (ofI (X4 p.c)) ([]))) (T' := tV Q5 (normC p)) (by rw [normC, if_pos hc0]; rfl) (Q6 (g := Y4) (y := (Pol.mk 0 (ofI (X4 p.c)) ([]))) (Q0 (Pol.mk 0 (ofI (X4 p.c)) ([]))).symm rfl)))
 ·try simp only [bsx] at hc0
  have hs8 := hc0
  refine JC.skip (JQ.then_normal (JC.seq (JC.g (J.o (ofa (.t rfl) T1) rfl (J.o (ol (.t rfl) (.tail _ (.head _)) sc3 (Z8 rfl)) rfl (J.o (ot_gtr (.t rfl) .is) rfl (J.e ?_)))))))
  refine JC.cond (.t rfl) (fun hc1 => ?_) (fun hc1 => ?_)
  ·try simp only [bsx] at hc1
   have hs15 := hc1
   refine (JC.g ?_)
   refine J.o (X9 (T' := tV Q5 (Pol.mk 0 (Z.mk false ([])) ([]))) (V7 (Ts := zP) pl28 (fun _ => ⟨rfl, rfl, rfl, rfl, Q9 _ _, rfl, Q9 _ _, rfl, trivial⟩) (.nil) rfl) (tV_F' (Q0 _))) rfl ?_
   refine J.store (.t rfl) (.eq (.t rfl) (K2 (Ts := zP) (Q0 _))) .here U4 (Z4 (Ts' := zP) (o := 0) rfl) (J.e (JC.ret (JQ.then_ret ?_)))
   exact JQ.ret1 rfl (.agg (.t rfl) (.head _) Z9 (U3 (T := tV Q5 (Pol.mk 0 (Z.mk false ([])) ([]))) (T' := tV Q5 (normC p)) (by rw [normC, if_neg hc0, if_pos hc1]; rfl) (Q6 (g := Y4) (y := (Pol.mk 0 (Z.mk false ([])) ([]))) (Q0 (Pol.mk 0 (Z.mk false ([])) ([]))).symm rfl)))
  ·try simp only [bsx] at hc1
   have hs15 := hc1
   refine JC.skip (JQ.then_normal (JC.seq (JC.g (J.o (oa (.t rfl) (.tail _ (.head _)) Z9 (Q6 (g := Y4) (y := p) (Q0 p).symm rfl)) rfl ?_))))
   refine J.o (oc fn88 (canonical_c p 5 (by assumption) (by omega)) (.cons (.t rfl) (.cons .is .nil))) rfl (J.e ?_)
   refine JC.cond_true (.eq (.t rfl) (by rcases hn with h | h | h <;> first | omega | rw [h])) (JC.g (J.o (oa (.t rfl) (.tail _ (.head _)) Z9 (Q6 (g := Y4) (y := p) (Q0 p).symm rfl)) rfl ?_))
   refine J.o (oc fn89 (copied_c p (by assumption) (by assumption)) (.cons (.t rfl) .nil)) rfl ?_
   refine J.store (.t rfl) (.eq (.t rfl) (K2 (Ts := (pT (Z2 p 1))) (Q0 _))) .here U4 (Z4 (Ts' := (pT (Z2 p 1))) (o := 0) rfl) (J.e (JC.ret (JQ.then_ret ?_)))
   exact JQ.ret1 rfl (.agg (.t rfl) (.head _) Z9 (U3 (T := tV Q5 (Z2 p 1)) (T' := tV Q5 (normC p)) (by rw [normC, if_neg hc0, if_neg hc1]) (Q6 (g := Y4) (y := (Z2 p 1)) (Q0 (Z2 p 1)).symm rfl)))

theorem var_c (l : Int) : Ctr Try.prog 55 [tIs (.int .i64 l)] (tV Q5 (varP l)) := by
 refine Ctr.of Try.func55 rfl Try.ntmps55 (Nat.le_of_ble_eq_true rfl) fun w0 M0 => (JC.g ?_)
 refine J.alloc (R := cTs zP) W9 (fun _ => ⟨rfl, rfl, rfl, rfl, Q9 _ _, rfl, Q9 _ _, rfl, trivial⟩) (ltN rfl) fun b2 => (J.e (JC.seq (JC.g (J.M rfl rfl (J.o (Y6 (.t rfl) .is) rfl (J.M rfl rfl ?_))))))
 refine J.opg rfl rfl rfl (ltN rfl) (fun hg => Y0 (.t rfl)) rfl (ltN rfl) ?_
 refine J.opg rfl rfl rfl (ltN rfl) (fun hg => ot_gtr (.iff hg (.t rfl)) .is) rfl (ltN rfl) ?_
 refine J.o (ot_or2 (.t rfl) .is (.t rfl)) rfl (J.e ?_)
 refine JC.cond (.t rfl) (fun hc0 => ?_) (fun hc0 => ?_)
 ·try simp only [bsx] at hc0
  have hs8 := hc0
  refine (JC.g ?_)
  refine J.o (X9 (T' := tV Q5 (Pol.mk 0 (Z.mk false ([])) ([]))) (V7 (Ts := zP) pl28 (fun _ => ⟨rfl, rfl, rfl, rfl, Q9 _ _, rfl, Q9 _ _, rfl, trivial⟩) (.nil) rfl) (tV_F' (Q0 _))) rfl ?_
  refine J.store (.t rfl) (.eq (.t rfl) (K2 (Ts := zP) (Q0 _))) .here U4 (Z4 (Ts' := zP) (o := 0) rfl) (J.e (JC.ret (JQ.then_ret ?_)))
  exact JQ.ret1 rfl (.agg (.t rfl) (.head _) Z9 (U3 (T := tV Q5 (Pol.mk 0 (Z.mk false ([])) ([]))) (T' := tV Q5 (varP l)) (by rw [varP, if_pos hc0]; rfl) (Q6 (g := Y4) (y := (Pol.mk 0 (Z.mk false ([])) ([]))) (Q0 (Pol.mk 0 (Z.mk false ([])) ([]))).symm rfl)))
 ·try simp only [bsx] at hc0
  have hs8 := hc0
  refine JC.skip (JQ.then_normal (JC.g (J.M rfl rfl ?_)))
  refine J.o (X9 (T' := tV Q5 (Pol.mk 0 (Z.mk false ([])) ([]))) (V7 (Ts := zP) pl28 (fun _ => ⟨rfl, rfl, rfl, rfl, Q9 _ _, rfl, Q9 _ _, rfl, trivial⟩) (.nil) rfl) (tV_F' (Q0 _))) rfl ?_
  refine J.o (oc fn37 (intOf_c 1 (by omega)) (.cons .is .nil)) rfl ?_
  refine J.o (X9 (T' := tV Q5 (Pol.mk 0 (ofI 1) ([]))) (V7 (Ts := zP) pl28 (fun _ => ⟨rfl, rfl, rfl, rfl, Q9 _ _, rfl, Q9 _ _, rfl, trivial⟩) ((.agg (off := 1) rfl (.eq (.t rfl) (K2 (Ts := (iT (ofI 1))) rfl)) (Ts' := [tIs (.int .i64 0), tIs (.bool ((ofI 1).neg)), tSl X8 ((ofI 1).abs), tSl Q5 ([])]) rfl rfl .nil)) rfl) (tV_F' (Q0 _))) rfl ?_
  refine J.o (K6 (E := Q5) (zs := [Pol.mk 0 (Z.mk false ([])) ([]), Pol.mk 0 (ofI 1) ([])]) W5 (.cons (.t rfl) (.cons (.t rfl) .nil)) rfl W9 rfl (by decide) (by decide)) rfl ?_
  refine J.o (X9 (T' := tV Q5 (Pol.mk l (Z.mk false ([])) ([Pol.mk 0 (Z.mk false ([])) ([]), Pol.mk 0 (ofI 1) ([])]))) (V7 (Ts := zP) pl28 (fun _ => ⟨rfl, rfl, rfl, rfl, Q9 _ _, rfl, Q9 _ _, rfl, trivial⟩) ((.one (off := 0) rfl (.t rfl) (one_is rfl rfl) (Ts' := [tIs (.int .i64 l), tIs (.bool false), tSl X8 ([]), tSl Q5 ([])]) rfl rfl (.one (off := 3) rfl (.t rfl) one_sl (Ts' := [tIs (.int .i64 l), tIs (.bool false), tSl X8 ([]), tSl Q5 ([Pol.mk 0 (Z.mk false ([])) ([]), Pol.mk 0 (ofI 1) ([])])]) rfl rfl .nil))) rfl) (tV_F' (Q0 _))) rfl ?_
  refine J.store (.t rfl) (.eq (.t rfl) (K2 (Ts := [tIs (.int .i64 l), tIs (.bool false), tSl X8 ([]), tSl Q5 ([Pol.mk 0 (Z.mk false ([])) ([]), Pol.mk 0 (ofI 1) ([])])]) (Q0 _))) .here U4 (Z4 (Ts' := [tIs (.int .i64 l), tIs (.bool false), tSl X8 ([]), tSl Q5 ([Pol.mk 0 (Z.mk false ([])) ([]), Pol.mk 0 (ofI 1) ([])])]) (o := 0) rfl) (J.e (JC.ret ?_))
  exact JQ.ret1 rfl (.agg (.t rfl) (.head _) Z9 (U3 (T := tV Q5 (Pol.mk l (Z.mk false ([])) ([Pol.mk 0 (Z.mk false ([])) ([]), Pol.mk 0 (ofI 1) ([])]))) (T' := tV Q5 (varP l)) (by rw [varP, if_neg (by omega)]; rfl) (Q6 (g := Y4) (y := (Pol.mk l (Z.mk false ([])) ([Pol.mk 0 (Z.mk false ([])) ([]), Pol.mk 0 (ofI 1) ([])]))) (Q0 (Pol.mk l (Z.mk false ([])) ([Pol.mk 0 (Z.mk false ([])) ([]), Pol.mk 0 (ofI 1) ([])]))).symm rfl)))

theorem sum_c (f : Pol → Pol → Pol) (xs ys : List Pol) (hadd : ∀ x ∈ xs, ∀ y ∈ ys, Ctr Try.prog 72 [tV Q5 x, tV Q5 y] (tV Q5 (f x y))) (hx : 0 < xs.length ∧ xs.length ≤ 4294967296) (hy : ys.length ≤ 4294967296) : Ctr Try.prog 104 [tSl (encSl Q5) ([xs, ys])] (tSl Q5 (zipP f xs ys)) := by
 have hl2 : ([xs, ys] : List (List Pol)).length = 2 := rfl
 refine Ctr.of Try.func104 rfl Try.ntmps104 (Nat.le_of_ble_eq_true rfl) fun w0 M0 => (JC.g ?_)
 refine J.o (Y2 (.nil (E := Q5))) rfl (J.e (JC.g ?_))
 refine J.a .is rfl (J.e (JC.seq (JC.g (J.M rfl rfl (J.o (Y8 (.t rfl) sl151 rfl) rfl ?_)))))
 refine J.m .is rfl (J.e (JC.block ?_))
 refine JC.peel4 (α := Nat) (β := List Pol) (γ := Nat) (δ := Nat) (fun j O b c => [(2, tSl Q5 ([])), (3, sIs b 0 (O.length) c), (8, tSl (encSl Q5) ([xs, ys])), (9, tIs (.int .i64 ((([xs, ys]).length : Int)))), (10, tIs (.int .i64 (j : Int)))]) (fun j O b c => [⟨b, 28, Y5 Q5 O c⟩]) (fun j O b c => (j = 1 ∧ O = xs) ∨ (j = 2 ∧ O = zipP f xs ys)) (fun j O b c => 2 - j) 2 ?first0 ?round0
 case first0 =>
  refine (JC.g (J.o (Y6 (.t rfl) (.t rfl)) rfl (J.e (JC.seq ?_))))
  refine JC.cond_true (.eq (.t rfl) (by rfl)) (JC.skip (JQ.then_normal (JC.seq (JC.block (JC.g ?_)))))
  refine J.o (ixo (z := xs) (.t rfl) (.t rfl) sl151 (by omega) (two_at0 (by omega))) rfl (J.o (ld (.t rfl) sc26 encSl_ld) rfl (J.A rfl rfl (J.e (JC.g (J.M rfl rfl (J.o (Y8 (.t rfl) W5 rfl) rfl ?_))))))
  refine J.m .is rfl (J.e (JC.block ?_))
  refine JC.peel3 (α := Nat) (β := Nat) (γ := Nat) (fun k b c => [(2, tSl Q5 ([])), (3, sIs b 0 k c), (5, tSl Q5 xs), (8, tSl (encSl Q5) ([xs, ys])), (9, tIs (.int .i64 ((([xs, ys]).length : Int)))), (10, tIs (.int .i64 0)), (11, tIs (.bool (decide (0 < (([xs, ys]).length : Int))))), (12, tPtr (cEnc (encSl Q5) xs)), (13, tSl Q5 xs), (14, tSl Q5 xs), (15, tIs (.int .i64 (((xs).length : Int)))), (16, tIs (.int .i64 (k : Int)))]) (fun k b c => [⟨b, 28, Y5 Q5 (xs.take k) c⟩]) (fun k b c => 1 ≤ k ∧ k ≤ xs.length) (fun k b c => xs.length - k) xs.length ?first1 ?round1
  case first1 =>
   refine (JC.g (J.o (Y6 (.t rfl) (.t rfl)) rfl (J.e (JC.seq ?_))))
   refine JC.cond_true (.eq (.t rfl) (by rw [decide_eq_true (by omega)])) (JC.skip (JQ.then_normal (JC.seq (JC.block (JC.g (J.M rfl rfl ?_))))))
   refine J.o (ixo (z := atP xs 0) (.t rfl) (.t rfl) W5 (by omega) (atP_at (by omega) (by omega))) rfl (J.o (lda (.t rfl) Z9 V0) rfl ?_)
   refine J.alloc (R := cTs zP) W9 (fun _ => ⟨rfl, rfl, rfl, rfl, Q9 _ _, rfl, Q9 _ _, rfl, trivial⟩) (ltN rfl) fun b7 => (J.A rfl rfl ?_)
   refine J.store (.t rfl) (.eq (.t rfl) (K2 (Ts := (pT (atP xs 0))) (Q0 _))) .here U4 (Z4 (Ts' := (pT (atP xs 0))) (o := 0) rfl) (J.e (JC.g (J.M rfl rfl (J.M rfl rfl ?_))))
   refine J.o (ot_len_nil (.t rfl) W5 rfl) rfl (J.o (Y6 (.t rfl) (.t rfl)) rfl (J.e ?_))
   refine JC.cond_false (.eq (.t rfl) (by rfl)) (JC.region (J.M rfl rfl (J.o (oa (.t rfl) (.head _) Z9 (Q6 (g := Y4) (y := (atP xs 0)) (Q0 (atP xs 0)).symm rfl)) rfl ?_)))
   refine J.o (K6 (E := Q5) (zs := [atP xs 0]) W5 (.cons (.t rfl) .nil) rfl W9 rfl (by decide) (by decide)) rfl ?_
   refine J.append0 (E := Q5) (ys := [atP xs 0]) (.sub (.t rfl) nil_z) (.t rfl) (by simp) W5 rfl W9 rfl (by simp <;> omega) (by simp <;> omega) (ltN rfl) fun b37 c37 => (J.A rfl rfl (J.nil (JQ.block_normal (JQ.then_normal (JC.region ?_)))))
   refine J.o (Z6 (.t rfl) .is (w64 (by omega) (by omega))) rfl (J.M rfl rfl (J.nil ?_))
   exact JQ.first3 1 b37 c37 ⟨by omega, by omega⟩ (by omega) (Q8 (X3 (.keep (K8 (takeP_one (by omega))) (.drop .nil))) (Z3 ⟨.t rfl, .eq (.t rfl) (by first | rfl | (congr 3; omega) | (congr 2; omega)), .t rfl, .t rfl, .t rfl, .t rfl, .t rfl, .t rfl, .t rfl, .t rfl, .t rfl, .eq (.t rfl) (by first | rfl | (congr 3; omega) | (congr 2; omega)), trivial⟩))
  intro k b c hinv
  refine (JC.g (J.o (Y6 (.t rfl) (.t rfl)) rfl (J.e (JC.seq ?_))))
  refine JC.cond (.t rfl) (fun hc3 => ?_) (fun hc3 => ?_)
  ·try simp only [bsx] at hc3
   have hs17 := hc3
   refine JC.skip (JQ.then_normal (JC.seq (JC.block (JC.g (J.M rfl rfl ?_)))))
   refine J.o (ixo (z := atP xs k) (.t rfl) (.t rfl) W5 (by omega) (atP_at (by omega) (by omega))) rfl (J.o (lda (.t rfl) Z9 V0) rfl ?_)
   refine J.alloc (R := cTs zP) W9 (fun _ => ⟨rfl, rfl, rfl, rfl, Q9 _ _, rfl, Q9 _ _, rfl, trivial⟩) (ltN rfl) fun b7 => (J.A rfl rfl ?_)
   refine J.store (.t rfl) (.eq (.t rfl) (K2 (Ts := (pT (atP xs k))) (Q0 _))) .here U4 (Z4 (Ts' := (pT (atP xs k))) (o := 0) rfl) (J.e (JC.g (J.M rfl rfl (J.M rfl rfl ?_))))
   refine J.o (T8 (.t rfl) W5 rfl) rfl (J.o (Y6 (.t rfl) (.t rfl)) rfl (J.e ?_))
   refine JC.cond_false (.eq (.t rfl) (by rw [decide_eq_false (by omega)])) (JC.region (J.M rfl rfl (J.o (oa (.t rfl) (.head _) Z9 (Q6 (g := Y4) (y := (atP xs k)) (Q0 (atP xs k)).symm rfl)) rfl ?_)))
   refine J.o (K6 (E := Q5) (zs := [atP xs k]) W5 (.cons (.t rfl) .nil) rfl W9 rfl (by decide) (by decide)) rfl ?_
   refine J.append (E := Q5) (xs := xs.take k) (ys := [atP xs k]) (.t rfl) (by simp <;> omega) (.t rfl) W5 rfl W9 rfl (.there .here) (by simp <;> omega) (by simp <;> omega) (ltN rfl) fun b37 c37 => (J.A rfl rfl (J.nil (JQ.block_normal (JQ.then_normal (JC.region ?_)))))
   refine J.o (Z6 (.t rfl) .is (w64 (by omega) (by omega))) rfl (J.M rfl rfl (J.nil ?_))
   exact JQ.round3 (i := k) (i2 := b) (i3 := c) (k + 1) b37 c37 ⟨by omega, by omega⟩ (by omega) (Q8 (X3 (.keep (K8 (takeP_snoc (by omega))) (.drop .nil))) (Z3 ⟨.t rfl, .eq (.t rfl) (by congr 1; simp; omega), .t rfl, .t rfl, .t rfl, .t rfl, .t rfl, .t rfl, .t rfl, .t rfl, .t rfl, .eq (.t rfl) (by first | rfl | (congr 3; omega) | (congr 2; omega)), trivial⟩))
  ·try simp only [bsx] at hc3
   have hs17 := hc3
   refine JC.exit (JQ.then_exit (JQ.then_exit (JQ.block_exit (JQ.block_normal (JQ.then_normal (JC.region ?_))))))
   refine J.o (Z6 (.t rfl) .is (w64 (by omega) (by omega))) rfl (J.M rfl rfl (J.nil ?_))
   exact JQ.first4 1 xs b c (.inl ⟨rfl, rfl⟩) (by omega) (Q8 (X3 (.keep (K8 (List.take_of_length_le (by omega))) .nil)) (Z3 ⟨.t rfl, .eq (.t rfl) (by first | rfl | (congr 3; omega) | (congr 2; omega)), .t rfl, .t rfl, .eq (.t rfl) (by first | rfl | (congr 3; omega) | (congr 2; omega)), trivial⟩))
 intro j O b c hinv
 refine (JC.g (J.o (Y6 (.t rfl) (.t rfl)) rfl (J.e (JC.seq ?_))))
 refine JC.cond (.t rfl) (fun hc5 => ?_) (fun hc5 => ?_)
 ·try simp only [bsx] at hc5
  have hs11 := hc5
  have hO : O = xs := by rcases hinv with h | h; exact h.2; exact absurd h.1 (by omega)
  refine JC.skip (JQ.then_normal (JC.seq (JC.block (JC.g ?_))))
  refine J.o (ixo (z := ys) (.t rfl) (.t rfl) sl151 (by omega) (two_at1 (by omega))) rfl (J.o (ld (.t rfl) sc26 encSl_ld) rfl (J.A rfl rfl (J.e (JC.g (J.M rfl rfl (J.o (Y8 (.t rfl) W5 rfl) rfl ?_))))))
  refine J.m .is rfl (J.e (JC.block ?_))
  refine JC.loop3 (α := Nat) (β := Nat) (γ := Nat) (fun k b c => [(2, tSl Q5 ([])), (3, sIs b 0 ((zipP f xs (ys.take k)).length) c), (5, tSl Q5 ys), (8, tSl (encSl Q5) ([xs, ys])), (9, tIs (.int .i64 ((([xs, ys]).length : Int)))), (10, tIs (.int .i64 (j : Int))), (11, tIs (.bool (decide ((j : Int) < (([xs, ys]).length : Int))))), (12, tPtr (cEnc (encSl Q5) ys)), (13, tSl Q5 ys), (14, tSl Q5 ys), (15, tIs (.int .i64 (((ys).length : Int)))), (16, tIs (.int .i64 (k : Int)))]) (fun k b c => [⟨b, 28, Y5 Q5 (zipP f xs (ys.take k)) c⟩]) (fun k b c => k ≤ ys.length) (fun k b c => ys.length - k) 0 b c (by omega) ?lsub2 ?round2
  case lsub2 => exact Q8 (X3 (.keep (K8 (by rw [hO]; simp [zipP_nil])) .nil)) (Z3 ⟨.t rfl, .eq (.t rfl) (by rw [hO]; simp [zipP_nil]), .t rfl, .t rfl, .t rfl, .t rfl, .t rfl, .t rfl, .t rfl, .t rfl, .t rfl, .eq (.t rfl) (by first | rfl | (congr 3; omega) | (congr 2; omega)), trivial⟩)
  intro k b c hinv
  have hzl := zipP_l3 (f := f) (xs := xs) k hinv
  refine (JC.g (J.o (Y6 (.t rfl) (.t rfl)) rfl (J.e (JC.seq ?_))))
  refine JC.cond (.t rfl) (fun hc6 => ?_) (fun hc6 => ?_)
  ·try simp only [bsx] at hc6
   have hs17 := hc6
   refine JC.skip (JQ.then_normal (JC.seq (JC.block (JC.g (J.M rfl rfl ?_)))))
   refine J.o (ixo (z := atP ys k) (.t rfl) (.t rfl) W5 (by omega) (atP_at (by omega) (by omega))) rfl (J.o (lda (.t rfl) Z9 V0) rfl ?_)
   refine J.alloc (R := cTs zP) W9 (fun _ => ⟨rfl, rfl, rfl, rfl, Q9 _ _, rfl, Q9 _ _, rfl, trivial⟩) (ltN rfl) fun b7 => (J.A rfl rfl ?_)
   refine J.store (.t rfl) (.eq (.t rfl) (K2 (Ts := (pT (atP ys k))) (Q0 _))) .here U4 (Z4 (Ts' := (pT (atP ys k))) (o := 0) rfl) (J.e (JC.g (J.M rfl rfl (J.M rfl rfl ?_))))
   refine J.o (T8 (.t rfl) W5 rfl) rfl (J.o (Y6 (.t rfl) (.t rfl)) rfl (J.e ?_))
   refine JC.cond (.t rfl) (fun hc7 => ?_) (fun hc7 => ?_)
   ·try simp only [bsx] at hc7
    have hs24 := hc7
    refine JC.drawAt (Γ' := ?g1) 9 mo (by kernel_rfl) ?tw1 ?k1
    case tw1 =>
     refine TW.M rfl rfl (TW.M rfl rfl (TW.M rfl rfl (TW.M rfl rfl ?_)))
     refine TW.o (X9 (T' := X7 b (0 + k * 4)) (oix (.t rfl) (.t rfl) W5 (by omega) (by omega)) (Z7 (by omega))) rfl (TW.o (oa (.t rfl) (.tail _ (.head _)) Z9 (row_agg rfl (zipP_el (by omega) (by omega)))) rfl (TW.o (oa (.t rfl) (.head _) Z9 (Q6 (g := Y4) (y := (atP ys k)) (Q0 (atP ys k)).symm rfl)) rfl ?_))
     refine TW.o (oc fn72 (hadd (atP xs k) (Y3 (by omega)) (atP ys k) (Y3 (by omega)) ) (.cons (.t rfl) (.cons (.t rfl) .nil))) rfl ?_
     refine TW.o (X9 (T' := X7 b (0 + k * 4)) (oix (.t rfl) (.t rfl) W5 (by omega) (by omega)) (Z7 (by omega))) rfl ?_
     exact TW.nil
    refine J.store (.t rfl) (.t rfl) (.there .here) U4 (T4 (by omega)) (J.nil (JQ.block_normal (JQ.then_normal (JC.region ?_))))
    refine J.o (Z6 (.t rfl) .is (w64 (by omega) (by omega))) rfl (J.M rfl rfl (J.nil ?_))
    have hzl1 := zipP_l3 (f := f) (xs := xs) (ys := ys) (k + 1) (by omega)
    exact JQ.round3 (i := k) (i2 := b) (i3 := c) (k + 1) b c (by omega) (by omega) (Q8 (X3 (.drop (.keep (K8 (zipP_set f k xs ys (by omega) (by omega))) .nil))) (Z3 ⟨.t rfl, .eq (.t rfl) (by congr 1; omega), .t rfl, .t rfl, .t rfl, .t rfl, .t rfl, .t rfl, .t rfl, .t rfl, .t rfl, .eq (.t rfl) (by first | rfl | (congr 3; omega) | (congr 2; omega)), trivial⟩))
   ·try simp only [bsx] at hc7
    have hs24 := hc7
    refine JC.region (J.M rfl rfl (J.o (oa (.t rfl) (.head _) Z9 (Q6 (g := Y4) (y := (atP ys k)) (Q0 (atP ys k)).symm rfl)) rfl ?_))
    refine J.o (K6 (E := Q5) (zs := [atP ys k]) W5 (.cons (.t rfl) .nil) rfl W9 rfl (by decide) (by decide)) rfl ?_
    refine J.append (E := Q5) (xs := zipP f xs (ys.take k)) (ys := [atP ys k]) (.t rfl) rfl (.t rfl) W5 rfl W9 rfl (.there .here) (by simp <;> omega) (by simp <;> omega) (ltN rfl) fun b37 c37 => (J.A rfl rfl (J.nil (JQ.block_normal (JQ.then_normal (JC.region ?_)))))
    refine J.o (Z6 (.t rfl) .is (w64 (by omega) (by omega))) rfl (J.M rfl rfl (J.nil ?_))
    have hzl1 := zipP_l3 (f := f) (xs := xs) (ys := ys) (k + 1) (by omega)
    exact JQ.round3 (i := k) (i2 := b) (i3 := c) (k + 1) b37 c37 (by omega) (by omega) (Q8 (X3 (.keep (K8 (zipP_snoc f k xs ys (by omega) (by omega))) (.drop .nil))) (Z3 ⟨.t rfl, .eq (.t rfl) (by congr 1; simp; omega), .t rfl, .t rfl, .t rfl, .t rfl, .t rfl, .t rfl, .t rfl, .t rfl, .t rfl, .eq (.t rfl) (by first | rfl | (congr 3; omega) | (congr 2; omega)), trivial⟩))
  ·try simp only [bsx] at hc6
   have hs17 := hc6
   refine JC.exit (JQ.then_exit (JQ.then_exit (JQ.block_exit (JQ.block_normal (JQ.then_normal (JC.region ?_))))))
   refine J.o (Z6 (.t rfl) .is (w64 (by omega) (by omega))) rfl (J.M rfl rfl (J.nil ?_))
   exact JQ.round4 (i := j) (i2 := O) (i3 := b) (i4 := c) 2 (zipP f xs ys) b c (.inr ⟨rfl, rfl⟩) (by omega) (Q8 (X3 (.keep (K8 (by rw [List.take_of_length_le (by omega)])) .nil)) (Z3 ⟨.t rfl, .eq (.t rfl) (by rw [List.take_of_length_le (by omega)]), .t rfl, .t rfl, .eq (.t rfl) (by first | rfl | (congr 3; omega) | (congr 2; omega)), trivial⟩))
 ·try simp only [bsx] at hc5
  have hs11 := hc5
  have hO : O = zipP f xs ys := by rcases hinv with h | h; exact absurd h.1 (by omega); exact h.2
  refine JC.exit (JQ.then_exit (JQ.then_exit (JQ.block_exit (JQ.then_normal (JC.seq ?_)))))
  refine JC.weak (U9 (E := Q5) (xs := O) (n := O.length) (c := c) [3] ⟨rfl, trivial⟩ .here rfl (by omega)) (JC.region (J.M rfl rfl (J.A rfl rfl (J.e (JC.ret ?_)))))
  exact JQ.ret1 rfl (.tmp (.eq (.t rfl) (by rw [hO])))

theorem add_c {B : Nat} (k : Nat) (p q : Pol) (lp : Lev k p) (lq : Lev k q) (hp : Fit B p) (hq : Fit B q) (hb : B ≤ 1000000000000) : Ctr Try.prog 72 [tV Q5 p, tV Q5 q] (tV Q5 (K0 k p q)) := by
 induction k using Nat.strongRecOn generalizing p q
 rename_i k ih
 have h1 := lp.lv
 have h2 := lq.lv
 have hpc := hp.c
 have hqc := hq.c
 have hps := hp.cs
 have hqs := hq.cs
 refine Ctr.of Try.func72 rfl Try.ntmps72 (Nat.le_of_ble_eq_true rfl) fun w0 M0 => (JC.g ?_)
 refine J.boxF (Ts := (pT p)) (.t rfl) (Q0 _) (ltN rfl) fun b2 => ?_
 refine J.boxF (Ts := (pT q)) (.t rfl) (Q0 _) (ltN rfl) fun b3 => ?_
 refine J.alloc (R := cTs zP) W9 (fun _ => ⟨rfl, rfl, rfl, rfl, Q9 _ _, rfl, Q9 _ _, rfl, trivial⟩) (ltN rfl) fun b4 => (J.e (JC.g (J.o (ofa (.t rfl) T1) rfl (J.o (ol (.t rfl) (.tail _ (.tail _ (.head _))) sc3 (Z8 rfl)) rfl (J.o (ofa (.t rfl) T1) rfl (J.o (ol (.t rfl) (.tail _ (.head _)) sc3 (Z8 rfl)) rfl ?_))))))
 refine J.o (ot_max (.t rfl) (.t rfl)) rfl (J.A rfl rfl (J.e (JC.seq (JC.g (J.M rfl rfl (J.o (U5 (.t rfl) .is) rfl (J.e ?_)))))))
 refine JC.cond (.t rfl) (fun hc0 => ?_) (fun hc0 => ?_)
 ·try simp only [bsx] at hc0
  have hs12 := hc0
  refine (JC.g (J.o (ofa (.t rfl) fd28_1) rfl (J.o (oa (.t rfl) (.tail _ (.tail _ (.head _))) ag25 (Q6 (g := zT) (y := p.c) rfl rfl)) rfl (J.o (ofa (.t rfl) fd28_1) rfl (J.o (oa (.t rfl) (.tail _ (.head _)) ag25 (Q6 (g := zT) (y := q.c) rfl rfl)) rfl ?_)))))
  refine J.o (oc fn96 (intAdd_c p.c q.c (by omega) (by omega)) (.cons (.t rfl) (.cons (.t rfl) .nil))) rfl ?_
  refine J.o (X9 (T' := tV Q5 (Pol.mk 0 (ofI (X4 p.c + X4 q.c)) ([]))) (V7 (Ts := zP) pl28 (fun _ => ⟨rfl, rfl, rfl, rfl, Q9 _ _, rfl, Q9 _ _, rfl, trivial⟩) ((.agg (off := 1) rfl (.eq (.t rfl) (K2 (Ts := (iT (ofI (X4 p.c + X4 q.c)))) rfl)) (Ts' := [tIs (.int .i64 0), tIs (.bool ((ofI (X4 p.c + X4 q.c)).neg)), tSl X8 ((ofI (X4 p.c + X4 q.c)).abs), tSl Q5 ([])]) rfl rfl .nil)) rfl) (tV_F' (Q0 _))) rfl ?_
  refine J.store (.t rfl) (.eq (.t rfl) (K2 (Ts := [tIs (.int .i64 0), tIs (.bool ((ofI (X4 p.c + X4 q.c)).neg)), tSl X8 ((ofI (X4 p.c + X4 q.c)).abs), tSl Q5 ([])]) (Q0 _))) .here U4 (Z4 (Ts' := [tIs (.int .i64 0), tIs (.bool ((ofI (X4 p.c + X4 q.c)).neg)), tSl X8 ((ofI (X4 p.c + X4 q.c)).abs), tSl Q5 ([])]) (o := 0) rfl) (J.e (JC.ret (JQ.then_ret ?_)))
  exact JQ.ret1 rfl (.agg (.t rfl) (.head _) Z9 (U3 (T := tV Q5 (Pol.mk 0 (ofI (X4 p.c + X4 q.c)) ([]))) (T' := tV Q5 (K0 k p q)) (by rw [← addF_const hc0]; rfl) (Q6 (g := Y4) (y := (Pol.mk 0 (ofI (X4 p.c + X4 q.c)) ([]))) (Q0 (Pol.mk 0 (ofI (X4 p.c + X4 q.c)) ([]))).symm rfl)))
 ·try simp only [bsx] at hc0
  have hs12 := hc0
  obtain ⟨m, hm⟩ : ∃ m, k = m + 1 := ⟨k - 1, by omega⟩
  obtain ⟨⟨a1, a2, a3⟩, a4, a5, a6, a7⟩ := add_parts (hm ▸ lp) (hm ▸ lq) hp hq hc0
  refine JC.skip (JQ.then_normal (JC.seq ?_))
  refine JC.drawAt (Γ' := ?g1) 10 mo (by kernel_rfl) ?tw1 ?k1
  case tw1 =>
   refine TW.M rfl rfl (TW.o (oa (.t rfl) (.tail _ (.tail _ (.head _))) Z9 (Q6 (g := Y4) (y := p) (Q0 p).symm rfl)) rfl (TW.M rfl rfl ?_))
   refine TW.o (oc fn105 (coefs_c p (max (p.lv) (q.lv)) hps) (.cons (.t rfl) (.cons (.t rfl) .nil))) rfl (TW.o (oa (.t rfl) (.tail _ (.head _)) Z9 (Q6 (g := Y4) (y := q) (Q0 q).symm rfl)) rfl (TW.M rfl rfl ?_))
   refine TW.o (oc fn105 (coefs_c q (max (p.lv) (q.lv)) hqs) (.cons (.t rfl) (.cons (.t rfl) .nil))) rfl ?_
   refine TW.o (K6 (E := (encSl Q5)) (zs := [Z0 p (max (p.lv) (q.lv)), Z0 q (max (p.lv) (q.lv))]) sl151 (.cons (.sub (.t rfl) encSl_in) (.cons (.sub (.t rfl) encSl_in) .nil)) rfl zr26 rfl (by decide) (by decide)) rfl ?_
   refine TW.o (oc fn104 (sum_c (K0 m) (Z0 p (max (p.lv) (q.lv))) (Z0 q (max (p.lv) (q.lv))) (fun x hx y hy => ih m (by omega) x y (a4 x hx).1 (a5 y hy).1 (a4 x hx).2 (a5 y hy).2) ⟨a1, a2⟩ a3) (.cons (.t rfl) .nil)) rfl ?_
   refine TW.o (oc fn103 (join_c (max (p.lv) (q.lv)) (zipP (K0 m) (Z0 p (max (p.lv) (q.lv))) (Z0 q (max (p.lv) (q.lv)))) a6 (fun z hz => Nat.le_trans (a7 z hz).c (by omega))) (.cons (.t rfl) (.cons (.t rfl) .nil))) rfl ?_
   exact TW.nil
  refine J.store (.t rfl) (.eq (.t rfl) (K2 (Ts := (pT (U0 (max (p.lv) (q.lv)) (zipP (K0 m) (Z0 p (max (p.lv) (q.lv))) (Z0 q (max (p.lv) (q.lv))))))) (Q0 _))) .here U4 (Z4 (Ts' := (pT (U0 (max (p.lv) (q.lv)) (zipP (K0 m) (Z0 p (max (p.lv) (q.lv))) (Z0 q (max (p.lv) (q.lv))))))) (o := 0) rfl) (J.e (JC.ret ?_))
  exact JQ.ret1 rfl (.agg (.t rfl) (.head _) Z9 (U3 (T := tV Q5 (U0 (max (p.lv) (q.lv)) (zipP (K0 m) (Z0 p (max (p.lv) (q.lv))) (Z0 q (max (p.lv) (q.lv)))))) (T' := tV Q5 (K0 k p q)) (by rw [hm, addF_join hc0]) (Q6 (g := Y4) (y := (U0 (max (p.lv) (q.lv)) (zipP (K0 m) (Z0 p (max (p.lv) (q.lv))) (Z0 q (max (p.lv) (q.lv)))))) (Q0 (U0 (max (p.lv) (q.lv)) (zipP (K0 m) (Z0 p (max (p.lv) (q.lv))) (Z0 q (max (p.lv) (q.lv)))))).symm rfl)))

theorem cmpMono_c (m n : Mo) : Ctr Try.prog 112 [tV encMo m, tV encMo n] (tIs (.int .i64 (cmpMo m n))) := by
 refine Ctr.of Try.func112 rfl Try.ntmps112 (Nat.le_of_ble_eq_true rfl) fun w0 M0 => (JC.g ?_)
 refine J.boxF (Ts := [tIs (.int .i64 (m.a)), tIs (.int .i64 (m.b)), tIs (.int .i64 (m.c)), tIs (.int .i64 (m.d))]) (.t rfl) rfl (ltN rfl) fun b2 => ?_
 refine J.boxF (Ts := [tIs (.int .i64 (n.a)), tIs (.int .i64 (n.b)), tIs (.int .i64 (n.c)), tIs (.int .i64 (n.d))]) (.t rfl) rfl (ltN rfl) fun b3 => ?_
 refine J.a .is rfl (J.e (JC.seq (JC.g ?_)))
 refine J.a .is rfl (J.e (JC.block ?_))
 refine JC.loop (ι := Nat) (fun k => [(2, X7 b2 0), (3, X7 b3 0), (5, tIs (.int .i64 ((k : Int) - 1)))]) (fun k => [⟨b3, 95, cTs [tIs (.int .i64 (n.a)), tIs (.int .i64 (n.b)), tIs (.int .i64 (n.c)), tIs (.int .i64 (n.d))]⟩, ⟨b2, 95, cTs [tIs (.int .i64 (m.a)), tIs (.int .i64 (m.b)), tIs (.int .i64 (m.c)), tIs (.int .i64 (m.d))]⟩]) (fun k => k ≤ 4 ∧ cmpTo k m n = cmpMo m n) (fun k => k) 4 ⟨by omega, rfl⟩ ?lsub0 ?round0
 case lsub0 => exact Q8 (X3 (.k (.k .nil))) (Z3 ⟨.t rfl, .t rfl, .eq (.t rfl) (by first | rfl | (congr 3; omega) | (congr 2; omega)), trivial⟩)
 intro k hinv
 obtain ⟨hk, hv⟩ := hinv
 refine JC.seq (JC.g (J.M rfl rfl (J.o (ot_geq (.t rfl) .is) rfl (J.e ?_))))
 refine JC.cond (.t rfl) (fun hc0 => ?_) (fun hc0 => ?_)
 ·try simp only [bsx] at hc0
  have hs7 := hc0
  refine JC.skip (JQ.then_normal (JC.seq (JC.block (JC.seq (JC.seq ?_)))))
  refine JC.draw (Γ' := ?g1) mo (by kernel_rfl) ?tw1 ?k1
  case tw1 =>
   refine TW.M rfl rfl ?_
   refine TW.o (X9 (T' := X7 b2 (k - 1)) (ot_indexAddrA (.t rfl) (.t rfl) ar4_95 (by omega) (by omega)) (Z7 (by omega))) rfl (TW.o (ol (.t rfl) (.tail _ (.head _)) sc3 (mo_ld (m := m) (by omega))) rfl (TW.M rfl rfl ?_))
   refine TW.o (X9 (T' := X7 b3 (k - 1)) (ot_indexAddrA (.t rfl) (.t rfl) ar4_95 (by omega) (by omega)) (Z7 (by omega))) rfl (TW.o (ol (.t rfl) (.head _) sc3 (mo_ld (m := n) (by omega))) rfl (TW.o (Y6 (.t rfl) (.t rfl)) rfl ?_))
   exact TW.nil
  refine JQ.then_normal ?_
  refine JC.cond (.t rfl) (fun hc1 => ?_) (fun hc1 => ?_)
  ·try simp only [bsx] at hc1
   have hs16 := hc1
   refine (JC.g ?_)
   refine J.a .is rfl (J.e (JC.ret (JQ.then_ret (JQ.block_ret (JQ.then_ret (JQ.then_ret (JQ.block_ret (JQ.then_ret ?_))))))))
   exact JQ.ret1 rfl (.tmp (.eq (.t rfl) (by rw [← hv, ← cmpTo_lt (by omega) hc1])))
  ·try simp only [bsx] at hc1
   have hs16 := hc1
   refine JC.skip (JQ.then_normal (JC.seq ?_))
   refine JC.draw (Γ' := ?g2) mo (by kernel_rfl) ?tw2 ?k2
   case tw2 =>
    refine TW.M rfl rfl ?_
    refine TW.o (X9 (T' := X7 b2 (k - 1)) (ot_indexAddrA (.t rfl) (.t rfl) ar4_95 (by omega) (by omega)) (Z7 (by omega))) rfl (TW.o (ol (.t rfl) (.tail _ (.head _)) sc3 (mo_ld (m := m) (by omega))) rfl (TW.M rfl rfl ?_))
    refine TW.o (X9 (T' := X7 b3 (k - 1)) (ot_indexAddrA (.t rfl) (.t rfl) ar4_95 (by omega) (by omega)) (Z7 (by omega))) rfl (TW.o (ol (.t rfl) (.head _) sc3 (mo_ld (m := n) (by omega))) rfl (TW.o (ot_gtr (.t rfl) (.t rfl)) rfl ?_))
    exact TW.nil
   refine JQ.then_normal ?_
   refine JC.cond (.t rfl) (fun hc2 => ?_) (fun hc2 => ?_)
   ·try simp only [bsx] at hc2
    have hs23 := hc2
    refine (JC.g ?_)
    refine J.a .is rfl (J.e (JC.ret (JQ.block_ret (JQ.then_ret (JQ.then_ret (JQ.block_ret (JQ.then_ret ?_)))))))
    exact JQ.ret1 rfl (.tmp (.eq (.t rfl) (by rw [← hv, ← cmpTo_gt (by omega) hc2])))
   ·try simp only [bsx] at hc2
    have hs23 := hc2
    refine JC.skip (JQ.block_normal (JQ.then_normal (JC.region (J.M rfl rfl ?_))))
    refine J.o (K4 (.t rfl) .is (w64 (by omega) (by omega))) rfl (J.A rfl rfl (J.nil ?_))
    exact JQ.round (k - 1) ⟨by omega, by rw [← hv]; exact cmpTo_eq (by omega) hc1 hc2⟩ (by omega) (Q8 (X3 (.k (.k .nil))) (Z3 ⟨.t rfl, .t rfl, .eq (.t rfl) (by first | rfl | (congr 3; omega) | (congr 2; omega)), trivial⟩))
 ·try simp only [bsx] at hc0
  have hs7 := hc0
  refine JC.exit (JQ.then_exit (JQ.then_exit (JQ.block_exit (JQ.then_normal (JC.g ?_)))))
  refine J.a .is rfl (J.e (JC.ret ?_))
  exact JQ.ret1 rfl (.tmp (.eq (.t rfl) (by rw [← hv, show k = 0 by omega]; rfl)))

theorem min_c (l : List Int) (hl : 0 < l.length ∧ l.length ≤ 4294967296) : Ctr Try.prog 109 [tSl encN l] (tIs (.int .i64 (minL (atN l 0) (l.drop 1)))) := by
 refine Ctr.of Try.func109 rfl Try.ntmps109 (Nat.le_of_ble_eq_true rfl) fun w0 M0 => (JC.g ?_)
 refine J.a .is rfl (J.e (JC.seq (JC.g (J.M rfl rfl (J.o (Y8 (.t rfl) sl141 rfl) rfl (J.o (Y6 (.t rfl) .is) rfl (J.e ?_)))))))
 refine JC.cond_false (.eq (.t rfl) (by rw [decide_eq_false (by omega)])) (JC.skip (JQ.then_normal (JC.g (J.M rfl rfl ?_))))
 refine J.o (ixo (z := atN l 0) (.t rfl) .is sl141 (by omega) (atN_at rfl (by omega))) rfl (J.o (ld (.t rfl) sc3 encN_ld) rfl (J.A rfl rfl (J.e (JC.seq (JC.g ?_)))))
 refine J.a .is rfl (J.e (JC.block ?_))
 refine JC.loop2 (α := Nat) (β := Int) (fun k m => [(0, tSl encN l), (2, tIs (.int .i64 0)), (3, tIs (.int .i64 m)), (4, tIs (.int .i64 (k : Int)))]) (fun k m => []) (fun k m => 1 ≤ k ∧ k ≤ l.length ∧ minL m (l.drop k) = minL (atN l 0) (l.drop 1)) (fun k m => l.length - k) 1 (atN l 0) ⟨by omega, by omega, rfl⟩ ?lsub0 ?round0
 case lsub0 => exact Q8 (X3 .nil) (Z3 ⟨.t rfl, .t rfl, .eq (.t rfl) (by first | rfl | (congr 3; omega) | (congr 2; omega)), .eq (.t rfl) (by first | rfl | (congr 3; omega) | (congr 2; omega)), trivial⟩)
 intro k m hinv
 obtain ⟨hk, hk1, hv⟩ := hinv
 refine JC.seq (JC.g (J.M rfl rfl (J.M rfl rfl (J.o (Y8 (.t rfl) sl141 rfl) rfl (J.o (Y6 (.t rfl) (.t rfl)) rfl (J.e ?_))))))
 refine JC.cond (.t rfl) (fun hc1 => ?_) (fun hc1 => ?_)
 ·try simp only [bsx] at hc1
  have hs15 := hc1
  refine JC.skip (JQ.then_normal (JC.seq (JC.block (JC.region (J.M rfl rfl (J.M rfl rfl (J.M rfl rfl ?_)))))))
  refine J.o (ixo (z := atN l k) (.t rfl) (.t rfl) sl141 (by omega) (atN_at (by omega) (by omega))) rfl (J.o (ld (.t rfl) sc3 encN_ld) rfl ?_)
  refine J.o (ot_min (.t rfl) (.t rfl)) rfl (J.A rfl rfl (J.nil (JQ.block_normal (JQ.then_normal (JC.region (J.M rfl rfl ?_))))))
  refine J.o (Z6 (.t rfl) .is (w64 (by omega) (by omega))) rfl (J.A rfl rfl (J.nil ?_))
  exact JQ.round2 (i := k) (i2 := m) (k + 1) (min m (atN l k)) ⟨by omega, by omega, by rw [← hv]; exact minL_step (by omega)⟩ (by omega) (Q8 (X3 .nil) (Z3 ⟨.t rfl, .t rfl, .eq (.t rfl) (by first | rfl | (congr 3; omega) | (congr 2; omega)), .eq (.t rfl) (by first | rfl | (congr 3; omega) | (congr 2; omega)), trivial⟩))
 ·try simp only [bsx] at hc1
  have hs15 := hc1
  refine JC.exit (JQ.then_exit (JQ.then_exit (JQ.block_exit (JQ.then_normal (JC.g (J.M rfl rfl (J.A rfl rfl (J.e (JC.ret ?_)))))))))
  exact JQ.ret1 rfl (.tmp (.eq (.t rfl) (by rw [← hv, minL_end (by omega)])))

theorem clip_c (ts : List Tm) (hl : ts.length ≤ 4294967296) : Ctr Try.prog 113 [tSl X5 ts] (tSl X5 ts) := by
 refine Ctr.of Try.func113 rfl Try.ntmps113 (Nat.le_of_ble_eq_true rfl) fun w0 M0 => (JC.g ?_)
 refine J.o (Y2 (.nil (E := X5))) rfl (J.e (JC.g (J.M rfl rfl (J.M rfl rfl (J.o (Y8 (.t rfl) R3 rfl) rfl (J.M rfl rfl (J.o (Y8 (.t rfl) R3 rfl) rfl ?_)))))))
 refine J.o (ot_slice3 (E := X5) (xs := ts) (h := ts.length) (m := ts.length) (kh := .i64) (km := .i64) (.t rfl) R3 (.eq (.t rfl) rfl) (.eq (.t rfl) rfl) (Nat.le_refl _) (Nat.le_refl _)) rfl (J.A rfl rfl (J.e (JC.ret ?_)))
 exact JQ.ret1 rfl (.tmp (.eq (.t rfl) (by rw [List.take_length])))

theorem cmpT_c (x y : Tm) : Ctr Try.prog 111 [tV X5 x, tV X5 y] (tIs (.int .i64 (cmpMo y.exp x.exp))) := by
 refine Ctr.of Try.func111 rfl Try.ntmps111 (Nat.le_of_ble_eq_true rfl) fun w0 M0 => (JC.g ?_)
 refine J.boxF (Ts := [tIs (.bool (x.coef.neg)), tSl X8 (x.coef.abs), tIs (.int .i64 (x.exp.a)), tIs (.int .i64 (x.exp.b)), tIs (.int .i64 (x.exp.c)), tIs (.int .i64 (x.exp.d))]) (.t rfl) rfl (ltN rfl) fun b2 => ?_
 refine J.boxF (Ts := [tIs (.bool (y.coef.neg)), tSl X8 (y.coef.abs), tIs (.int .i64 (y.exp.a)), tIs (.int .i64 (y.exp.b)), tIs (.int .i64 (y.exp.c)), tIs (.int .i64 (y.exp.d))]) (.t rfl) rfl (ltN rfl) fun b3 => ?_
 refine J.a .is rfl (J.e (JC.g (J.o (ofa (.t rfl) fd97_1) rfl (J.o (oa (.t rfl) (.head _) ag95 (Q6 (g := moT) (y := y.exp) rfl rfl)) rfl (J.o (ofa (.t rfl) fd97_1) rfl (J.o (oa (.t rfl) (.tail _ (.head _)) ag95 (Q6 (g := moT) (y := x.exp) rfl rfl)) rfl ?_))))))
 refine J.o (oc fn112 (cmpMono_c y.exp x.exp ) (.cons (.t rfl) (.cons (.t rfl) .nil))) rfl (J.A rfl rfl (J.e (JC.ret ?_)))
 exact JQ.ret1 rfl (.tmp (.t rfl))

theorem insert_c (b c a e : Nat) (xs : List Tm) (he : e ≤ xs.length) (ha : a ≤ e) (hl : xs.length ≤ 4294967296) : CtrL Try.prog 129 [sIs b 0 (xs.length) c, tIs (.int .i64 (a : Int)), tIs (.int .i64 (e : Int)), tFn 111 []] b 97 (Y5 X5 xs c) (Y5 X5 (insT a (e - (a + 1)) (a + 1) xs) c) K5 := by
 refine CtrL.of Try.func129 rfl Try.ntmps129 (Nat.le_of_ble_eq_true rfl) fun w0 M0 => (JC.g (J.M rfl rfl ?_))
 refine J.o (Z6 (.t rfl) .is (w64 (by omega) (by omega))) rfl (J.A rfl rfl (J.e (JC.block ?_)))
 refine JC.loop2 (α := Nat) (β := List Tm) (fun i ys => [(0, sIs b 0 (xs.length) c), (1, tIs (.int .i64 (a : Int))), (2, tIs (.int .i64 (e : Int))), (3, tFn 111 []), (8, tIs (.int .i64 (i : Int)))]) (fun i ys => [⟨b, 97, Y5 X5 ys c⟩]) (fun i ys => a + 1 ≤ i ∧ ys.length = xs.length ∧ insT a (e - i) i ys = insT a (e - (a + 1)) (a + 1) xs) (fun i ys => e - i) (a + 1) xs ⟨by omega, rfl, rfl⟩ ?lsub0 ?round0
 case lsub0 => exact Q8 (X3 (.k .nil)) (Z3 ⟨.t rfl, .t rfl, .t rfl, .t rfl, .eq (.t rfl) (by first | rfl | (congr 3; omega) | (congr 2; omega)), trivial⟩)
 intro i ys hinv
 obtain ⟨hi, hys, hv⟩ := hinv
 refine JC.seq (JC.g (J.M rfl rfl (J.M rfl rfl (J.o (Y6 (.t rfl) (.t rfl)) rfl (J.e ?_)))))
 refine JC.cond (.t rfl) (fun hc0 => ?_) (fun hc0 => ?_)
 ·try simp only [bsx] at hc0
  have hs14 := hc0
  refine JC.skip (JQ.then_normal (JC.seq (JC.block (JC.g (J.M rfl rfl (J.A rfl rfl (J.e (JC.block ?_))))))))
  refine JC.loop2 (α := Nat) (β := List Tm) (fun j zs => [(0, sIs b 0 (xs.length) c), (1, tIs (.int .i64 (a : Int))), (2, tIs (.int .i64 (e : Int))), (3, tFn 111 []), (8, tIs (.int .i64 (i : Int))), (9, tIs (.int .i64 (j : Int))), (12, tIs (.int .i64 (i : Int))), (13, tIs (.int .i64 (e : Int))), (14, tIs (.bool (decide ((i : Int) < (e : Int))))), (17, tIs (.int .i64 (i : Int)))]) (fun j zs => [⟨b, 97, Y5 X5 zs c⟩]) (fun j zs => j ≤ i ∧ zs.length = xs.length ∧ siftT a j zs = siftT a i ys) (fun j zs => j) i ys ⟨by omega, hys, rfl⟩ ?lsub1 ?round1
  case lsub1 => exact Q8 (X3 (.k .nil)) (Z3 ⟨.t rfl, .t rfl, .t rfl, .t rfl, .t rfl, .t rfl, .t rfl, .t rfl, .t rfl, .t rfl, trivial⟩)
  intro j zs hinv
  obtain ⟨hj, hzs, hw⟩ := hinv
  refine JC.seq (JC.seq ?_)
  refine JC.draw (Γ' := ?g1) mo (by kernel_rfl) ?tw1 ?k1
  case tw1 =>
   refine TW.M rfl rfl (TW.M rfl rfl (TW.o (ot_gtr (.t rfl) (.t rfl)) rfl (TW.M rfl rfl ?_)))
   refine TW.opg rfl rfl rfl (ltN rfl) (fun hg => Y0 (.t rfl)) rfl (ltN rfl) ?_
   refine TW.opg rfl rfl rfl (ltN rfl) (fun hg => Y0 (.t rfl)) rfl (ltN rfl) ?_
   refine TW.opg rfl rfl rfl (ltN rfl) (fun hg => Y0 (.t rfl)) rfl (ltN rfl) ?_
   refine TW.opg rfl rfl rfl (ltN rfl) (fun hg => (by have hg' := hg; (try simp only [bsx] at hg'); exact X9 (T' := X7 b (0 + j * 6)) (oix (.iff hg (.t rfl)) (.iff hg (.t rfl)) sl53 (by omega) (by omega)) (Z7 (by omega)))) rfl (ltN rfl) ?_
   refine TW.opg rfl rfl rfl (ltN rfl) (fun hg => (by have hg' := hg; (try simp only [bsx] at hg'); exact oa (.iff hg (.t rfl)) (.head _) ag97 (row_agg rfl (atT_some (by omega))))) rfl (ltN rfl) ?_
   refine TW.opg rfl rfl rfl (ltN rfl) (fun hg => Y0 (.t rfl)) rfl (ltN rfl) ?_
   refine TW.opg rfl rfl rfl (ltN rfl) (fun hg => Y0 (.t rfl)) rfl (ltN rfl) ?_
   refine TW.opg rfl rfl rfl (ltN rfl) (fun hg => (by have hg' := hg; (try simp only [bsx] at hg'); exact K4 (.iff hg (.t rfl)) .is (w64 (by omega) (by omega)))) rfl (ltN rfl) ?_
   refine TW.opg rfl rfl rfl (ltN rfl) (fun hg => (by have hg' := hg; (try simp only [bsx] at hg'); exact X9 (T' := X7 b (0 + (j - 1) * 6)) (oix (.iff hg (.t rfl)) (.iff hg (.t rfl)) sl53 (by omega) (by omega)) (Z7 (by omega)))) rfl (ltN rfl) ?_
   refine TW.opg rfl rfl rfl (ltN rfl) (fun hg => (by have hg' := hg; (try simp only [bsx] at hg'); exact oa (.iff hg (.t rfl)) (.head _) ag97 (row_agg rfl (atT_some (by omega))))) rfl (ltN rfl) ?_
   refine TW.opg rfl rfl rfl (ltN rfl) (fun hg => ot_callv (Us := []) fn111 (.iff hg (.t rfl)) (cmpT_c (atT zs j) (atT zs (j - 1)) ) (.cons (.iff hg (.t rfl)) (.cons (.iff hg (.t rfl)) .nil)) (fun _ => trivial)) rfl (ltN rfl) ?_
   refine TW.opg rfl rfl rfl (ltN rfl) (fun hg => Y6 (.iff hg (.t rfl)) .is) rfl (ltN rfl) ?_
   refine TW.o (R4 (.t rfl) (.t rfl) .is) rfl ?_
   exact TW.nil
  refine JQ.then_normal ?_
  refine JC.cond (.t rfl) (fun hc1 => ?_) (fun hc1 => ?_)
  ·try simp only [bsx] at hc1
   have hs34 := hc1
   refine JC.skip (JQ.then_normal (JC.seq (JC.block ?_)))
   refine JC.drawF (Γ' := ?g2) (Γf := ?f2) (L' := ?l2) 15 [2, 3, 4] mo (by kernel_rfl) (by kernel_rfl) (fun _ _ _ _ _ h => h) ?fl2 ?tk2 ?tw2 ?ag2 ?k2
   case fl2 =>
    refine FL.cons (i := 2) rfl rfl (ltN rfl) rfl (opv_move rfl) (by kernel_rfl) (by kernel_rfl) ?_
    refine FL.cons (i := 3) rfl rfl (ltN rfl) rfl (opv_move rfl) (by kernel_rfl) (by kernel_rfl) ?_
    refine FL.cons (i := 4) rfl rfl (ltN rfl) rfl (opv_sub rfl (w64 (by omega) (by omega))) (by kernel_rfl) (by kernel_rfl) ?_
    exact FL.nil
   case tk2 => kernel_rfl
   case tw2 =>
    refine TW.M rfl rfl (TW.M rfl rfl (TW.M rfl rfl (TW.M rfl rfl ?_)))
    refine TW.o (K4 (.t rfl) .is (w64 (by omega) (by omega))) rfl (TW.M rfl rfl (TW.M rfl rfl ?_))
    refine TW.o (K4 (.t rfl) .is (w64 (by omega) (by omega))) rfl ?_
    refine TW.o (X9 (T' := X7 b (0 + (j - 1) * 6)) (oix (.t rfl) (.t rfl) sl53 (by omega) (by omega)) (Z7 (by omega))) rfl (TW.o (oa (.t rfl) (.head _) ag97 (row_agg rfl (atT_some (by omega)))) rfl (TW.M rfl rfl (TW.M rfl rfl ?_)))
    refine TW.o (X9 (T' := X7 b (0 + j * 6)) (oix (.t rfl) (.t rfl) sl53 (by omega) (by omega)) (Z7 (by omega))) rfl (TW.o (oa (.t rfl) (.head _) ag97 (row_agg rfl (atT_some (by omega)))) rfl ?_)
    refine TW.o (X9 (T' := X7 b (0 + j * 6)) (oix (.t rfl) (.t rfl) sl53 (by omega) (by omega)) (Z7 (by omega))) rfl ?_
    exact TW.nil
   case ag2 => exact ⟨⟨_, rfl, rfl⟩, ⟨_, rfl, rfl⟩, ⟨_, rfl, rfl⟩, trivial⟩
   refine J.store (.t rfl) (.t rfl) .here sz97 (T4 (by omega)) ?_
   refine J.o (X9 (T' := X7 b (0 + (j - 1) * 6)) (oix (.t rfl) (.t rfl) sl53 (by omega) (by omega)) (Z7 (by omega))) rfl ?_
   refine J.store (.t rfl) (.t rfl) .here sz97 (T4 (by simp; omega)) (J.nil (JQ.block_normal (JQ.then_normal (JC.region (J.M rfl rfl ?_)))))
   refine J.o (K4 (.t rfl) .is (w64 (by omega) (by omega))) rfl (J.A rfl rfl (J.nil ?_))
   exact JQ.round2 (i := j) (i2 := zs) (j - 1) ((zs.set j (atT zs (j - 1))).set (j - 1) (atT zs j)) ⟨by omega, by simpa using hzs, by rw [← hw]; exact siftT_go (by omega) (by simpa [cmpT] using hc1.2)⟩ (by omega) (Q8 (X3 (.keep (fun _ _ h => by first | exact h | simpa using h) .nil)) (Z3 ⟨.t rfl, .t rfl, .t rfl, .t rfl, .t rfl, .eq (.t rfl) (by first | rfl | (congr 3; omega) | (congr 2; omega)), .t rfl, .t rfl, .t rfl, .t rfl, trivial⟩))
  ·try simp only [bsx] at hc1
   have hs34 := hc1
   have hst : ¬ a < j ∨ ¬ cmpT (atT zs j) (atT zs (j - 1)) < 0 := by rcases hc1 with h | h; exact .inl (by omega); exact .inr (by simpa [cmpT] using h)
   refine JC.exit (JQ.then_exit (JQ.then_exit (JQ.block_exit (JQ.block_normal (JQ.then_normal (JC.region (J.M rfl rfl ?_)))))))
   refine J.o (Z6 (.t rfl) .is (w64 (by omega) (by omega))) rfl (J.A rfl rfl (J.nil ?_))
   exact JQ.round2 (i := i) (i2 := ys) (i + 1) (siftT a i ys) ⟨by omega, by rw [siftT_len]; exact hys, by rw [← hv]; exact insT_step (by omega)⟩ (by omega) (Q8 (X3 (.keep (K8 (by rw [← hw, siftT_stop hst])) .nil)) (Z3 ⟨.t rfl, .t rfl, .t rfl, .t rfl, .eq (.t rfl) (by first | rfl | (congr 3; omega) | (congr 2; omega)), trivial⟩))
 ·try simp only [bsx] at hc0
  have hs14 := hc0
  refine JC.exit (JQ.then_exit (JQ.then_exit (JQ.block_exit ?_)))
  exact (JQ.retL0 rfl (.head _) (K8 (by rw [← hv, insT_end (by omega)]))).2

theorem insert0_c  : Ctr Try.prog 129 [tIs (.slice none 0 0), tIs (.int .i64 0), tIs (.int .i64 0), tFn 111 []] K5 := by
 refine Ctr.of Try.func129 rfl Try.ntmps129 (Nat.le_of_ble_eq_true rfl) fun w0 M0 => (JC.g (J.M rfl rfl ?_))
 refine J.o (Z6 (.t rfl) .is (w64 (by omega) (by omega))) rfl (J.A rfl rfl (J.e (JC.block ?_)))
 refine JC.loop (ι := Nat) (fun i => [(0, tIs (.slice none 0 0)), (1, tIs (.int .i64 0)), (2, tIs (.int .i64 0)), (3, tFn 111 []), (8, tIs (.int .i64 1))]) (fun i => []) (fun i => i = 0) (fun i => i) 0 (by omega) ?lsub0 ?round0
 case lsub0 => exact Q8 (X3 .nil) (Z3 ⟨.t rfl, .t rfl, .t rfl, .t rfl, .eq (.t rfl) (by rfl), trivial⟩)
 intro i hinv
 refine JC.seq (JC.g (J.M rfl rfl (J.M rfl rfl (J.o (Y6 (.t rfl) (.t rfl)) rfl (J.e ?_)))))
 refine JC.cond_false (.eq (.t rfl) (by rfl)) ?_
 refine JC.exit (JQ.then_exit (JQ.then_exit (JQ.block_exit ?_)))
 exact (JQ.ret0 rfl).2

theorem stable0_c  : Ctr Try.prog 122 [tIs (.slice none 0 0), tIs (.int .i64 0), tFn 111 []] K5 := by
 refine Ctr.of Try.func122 rfl Try.ntmps122 (Nat.le_of_ble_eq_true rfl) fun w0 M0 => (JC.g ?_)
 refine J.a .is rfl (J.e (JC.g (J.M rfl rfl ?_)))
 refine J.a .is rfl (J.A rfl rfl (J.e (JC.seq (JC.block ?_))))
 refine JC.loop (ι := Nat) (fun i => [(0, tIs (.slice none 0 0)), (1, tIs (.int .i64 0)), (2, tFn 111 []), (6, tIs (.int .i64 20)), (7, tIs (.int .i64 0)), (8, tIs (.int .i64 20))]) (fun i => []) (fun i => i = 0) (fun i => i) 0 (by omega) ?lsub0 ?round0
 case lsub0 => exact Q8 (X3 .nil) (Z3 ⟨.t rfl, .t rfl, .t rfl, .t rfl, .t rfl, .t rfl, trivial⟩)
 intro i hinv
 refine JC.seq (JC.g (J.M rfl rfl (J.M rfl rfl (J.o (ot_leq (.t rfl) (.t rfl)) rfl (J.e ?_)))))
 refine JC.cond_false (.eq (.t rfl) (by rfl)) ?_
 refine JC.exit (JQ.then_exit (JQ.then_exit (JQ.block_exit (JQ.then_normal (JC.g (J.M rfl rfl (J.M rfl rfl (J.M rfl rfl (J.M rfl rfl ?_)))))))))
 refine J.o (oc fn129 (insert0_c  ) (.cons (.t rfl) (.cons (.t rfl) (.cons (.t rfl) (.cons (.t rfl) .nil))))) rfl (J.e (JC.block ?_))
 refine JC.loop (ι := Nat) (fun i => [(0, tIs (.slice none 0 0)), (1, tIs (.int .i64 0)), (2, tFn 111 []), (6, tIs (.int .i64 20))]) (fun i => []) (fun i => i = 0) (fun i => i) 0 (by omega) ?lsub1 ?round1
 case lsub1 => exact Q8 (X3 .nil) (Z3 ⟨.t rfl, .t rfl, .t rfl, .t rfl, trivial⟩)
 intro i hinv
 refine JC.seq (JC.g (J.M rfl rfl (J.M rfl rfl (J.o (Y6 (.t rfl) (.t rfl)) rfl (J.e ?_)))))
 refine JC.cond_false (.eq (.t rfl) (by rfl)) ?_
 refine JC.exit (JQ.then_exit (JQ.then_exit (JQ.block_exit ?_)))
 exact (JQ.ret0 rfl).2

theorem sort0_c  : Ctr Try.prog 110 [tIs (.slice none 0 0), tFn 111 []] K5 := by
 refine Ctr.of Try.func110 rfl Try.ntmps110 (Nat.le_of_ble_eq_true rfl) fun w0 M0 => (JC.region (J.M rfl rfl (J.M rfl rfl ?_)))
 refine J.o (ot_len_nil (.t rfl) R3 rfl) rfl (J.M rfl rfl ?_)
 refine J.o (oc fn122 (stable0_c  ) (.cons (.t rfl) (.cons (.t rfl) (.cons (.t rfl) .nil)))) rfl (J.nil ?_)
 exact (JQ.ret0 rfl).2

theorem dzero_c (z : Z) (hlz : z.abs.length ≤ 1099511627776) : Ctr Try.prog 119 [tV R9 z] (tIs (.bool (decide (X4 z = 0)))) := by
 refine Ctr.of Try.func119 rfl Try.ntmps119 (Nat.le_of_ble_eq_true rfl) fun w0 M0 => (JC.g ?_)
 refine J.boxF (Ts := (iT z)) (.t rfl) rfl (ltN rfl) fun b1 => ?_
 refine J.a .is rfl (J.e (JC.g (J.o (ofa (.t rfl) fd25_1) rfl (J.o (ol (.t rfl) (.head _) sc23 (Z8 rfl)) rfl ?_))))
 refine J.o (oc fn80 (natIsZero_c z.abs (by omega)) (.cons (.t rfl) .nil)) rfl (J.A rfl rfl (J.e (JC.ret ?_)))
 exact JQ.ret1 rfl (.tmp (.eq (.t rfl) (by rw [zval_zero])))

end Go.Proofs.Ytcbnpddeiaccbaa
