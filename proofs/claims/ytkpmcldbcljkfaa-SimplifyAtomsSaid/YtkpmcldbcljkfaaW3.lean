/- Walks through the program: each function called at values of the kinds that its contract names returns what the contract says. Conditions: those in the contracts. Written by the program wip/gen. -/
import Derived.Test.YtkpmcldbcljkfaaW2
set_option linter.unusedVariables false
set_option linter.unusedSimpArgs false
set_option maxRecDepth 100000
set_option maxHeartbeats 4000000
namespace Go.Proofs.Ytkpmcldbcljkfaa
open Go Go.RowKit Go.Rt
theorem longG_c (a b : List Nat) (hl : a.length ≤ 1000000000000) (hl1 : b.length ≤ 1000000000000) (hb : 0 < val b) : Ctr Try.prog 81 [tSl encD (a), tSl encD (b)] (tTup [tSl encD (dig (val a / val b)), tSl encD (dig (val a % val b))]) := by
  refine Ctr.know 0 rfl (fun _ _ h => slP_encD h) fun hd => ?_
  refine Ctr.know 1 rfl (fun _ _ h => slP_encD h) fun hd1 => ?_
  have ht := trimD_len b
  have vb := val_trimD hd1
  have hmod := Nat.mod_lt (val a) hb
  have hn0 := trimD_len_zero hd1
  have qb := digs_trimD hd1
  refine Ctr.of Try.func81 rfl Try.ntmps81 (Nat.le_of_ble_eq_true rfl) fun w0 M0 => ?_
  refine JC.seq (JC.region ?_)
  refine J.o (ot_assign (.nil (E := encD))) rfl ?_
  refine J.o (ot_assign (.nil (E := encD))) rfl ?_
  refine J.nil (JQ.then_normal ?_)
  refine JC.scope ?_
  refine JC.seq (JC.region ?_)
  refine J.m (.tmp rfl) rfl ?_
  refine J.o (ot_call fn74 (natNormal_c b (by omega)) (.cons (.tmp rfl) .nil)) rfl ?_
  refine J.a (.tmp rfl) rfl ?_
  refine J.nil (JQ.then_normal (JC.seq (JC.seq (JC.region ?_))))
  refine J.m (.tmp rfl) rfl ?_
  refine J.m (.tmp rfl) rfl ?_
  refine J.o (ot_eqt (T' := tIs (.int .i64 (cmpN (val a) (val b)))) (ot_call fn77 (natCmp_c a (trimD b) (by omega) (by omega)) (.cons (.tmp rfl) (.cons (.tmp rfl) .nil))) (by rw [vb])) rfl ?_
  refine J.o (ot_lss (.tmp rfl) .is) rfl ?_
  refine J.nil (JQ.then_normal ?_)
  refine JC.cond (.tmp rfl) (fun hc0 => ?_) (fun hc0 => ?_)
  · try simp only [bsx] at hc0
    have hs33 := hc0
    have hlt := cmpN_neg hs33
    refine JC.seq (JC.region ?_)
    refine J.m (.tmp rfl) rfl ?_
    refine J.o (ot_call fn74 (natNormal_c a (by omega)) (.cons (.tmp rfl) .nil)) rfl ?_
    refine J.o (ot_assign (.nil (E := encD))) rfl ?_
    refine J.a (.tmp rfl) rfl ?_
    refine J.nil (JQ.then_normal (JC.ret (JQ.then_ret ?_)))
    refine JQ.scope_ret ?_
    exact JQ.ret2 rfl (.tmp (.eq (.tmp rfl) (by rw [Nat.div_eq_of_lt hlt, dig_zero]))) (.tmp (.eq (.tmp rfl) (by rw [Nat.mod_eq_of_lt hlt, trimD_eq hd])))
  · try simp only [bsx] at hc0
    have hs33 := hc0
    have hle := cmpN_nonneg hs33
    refine JC.skip (JQ.then_normal (JC.seq (JC.region ?_)))
    refine J.m (.tmp rfl) rfl ?_
    refine J.o (ot_len (.tmp rfl) sl23 rfl) rfl ?_
    refine J.a (.tmp rfl) rfl ?_
    refine J.nil (JQ.then_normal (JC.seq (JC.seq (JC.region ?_))))
    refine J.m (.tmp rfl) rfl ?_
    refine J.o (ot_eql (.tmp rfl) .is) rfl ?_
    refine J.nil (JQ.then_normal ?_)
    refine JC.cond (.tmp rfl) (fun hc1 => ?_) (fun hc1 => ?_)
    · try simp only [bsx] at hc1
      have hs39 := hc1
      have h1 : (trimD b).length = 1 := by omega
      have hv0 : (trimD b).getD 0 0 = val b := (val_len1 hd1 h1).symm
      have hblt : val b < 4294967296 := by rw [← hv0]; exact digs_at qb 0
      refine JC.seq (JC.region ?_)
      refine J.m (.tmp rfl) rfl ?_
      refine J.m (.tmp rfl) rfl ?_
      refine J.o (ot_index (z := (trimD b).getD 0 0) (.tmp rfl) .is sl23 (by omega) (digAt rfl (by omega))) rfl ?_
      refine J.o (ot_load (.tmp rfl) sc86 encD_ld) rfl ?_
      refine J.o (ot_eqt (T' := tTup [tSl encD (dig (val a / val b)), tIs (.int .u32 (((val a % val b : Nat) : Int))), tIs (.bool (!decide (((val b : Nat) : Int) = 0)))]) (ot_call fn84 (natDivSmall_c a ((((trimD b).getD 0 0) : Nat) : Int) (by omega) (by omega)) (.cons (.tmp rfl) (.cons (.tmp rfl) .nil))) (by rw [hv0, if_neg (by omega), if_neg (by omega), Int.toNat_natCast])) rfl ?_
      refine J.m (.tmp rfl) rfl ?_
      refine J.o (ot_extract (.tmp rfl) rfl) rfl ?_
      refine J.o (ot_extract (.tmp rfl) rfl) rfl ?_
      refine J.o (ot_extract (.tmp rfl) rfl) rfl ?_
      refine J.a (.tmp rfl) rfl ?_
      refine J.a (.tmp rfl) rfl ?_
      refine J.a (.tmp rfl) rfl ?_
      refine J.nil (JQ.then_normal (JC.seq (JC.region ?_)))
      refine J.m (.tmp rfl) rfl ?_
      refine J.m (.tmp rfl) rfl ?_
      refine J.o (ot_conv (.tmp rfl) un80 (by kernel_rfl) (wu64 (by omega) (by omega))) rfl ?_
      refine J.o (ot_eqt (T' := tSl encD (dig (val a % val b))) (ot_call fn42 (natOf_c ((val a % val b : Nat) : Int) (by omega)) (.cons (.tmp rfl) .nil)) (by rw [Int.toNat_natCast])) rfl ?_
      refine J.a (.tmp rfl) rfl ?_
      refine J.a (.tmp rfl) rfl ?_
      refine J.nil (JQ.then_normal (JC.ret (JQ.then_ret ?_)))
      refine JQ.scope_ret ?_
      exact JQ.ret2 rfl (.tmp (.tmp rfl)) (.tmp (.tmp rfl))
    · try simp only [bsx] at hc1
      have hs39 := hc1
      have hn2 : 2 ≤ (trimD b).length := by omega
      have htp := top_pos hd1 (by omega)
      obtain ⟨s, hs⟩ : ∃ s, s = 32 - bl ((trimD b).getD ((trimD b).length - 1) 0) := ⟨_, rfl⟩
      obtain ⟨hvl0, hs32⟩ := shl_len hd1 (by omega) hs
      obtain ⟨v, hv⟩ : ∃ v, v = dig (val (trimD b) * 2 ^ s) := ⟨_, rfl⟩
      have hvl : v.length = (trimD b).length := by rw [hv]; exact hvl0
      have hvd : Digs v := by rw [hv]; exact digs_dig _
      have hvv : val v = val b * 2 ^ s := by rw [hv, val_dig, vb]
      have hps : 0 < 2 ^ s := Nat.pow_pos (by decide)
      have hvp : 0 < val v := by rw [hvv]; exact Nat.mul_pos hb hps
      have hxl : (dig (val a * 2 ^ s)).length ≤ a.length + 1 := shl_dig_len hd hs32
      have hxs : (dig (val a * 2 ^ s) ++ [0]).length = (dig (val a * 2 ^ s)).length + 1 := by simp
      have hge : v.length ≤ (dig (val a * 2 ^ s)).length := by rw [hv, vb]; exact dig_len_mono (Nat.mul_le_mul_right _ hle)
      have hvtop : 0 < v.getD ((trimD b).length - 1) 0 := by rw [← hvl, hv]; exact dig_top_pos (by rw [vb]; exact shl_pos hb)
      have hvt := digs_at hvd ((trimD b).length - 1)
      have hvn := digs_at hvd ((trimD b).length - 2)
      refine JC.skip (JQ.then_normal (JC.seq (JC.region ?_)))
      refine J.m (.tmp rfl) rfl ?_
      refine J.m (.tmp rfl) rfl ?_
      refine J.o (ot_sub (.tmp rfl) .is (w64 (by omega) (by omega))) rfl ?_
      refine J.o (ot_index (z := (trimD b).getD ((trimD b).length - 1) 0) (.tmp rfl) (.tmp rfl) sl23 (by omega) (digAt (by omega) (by omega))) rfl ?_
      refine J.o (ot_load (.tmp rfl) sc86 encD_ld) rfl ?_
      refine J.o (ot_eqt (T' := tIs (.int .i64 (((s : Nat) : Int)))) (ot_call fn85 (lz32_c ((trimD b).getD ((trimD b).length - 1) 0) (digs_at qb _)) (.cons (.tmp rfl) .nil)) (by rw [hs])) rfl ?_
      refine J.a (.tmp rfl) rfl ?_
      refine J.nil (JQ.then_normal (JC.seq (JC.region ?_)))
      refine J.m (.tmp rfl) rfl ?_
      refine J.m (.tmp rfl) rfl ?_
      refine J.callO (R := fun cap => cRow encD (dig (val (trimD b) * 2 ^ s)) ((trimD (trimD b)).length + 1)) fn86 (shlO_c (trimD b) s (by omega) hs32 (by omega)) (.cons (.tmp rfl) (.cons (.tmp rfl) .nil)) (ltN rfl) fun b61 cap61 => ?_
      refine J.a (.tmp rfl) rfl ?_
      refine J.nil (JQ.then_normal (JC.seq ?_))
      refine JC.weak (sub_heap (H' := [⟨b61, 86, cRow encD (v) ((trimD (trimD b)).length + 1)⟩]) (.keep (cRow_eq hv.symm) .nil)) ?_
      refine JC.weak (sub_freeze0 (E := encD) (xs := v) (n := (dig (val (trimD b) * 2 ^ s)).length) (c := (trimD (trimD b)).length + 1) [11, 61] ⟨rfl, rfl, trivial⟩ .here (by rw [hv]) (shl_cap (digs_trimD hd1) hs32)) ?_
      refine JC.region ?_
      refine J.m (.tmp rfl) rfl ?_
      refine J.m (.tmp rfl) rfl ?_
      refine J.callO (R := fun cap => cRow encD (dig (val a * 2 ^ s)) ((trimD a).length + 1)) fn86 (shlO_c a s (by omega) hs32 (by omega)) (.cons (.tmp rfl) (.cons (.tmp rfl) .nil)) (ltN rfl) fun b64 cap64 => ?_
      refine J.o (ot_buildSlice (E := encD) (zs := [0]) sl23 (.cons (.sub .is (encD_in (by omega) (by omega))) .nil) rfl zr86 rfl (by decide) (by decide)) rfl ?_
      refine J.append (E := encD) (xs := dig (val a * 2 ^ s)) (ys := [0]) (.tmp rfl) rfl (.tmp rfl) sl23 rfl zr86 rfl .here (by simp <;> omega) (by simp <;> omega) (ltN rfl) fun b66 c66 => ?_
      refine J.a (.tmp rfl) rfl ?_
      refine J.nil (JQ.then_normal (JC.seq (JC.region ?_)))
      refine J.m (.tmp rfl) rfl ?_
      refine J.o (ot_len_own (.tmp rfl) sl23 rfl) rfl ?_
      refine J.m (.tmp rfl) rfl ?_
      refine J.o (ot_sub (.tmp rfl) (.tmp rfl) (w64 (by omega) (by omega))) rfl ?_
      refine J.make (E := encD) (z := 0) (n := (dig (val a * 2 ^ s)).length + 1 - v.length) sl23 (.eq (.tmp rfl) (by congr 2; simp; omega)) (.eq (.tmp rfl) (by congr 2; simp; omega)) zr86 (fun _ => encD_zero) (by decide) (by omega) (by omega) (ltN rfl) fun b71 => ?_
      refine J.a (.tmp rfl) rfl ?_
      refine J.nil (JQ.then_normal (JC.seq ?_))
      refine JC.draw (Γ' := ?g1) mo (by kernel_rfl) ?tw1 ?k1
      case tw1 =>
        refine TW.m (.tmp rfl) rfl ?_
        refine TW.m (.tmp rfl) rfl ?_
        refine TW.o (ot_sub (.tmp rfl) .is (w64 (by omega) (by omega))) rfl ?_
        refine TW.o (ot_index (z := v.getD ((trimD b).length - 1) 0) (.tmp rfl) (.tmp rfl) sl23 (by omega) (digAt (by omega) (by omega))) rfl ?_
        refine TW.o (ot_load (.tmp rfl) sc86 encD_ld) rfl ?_
        refine TW.o (ot_conv (.tmp rfl) un80 (by kernel_rfl) (wu64 (by omega) (by omega))) rfl ?_
        refine TW.m (.tmp rfl) rfl ?_
        refine TW.m (.tmp rfl) rfl ?_
        refine TW.o (ot_sub (.tmp rfl) .is (w64 (by omega) (by omega))) rfl ?_
        refine TW.o (ot_index (z := v.getD ((trimD b).length - 2) 0) (.tmp rfl) (.tmp rfl) sl23 (by omega) (digAt (by omega) (by omega))) rfl ?_
        refine TW.o (ot_load (.tmp rfl) sc86 encD_ld) rfl ?_
        refine TW.o (ot_conv (.tmp rfl) un80 (by kernel_rfl) (wu64 (by omega) (by omega))) rfl ?_
        refine TW.o (ot_assign (.tmp rfl)) rfl ?_
        refine TW.o (ot_assign (.tmp rfl)) rfl ?_
        exact TW.nil
      refine JQ.then_normal (JC.seq ?_)
      refine JC.label ?_
      refine JQ.then_normal (JC.seq (JC.seq (JC.region ?_)))
      refine J.m (.tmp rfl) rfl ?_
      refine J.o (ot_len_own (.tmp rfl) sl23 rfl) rfl ?_
      refine J.m (.tmp rfl) rfl ?_
      refine J.o (ot_sub (.tmp rfl) (.tmp rfl) (w64 (by omega) (by omega))) rfl ?_
      refine J.o (ot_sub (.tmp rfl) .is (w64 (by omega) (by omega))) rfl ?_
      refine J.a (.tmp rfl) rfl ?_
      refine J.nil (JQ.then_normal (JC.block ?_))
      refine JC.loop3 (α := Nat) (β := List Nat) (γ := List Nat) (fun k u q => [(4, sIs b71 0 ((dig (val a * 2 ^ s)).length + 1 - v.length) ((dig (val a * 2 ^ s)).length + 1 - v.length)), (5, tSl encD ([])), (6, tIs (.int .i64 (((trimD b).length : Int)))), (10, tIs (.int .i64 (((s : Nat) : Int)))), (11, tSl encD (v)), (12, sIs b66 0 ((dig (val a * 2 ^ s)).length + 1) (c66)), (13, tIs (.int .u64 ((((v.getD ((trimD b).length - 1) 0) : Nat) : Int)))), (14, tIs (.int .u64 ((((v.getD ((trimD b).length - 2) 0) : Nat) : Int)))), (15, tIs (.int .i64 (((k : Nat) : Int) - 1)))]) (fun k u q => [⟨b71, 86, cRow encD (q) ((dig (val a * 2 ^ s)).length + 1 - v.length)⟩, ⟨b66, 86, cRow encD (u) (c66)⟩]) (fun k u q => KInv (val a * 2 ^ s) v u q (trimD b).length ((dig (val a * 2 ^ s)).length + 1 - v.length) k) (fun k u q => k) ((dig (val a * 2 ^ s)).length + 1 - v.length) (dig (val a * 2 ^ s) ++ [0]) (List.replicate ((dig (val a * 2 ^ s)).length + 1 - v.length) 0) (by rw [← hvl]; exact KInv.start hvp hvd (by rw [hv, val_dig]) hge) ?lsub0 ?round0
      case lsub0 => exact sub_trans (sub_heap (.keep (fun _ _ h => by first | exact h | simpa using h) (.keep (fun _ _ h => by first | exact h | simpa using h) .nil))) (sub_cons (.tmp rfl) (sub_cons (.tmp rfl) (sub_cons (.tmp rfl) (sub_cons (.tmp rfl) (sub_cons (.tmp rfl) (sub_cons (.eq (.tmp rfl) (by congr 1 <;> simp)) (sub_cons (.tmp rfl) (sub_cons (.tmp rfl) (sub_cons (.eq (.tmp rfl) (by congr 2 <;> (try simp) <;> omega)) (sub_nil))))))))))
      intro k u q hinv
      have hI := hinv
      have hul := hI.lu
      have hql := hI.lq
      have hkm := hI.hk
      rw [hvl] at hul hql hkm hge
      refine JC.seq (JC.seq (JC.region ?_))
      refine J.m (.tmp rfl) rfl ?_
      refine J.o (ot_geq (.tmp rfl) .is) rfl ?_
      refine J.nil (JQ.then_normal ?_)
      refine JC.cond (.tmp rfl) (fun hc2 => ?_) (fun hc2 => ?_)
      · try simp only [bsx] at hc2
        have hs90 := hc2
        have hI1 : KInv (val a * 2 ^ s) v u q (trimD b).length ((dig (val a * 2 ^ s)).length + 1 - v.length) (k - 1 + 1) := by rw [show k - 1 + 1 = k by omega]; exact hI
        have hG := hI1.gk hn2 hvl hvd hvtop
        have hu2 := hI1.u2_lt
        have hx0 := digs_at hI.du (k - 1 + (trimD b).length)
        have hx1 := digs_at hI.du (k - 1 + (trimD b).length - 1)
        have hx2 := digs_at hI.du (k - 1 + (trimD b).length - 2)
        refine JC.skip (JQ.then_normal (JC.seq (JC.block (JC.seq ?_))))
        refine JC.draw (Γ' := ?g2) mo (by kernel_rfl) ?tw2 ?k2
        case tw2 =>
          refine TW.m (.tmp rfl) rfl ?_
          refine TW.m (.tmp rfl) rfl ?_
          refine TW.m (.tmp rfl) rfl ?_
          refine TW.o (ot_add (.tmp rfl) (.tmp rfl) (w64 (by omega) (by omega))) rfl ?_
          refine TW.o (ot_eqt (T' := pOwn b66 (0 + (k - 1 + (trimD b).length) * 1)) (ot_index_own (.tmp rfl) (.tmp rfl) sl23 (by omega) (by omega)) (own_off2 (by omega))) rfl ?_
          refine TW.o (ot_load_own (.tmp rfl) (.tail _ (.head _)) sc86 (encD_row (digAtN (by omega)))) rfl ?_
          refine TW.o (ot_conv (.tmp rfl) un80 (by kernel_rfl) (wu64 (by omega) (by omega))) rfl ?_
          refine TW.o (ot_shl (.tmp rfl) .is (by omega) (shl32N hx0)) rfl ?_
          refine TW.m (.tmp rfl) rfl ?_
          refine TW.m (.tmp rfl) rfl ?_
          refine TW.m (.tmp rfl) rfl ?_
          refine TW.o (ot_add (.tmp rfl) (.tmp rfl) (w64 (by omega) (by omega))) rfl ?_
          refine TW.o (ot_sub (.tmp rfl) .is (w64 (by omega) (by omega))) rfl ?_
          refine TW.o (ot_eqt (T' := pOwn b66 (0 + (k - 1 + (trimD b).length - 1) * 1)) (ot_index_own (.tmp rfl) (.tmp rfl) sl23 (by omega) (by omega)) (own_off2 (by omega))) rfl ?_
          refine TW.o (ot_load_own (.tmp rfl) (.tail _ (.head _)) sc86 (encD_row (digAtN (by omega)))) rfl ?_
          refine TW.o (ot_conv (.tmp rfl) un80 (by kernel_rfl) (wu64 (by omega) (by omega))) rfl ?_
          refine TW.o (ot_or (.tmp rfl) (.tmp rfl) (or_halvesN hx0 hx1)) rfl ?_
          refine TW.m (.tmp rfl) rfl ?_
          refine TW.o (ot_call fn87 (div64_c (u.getD (k - 1 + (trimD b).length) 0 * 4294967296 + u.getD (k - 1 + (trimD b).length - 1) 0) (v.getD ((trimD b).length - 1) 0) hu2 hvtop) (.cons .is (.cons (.tmp rfl) (.cons (.tmp rfl) .nil)))) rfl ?_
          refine TW.m (.tmp rfl) rfl ?_
          refine TW.o (ot_extract (.tmp rfl) rfl) rfl ?_
          refine TW.o (ot_extract (.tmp rfl) rfl) rfl ?_
          refine TW.o (ot_assign (.tmp rfl)) rfl ?_
          refine TW.o (ot_assign (.tmp rfl)) rfl ?_
          exact TW.nil
        refine JQ.then_normal ?_
        refine JC.join1 (α := Nat) (fun g => [(4, sIs b71 0 ((dig (val a * 2 ^ s)).length + 1 - v.length) ((dig (val a * 2 ^ s)).length + 1 - v.length)), (5, tSl encD ([])), (6, tIs (.int .i64 (((trimD b).length : Int)))), (10, tIs (.int .i64 (((s : Nat) : Int)))), (11, tSl encD (v)), (12, sIs b66 0 ((dig (val a * 2 ^ s)).length + 1) (c66)), (13, tIs (.int .u64 ((((v.getD ((trimD b).length - 1) 0) : Nat) : Int)))), (14, tIs (.int .u64 ((((v.getD ((trimD b).length - 2) 0) : Nat) : Int)))), (15, tIs (.int .i64 (((k : Nat) : Int) - 1))), (16, tIs (.int .u64 (((g : Nat) : Int)))), (89, tIs (.int .i64 (((k : Nat) : Int) - 1))), (90, tIs (.bool (decide (0 ≤ (((k : Nat) : Int) - 1))))), (93, tTup [tIs (.int .u64 ((((u.getD (k - 1 + (trimD b).length) 0 * 4294967296 + u.getD (k - 1 + (trimD b).length - 1) 0) / (v.getD ((trimD b).length - 1) 0) : Nat) : Int))), tIs (.int .u64 ((((u.getD (k - 1 + (trimD b).length) 0 * 4294967296 + u.getD (k - 1 + (trimD b).length - 1) 0) % (v.getD ((trimD b).length - 1) 0) : Nat) : Int)))]), (94, sIs b66 0 ((dig (val a * 2 ^ s)).length + 1) (c66)), (95, tIs (.int .i64 (((k : Nat) : Int) - 1))), (96, tIs (.int .i64 (((trimD b).length : Int)))), (97, tIs (.int .i64 ((((k : Nat) : Int) - 1) + ((trimD b).length : Int)))), (98, pOwn b66 (0 + (k - 1 + (trimD b).length) * 1)), (99, tIs (.int .u32 ((((u.getD (k - 1 + (trimD b).length) 0) : Nat) : Int)))), (100, tIs (.int .u64 ((((u.getD (k - 1 + (trimD b).length) 0) : Nat) : Int)))), (101, tIs (.int .u64 (((u.getD (k - 1 + (trimD b).length) 0 : Nat) : Int) * 4294967296))), (102, sIs b66 0 ((dig (val a * 2 ^ s)).length + 1) (c66)), (103, tIs (.int .i64 (((k : Nat) : Int) - 1))), (104, tIs (.int .i64 (((trimD b).length : Int)))), (105, tIs (.int .i64 ((((k : Nat) : Int) - 1) + ((trimD b).length : Int)))), (106, tIs (.int .i64 (((((k : Nat) : Int) - 1) + ((trimD b).length : Int)) - 1))), (107, pOwn b66 (0 + (k - 1 + (trimD b).length - 1) * 1)), (108, tIs (.int .u32 ((((u.getD (k - 1 + (trimD b).length - 1) 0) : Nat) : Int)))), (109, tIs (.int .u64 ((((u.getD (k - 1 + (trimD b).length - 1) 0) : Nat) : Int)))), (110, tIs (.int .u64 (((u.getD (k - 1 + (trimD b).length) 0 * 4294967296 + u.getD (k - 1 + (trimD b).length - 1) 0 : Nat) : Int)))), (111, tIs (.int .u64 ((((v.getD ((trimD b).length - 1) 0) : Nat) : Int)))), (112, tTup [tIs (.int .u64 ((((u.getD (k - 1 + (trimD b).length) 0 * 4294967296 + u.getD (k - 1 + (trimD b).length - 1) 0) / (v.getD ((trimD b).length - 1) 0) : Nat) : Int))), tIs (.int .u64 ((((u.getD (k - 1 + (trimD b).length) 0 * 4294967296 + u.getD (k - 1 + (trimD b).length - 1) 0) % (v.getD ((trimD b).length - 1) 0) : Nat) : Int)))]), (113, tIs (.int .u64 ((((u.getD (k - 1 + (trimD b).length) 0 * 4294967296 + u.getD (k - 1 + (trimD b).length - 1) 0) / (v.getD ((trimD b).length - 1) 0) : Nat) : Int)))), (114, tIs (.int .u64 ((((u.getD (k - 1 + (trimD b).length) 0 * 4294967296 + u.getD (k - 1 + (trimD b).length - 1) 0) % (v.getD ((trimD b).length - 1) 0) : Nat) : Int))))]) (fun g => [⟨b71, 86, cRow encD (q) ((dig (val a * 2 ^ s)).length + 1 - v.length)⟩, ⟨b66, 86, cRow encD (u) (c66)⟩]) (fun g => GOk (val v) (val (u.drop (k - 1))) g) ?way1 ?on1
        case way1 =>
          refine JC.block ?_
          refine JC.loop2 (α := Nat) (β := Nat) (fun g r => [(4, sIs b71 0 ((dig (val a * 2 ^ s)).length + 1 - v.length) ((dig (val a * 2 ^ s)).length + 1 - v.length)), (5, tSl encD ([])), (6, tIs (.int .i64 (((trimD b).length : Int)))), (10, tIs (.int .i64 (((s : Nat) : Int)))), (11, tSl encD (v)), (12, sIs b66 0 ((dig (val a * 2 ^ s)).length + 1) (c66)), (13, tIs (.int .u64 ((((v.getD ((trimD b).length - 1) 0) : Nat) : Int)))), (14, tIs (.int .u64 ((((v.getD ((trimD b).length - 2) 0) : Nat) : Int)))), (15, tIs (.int .i64 (((k : Nat) : Int) - 1))), (16, tIs (.int .u64 (((g : Nat) : Int)))), (17, tIs (.int .u64 (((r : Nat) : Int)))), (89, tIs (.int .i64 (((k : Nat) : Int) - 1))), (90, tIs (.bool (decide (0 ≤ (((k : Nat) : Int) - 1))))), (93, tTup [tIs (.int .u64 ((((u.getD (k - 1 + (trimD b).length) 0 * 4294967296 + u.getD (k - 1 + (trimD b).length - 1) 0) / (v.getD ((trimD b).length - 1) 0) : Nat) : Int))), tIs (.int .u64 ((((u.getD (k - 1 + (trimD b).length) 0 * 4294967296 + u.getD (k - 1 + (trimD b).length - 1) 0) % (v.getD ((trimD b).length - 1) 0) : Nat) : Int)))]), (94, sIs b66 0 ((dig (val a * 2 ^ s)).length + 1) (c66)), (95, tIs (.int .i64 (((k : Nat) : Int) - 1))), (96, tIs (.int .i64 (((trimD b).length : Int)))), (97, tIs (.int .i64 ((((k : Nat) : Int) - 1) + ((trimD b).length : Int)))), (98, pOwn b66 (0 + (k - 1 + (trimD b).length) * 1)), (99, tIs (.int .u32 ((((u.getD (k - 1 + (trimD b).length) 0) : Nat) : Int)))), (100, tIs (.int .u64 ((((u.getD (k - 1 + (trimD b).length) 0) : Nat) : Int)))), (101, tIs (.int .u64 (((u.getD (k - 1 + (trimD b).length) 0 : Nat) : Int) * 4294967296))), (102, sIs b66 0 ((dig (val a * 2 ^ s)).length + 1) (c66)), (103, tIs (.int .i64 (((k : Nat) : Int) - 1))), (104, tIs (.int .i64 (((trimD b).length : Int)))), (105, tIs (.int .i64 ((((k : Nat) : Int) - 1) + ((trimD b).length : Int)))), (106, tIs (.int .i64 (((((k : Nat) : Int) - 1) + ((trimD b).length : Int)) - 1))), (107, pOwn b66 (0 + (k - 1 + (trimD b).length - 1) * 1)), (108, tIs (.int .u32 ((((u.getD (k - 1 + (trimD b).length - 1) 0) : Nat) : Int)))), (109, tIs (.int .u64 ((((u.getD (k - 1 + (trimD b).length - 1) 0) : Nat) : Int)))), (110, tIs (.int .u64 (((u.getD (k - 1 + (trimD b).length) 0 * 4294967296 + u.getD (k - 1 + (trimD b).length - 1) 0 : Nat) : Int)))), (111, tIs (.int .u64 ((((v.getD ((trimD b).length - 1) 0) : Nat) : Int)))), (112, tTup [tIs (.int .u64 ((((u.getD (k - 1 + (trimD b).length) 0 * 4294967296 + u.getD (k - 1 + (trimD b).length - 1) 0) / (v.getD ((trimD b).length - 1) 0) : Nat) : Int))), tIs (.int .u64 ((((u.getD (k - 1 + (trimD b).length) 0 * 4294967296 + u.getD (k - 1 + (trimD b).length - 1) 0) % (v.getD ((trimD b).length - 1) 0) : Nat) : Int)))]), (113, tIs (.int .u64 ((((u.getD (k - 1 + (trimD b).length) 0 * 4294967296 + u.getD (k - 1 + (trimD b).length - 1) 0) / (v.getD ((trimD b).length - 1) 0) : Nat) : Int)))), (114, tIs (.int .u64 ((((u.getD (k - 1 + (trimD b).length) 0 * 4294967296 + u.getD (k - 1 + (trimD b).length - 1) 0) % (v.getD ((trimD b).length - 1) 0) : Nat) : Int))))]) (fun g r => [⟨b71, 86, cRow encD (q) ((dig (val a * 2 ^ s)).length + 1 - v.length)⟩, ⟨b66, 86, cRow encD (u) (c66)⟩]) (fun g r => GInv (val v) (val (u.drop (k - 1))) (v.getD ((trimD b).length - 1) 0) (u.getD (k - 1 + (trimD b).length) 0 * 4294967296 + u.getD (k - 1 + (trimD b).length - 1) 0) g r) (fun g r => 4294967296 - r) ((u.getD (k - 1 + (trimD b).length) 0 * 4294967296 + u.getD (k - 1 + (trimD b).length - 1) 0) / (v.getD ((trimD b).length - 1) 0)) ((u.getD (k - 1 + (trimD b).length) 0 * 4294967296 + u.getD (k - 1 + (trimD b).length - 1) 0) % (v.getD ((trimD b).length - 1) 0)) (GInv.start hG hvt) ?lsub1 ?round1
          case lsub1 => exact sub_trans (sub_heap (.keep (fun _ _ h => h) (.keep (fun _ _ h => h) .nil))) (sub_cons (.tmp rfl) (sub_cons (.tmp rfl) (sub_cons (.tmp rfl) (sub_cons (.tmp rfl) (sub_cons (.tmp rfl) (sub_cons (.tmp rfl) (sub_cons (.tmp rfl) (sub_cons (.tmp rfl) (sub_cons (.tmp rfl) (sub_cons (.eq (.tmp rfl) (by first | rfl | (congr 3; omega) | (congr 2; omega))) (sub_cons (.eq (.tmp rfl) (by first | rfl | (congr 3; omega) | (congr 2; omega))) (sub_cons (.tmp rfl) (sub_cons (.tmp rfl) (sub_cons (.tmp rfl) (sub_cons (.tmp rfl) (sub_cons (.tmp rfl) (sub_cons (.tmp rfl) (sub_cons (.tmp rfl) (sub_cons (.tmp rfl) (sub_cons (.tmp rfl) (sub_cons (.tmp rfl) (sub_cons (.tmp rfl) (sub_cons (.tmp rfl) (sub_cons (.tmp rfl) (sub_cons (.tmp rfl) (sub_cons (.tmp rfl) (sub_cons (.tmp rfl) (sub_cons (.tmp rfl) (sub_cons (.tmp rfl) (sub_cons (.tmp rfl) (sub_cons (.tmp rfl) (sub_cons (.tmp rfl) (sub_cons (.tmp rfl) (sub_cons (.tmp rfl) (sub_cons (.tmp rfl) (sub_nil))))))))))))))))))))))))))))))))))))
          intro g r hinv
          have hGI := hinv
          have hr := hGI.hr
          refine JC.seq (JC.seq (JC.region ?_))
          refine J.m (.tmp rfl) rfl ?_
          refine J.o (ot_geq (.tmp rfl) .is) rfl ?_
          refine J.m (.tmp rfl) rfl ?_
          refine J.opg rfl rfl rfl (ltN rfl) (fun hg => ot_move (.tmp rfl)) rfl (ltN rfl) ?_
          refine J.opg rfl rfl rfl (ltN rfl) (fun hg => ot_move (.tmp rfl)) rfl (ltN rfl) ?_
          refine J.opg rfl rfl rfl (ltN rfl) (fun hg => (by have hg' := hg; (try simp only [bsx] at hg'); exact ot_mul (.iff hg (.tmp rfl)) (.iff hg (.tmp rfl)) (w_mul64 (by omega) (by omega)))) rfl (ltN rfl) ?_
          refine J.opg rfl rfl rfl (ltN rfl) (fun hg => ot_move (.tmp rfl)) rfl (ltN rfl) ?_
          refine J.opg rfl rfl rfl (ltN rfl) (fun hg => (by have hg' := hg; (try simp only [bsx] at hg'); exact ot_shl (.iff hg (.tmp rfl)) .is (by omega) (shl32N hr))) rfl (ltN rfl) ?_
          refine J.opg rfl rfl rfl (ltN rfl) (fun hg => ot_move (.tmp rfl)) rfl (ltN rfl) ?_
          refine J.opg rfl rfl rfl (ltN rfl) (fun hg => ot_move (.tmp rfl)) rfl (ltN rfl) ?_
          refine J.opg rfl rfl rfl (ltN rfl) (fun hg => ot_move (.tmp rfl)) rfl (ltN rfl) ?_
          refine J.opg rfl rfl rfl (ltN rfl) (fun hg => (by have hg' := hg; (try simp only [bsx] at hg'); exact ot_add (.iff hg (.tmp rfl)) (.iff hg (.tmp rfl)) (w64 (by omega) (by omega)))) rfl (ltN rfl) ?_
          refine J.opg rfl rfl rfl (ltN rfl) (fun hg => (by have hg' := hg; (try simp only [bsx] at hg'); exact ot_sub (.iff hg (.tmp rfl)) .is (w64 (by omega) (by omega)))) rfl (ltN rfl) ?_
          refine J.opg rfl rfl rfl (ltN rfl) (fun hg => (by have hg' := hg; (try simp only [bsx] at hg'); exact ot_eqt (T' := pOwn b66 (0 + (k - 1 + (trimD b).length - 2) * 1)) (ot_index_own (.iff hg (.tmp rfl)) (.iff hg (.tmp rfl)) sl23 (by omega) (by omega)) (own_off2 (by omega)))) rfl (ltN rfl) ?_
          refine J.opg rfl rfl rfl (ltN rfl) (fun hg => (by have hg' := hg; (try simp only [bsx] at hg'); exact ot_load_own (.iff hg (.tmp rfl)) (.tail _ (.head _)) sc86 (encD_row (digAtN (by omega))))) rfl (ltN rfl) ?_
          refine J.opg rfl rfl rfl (ltN rfl) (fun hg => (by have hg' := hg; (try simp only [bsx] at hg'); exact ot_conv (.iff hg (.tmp rfl)) un80 (by kernel_rfl) (wu64 (by omega) (by omega)))) rfl (ltN rfl) ?_
          refine J.opg rfl rfl rfl (ltN rfl) (fun hg => ot_or (.iff hg (.tmp rfl)) (.iff hg (.tmp rfl)) (or_halvesN hr hx2)) rfl (ltN rfl) ?_
          refine J.opg rfl rfl rfl (ltN rfl) (fun hg => ot_gtr (.iff hg (.tmp rfl)) (.iff hg (.tmp rfl))) rfl (ltN rfl) ?_
          refine J.o (ot_or2 (.tmp rfl) .is (.tmp rfl)) rfl ?_
          refine J.nil (JQ.then_normal ?_)
          refine JC.cond (.tmp rfl) (fun hc3 => ?_) (fun hc3 => ?_)
          · try simp only [bsx] at hc3
            have hs133 := hc3
            have hcc : 4294967296 ≤ g ∨ r * 4294967296 + u.getD (k - 1 + (trimD b).length - 2) 0 < g * v.getD ((trimD b).length - 2) 0 := by omega
            have hg1 := (hGI.pos hG hcc).1
            have hgq : g < 18446744073709551616 := K_g64 hGI hvtop hu2
            refine JC.skip (JQ.then_normal (JC.block (JC.seq (JC.region ?_))))
            refine J.m (.tmp rfl) rfl ?_
            refine J.o (ot_sub (.tmp rfl) .is (w_sub1 hg1 hgq)) rfl ?_
            refine J.a (.tmp rfl) rfl ?_
            refine J.nil (JQ.then_normal (JC.seq (JC.region ?_)))
            refine J.m (.tmp rfl) rfl ?_
            refine J.m (.tmp rfl) rfl ?_
            refine J.o (ot_add (.tmp rfl) (.tmp rfl) (w_add64 (by omega))) rfl ?_
            refine J.a (.tmp rfl) rfl ?_
            refine J.nil (JQ.then_normal (JC.seq (JC.region ?_)))
            refine J.m (.tmp rfl) rfl ?_
            refine J.o (ot_geq (.tmp rfl) .is) rfl ?_
            refine J.nil (JQ.then_normal ?_)
            refine JC.cond (.tmp rfl) (fun hc4 => ?_) (fun hc4 => ?_)
            · try simp only [bsx] at hc4
              have hs140 := hc4
              have hok := hGI.brk hG hcc (by omega)
              refine JC.exit ?_
              refine JQ.block_other rfl ?_
              refine JQ.then_exit (JQ.block_exit ?_)
              exact JQ.join1 (g - 1) hok (sub_trans (sub_heap (.keep (fun _ _ h => h) (.keep (fun _ _ h => h) .nil))) (sub_cons (.tmp rfl) (sub_cons (.tmp rfl) (sub_cons (.tmp rfl) (sub_cons (.tmp rfl) (sub_cons (.tmp rfl) (sub_cons (.tmp rfl) (sub_cons (.tmp rfl) (sub_cons (.tmp rfl) (sub_cons (.tmp rfl) (sub_cons (.eq (.tmp rfl) (by first | rfl | (congr 3; omega) | (congr 2; omega))) (sub_cons (.tmp rfl) (sub_cons (.tmp rfl) (sub_cons (.tmp rfl) (sub_cons (.tmp rfl) (sub_cons (.tmp rfl) (sub_cons (.tmp rfl) (sub_cons (.tmp rfl) (sub_cons (.tmp rfl) (sub_cons (.tmp rfl) (sub_cons (.tmp rfl) (sub_cons (.tmp rfl) (sub_cons (.tmp rfl) (sub_cons (.tmp rfl) (sub_cons (.tmp rfl) (sub_cons (.tmp rfl) (sub_cons (.tmp rfl) (sub_cons (.tmp rfl) (sub_cons (.tmp rfl) (sub_cons (.tmp rfl) (sub_cons (.tmp rfl) (sub_cons (.tmp rfl) (sub_cons (.tmp rfl) (sub_cons (.tmp rfl) (sub_cons (.tmp rfl) (sub_nil))))))))))))))))))))))))))))))))))))
            · try simp only [bsx] at hc4
              have hs140 := hc4
              refine JC.skip (JQ.block_normal ?_)
              exact JQ.round2 (i := g) (i2 := r) (g - 1) (r + v.getD ((trimD b).length - 1) 0) (hGI.next hG hcc (by omega)) (by omega) (sub_trans (sub_heap (.keep (fun _ _ h => h) (.keep (fun _ _ h => h) .nil))) (sub_cons (.tmp rfl) (sub_cons (.tmp rfl) (sub_cons (.tmp rfl) (sub_cons (.tmp rfl) (sub_cons (.tmp rfl) (sub_cons (.tmp rfl) (sub_cons (.tmp rfl) (sub_cons (.tmp rfl) (sub_cons (.tmp rfl) (sub_cons (.eq (.tmp rfl) (by first | rfl | (congr 3; omega) | (congr 2; omega))) (sub_cons (.eq (.tmp rfl) (by first | rfl | (congr 3; omega) | (congr 2; omega))) (sub_cons (.tmp rfl) (sub_cons (.tmp rfl) (sub_cons (.tmp rfl) (sub_cons (.tmp rfl) (sub_cons (.tmp rfl) (sub_cons (.tmp rfl) (sub_cons (.tmp rfl) (sub_cons (.tmp rfl) (sub_cons (.tmp rfl) (sub_cons (.tmp rfl) (sub_cons (.tmp rfl) (sub_cons (.tmp rfl) (sub_cons (.tmp rfl) (sub_cons (.tmp rfl) (sub_cons (.tmp rfl) (sub_cons (.tmp rfl) (sub_cons (.tmp rfl) (sub_cons (.tmp rfl) (sub_cons (.tmp rfl) (sub_cons (.tmp rfl) (sub_cons (.tmp rfl) (sub_cons (.tmp rfl) (sub_cons (.tmp rfl) (sub_cons (.tmp rfl) (sub_nil)))))))))))))))))))))))))))))))))))))
          · try simp only [bsx] at hc3
            have hs133 := hc3
            have hok := hGI.stop hG (by omega) (by omega)
            refine JC.exit (JQ.then_exit (JQ.then_exit (JQ.block_exit ?_)))
            exact JQ.join1 g hok (sub_trans (sub_heap (.keep (fun _ _ h => h) (.keep (fun _ _ h => h) .nil))) (sub_cons (.tmp rfl) (sub_cons (.tmp rfl) (sub_cons (.tmp rfl) (sub_cons (.tmp rfl) (sub_cons (.tmp rfl) (sub_cons (.tmp rfl) (sub_cons (.tmp rfl) (sub_cons (.tmp rfl) (sub_cons (.tmp rfl) (sub_cons (.tmp rfl) (sub_cons (.tmp rfl) (sub_cons (.tmp rfl) (sub_cons (.tmp rfl) (sub_cons (.tmp rfl) (sub_cons (.tmp rfl) (sub_cons (.tmp rfl) (sub_cons (.tmp rfl) (sub_cons (.tmp rfl) (sub_cons (.tmp rfl) (sub_cons (.tmp rfl) (sub_cons (.tmp rfl) (sub_cons (.tmp rfl) (sub_cons (.tmp rfl) (sub_cons (.tmp rfl) (sub_cons (.tmp rfl) (sub_cons (.tmp rfl) (sub_cons (.tmp rfl) (sub_cons (.tmp rfl) (sub_cons (.tmp rfl) (sub_cons (.tmp rfl) (sub_cons (.tmp rfl) (sub_cons (.tmp rfl) (sub_cons (.tmp rfl) (sub_cons (.tmp rfl) (sub_nil))))))))))))))))))))))))))))))))))))
        intro g hj2
        have hgo := hj2
        have hg := hgo.lt
        refine JC.seq (JC.region ?_)
        refine J.a .is rfl ?_
        refine J.a .is rfl ?_
        refine J.nil (JQ.then_normal (JC.seq (JC.seq (JC.region ?_))))
        refine J.m (.tmp rfl) rfl ?_
        refine J.o (ot_len (.tmp rfl) sl23 rfl) rfl ?_
        refine J.m .is rfl ?_
        refine J.nil (JQ.then_normal (JC.block ?_))
        refine JC.loop4 (α := Nat) (β := List Nat) (γ := Nat) (δ := Nat) (fun i U c b1 => [(4, sIs b71 0 ((dig (val a * 2 ^ s)).length + 1 - v.length) ((dig (val a * 2 ^ s)).length + 1 - v.length)), (5, tSl encD ([])), (6, tIs (.int .i64 (((trimD b).length : Int)))), (10, tIs (.int .i64 (((s : Nat) : Int)))), (11, tSl encD (v)), (12, sIs b66 0 ((dig (val a * 2 ^ s)).length + 1) (c66)), (13, tIs (.int .u64 ((((v.getD ((trimD b).length - 1) 0) : Nat) : Int)))), (14, tIs (.int .u64 ((((v.getD ((trimD b).length - 2) 0) : Nat) : Int)))), (15, tIs (.int .i64 (((k : Nat) : Int) - 1))), (16, tIs (.int .u64 (((g : Nat) : Int)))), (18, tIs (.int .u64 (((c : Nat) : Int)))), (19, tIs (.int .u64 (((b1 : Nat) : Int)))), (89, tIs (.int .i64 (((k : Nat) : Int) - 1))), (90, tIs (.bool (decide (0 ≤ (((k : Nat) : Int) - 1))))), (93, tTup [tIs (.int .u64 ((((u.getD (k - 1 + (trimD b).length) 0 * 4294967296 + u.getD (k - 1 + (trimD b).length - 1) 0) / (v.getD ((trimD b).length - 1) 0) : Nat) : Int))), tIs (.int .u64 ((((u.getD (k - 1 + (trimD b).length) 0 * 4294967296 + u.getD (k - 1 + (trimD b).length - 1) 0) % (v.getD ((trimD b).length - 1) 0) : Nat) : Int)))]), (94, sIs b66 0 ((dig (val a * 2 ^ s)).length + 1) (c66)), (95, tIs (.int .i64 (((k : Nat) : Int) - 1))), (96, tIs (.int .i64 (((trimD b).length : Int)))), (97, tIs (.int .i64 ((((k : Nat) : Int) - 1) + ((trimD b).length : Int)))), (98, pOwn b66 (0 + (k - 1 + (trimD b).length) * 1)), (99, tIs (.int .u32 ((((u.getD (k - 1 + (trimD b).length) 0) : Nat) : Int)))), (100, tIs (.int .u64 ((((u.getD (k - 1 + (trimD b).length) 0) : Nat) : Int)))), (101, tIs (.int .u64 (((u.getD (k - 1 + (trimD b).length) 0 : Nat) : Int) * 4294967296))), (102, sIs b66 0 ((dig (val a * 2 ^ s)).length + 1) (c66)), (103, tIs (.int .i64 (((k : Nat) : Int) - 1))), (104, tIs (.int .i64 (((trimD b).length : Int)))), (105, tIs (.int .i64 ((((k : Nat) : Int) - 1) + ((trimD b).length : Int)))), (106, tIs (.int .i64 (((((k : Nat) : Int) - 1) + ((trimD b).length : Int)) - 1))), (107, pOwn b66 (0 + (k - 1 + (trimD b).length - 1) * 1)), (108, tIs (.int .u32 ((((u.getD (k - 1 + (trimD b).length - 1) 0) : Nat) : Int)))), (109, tIs (.int .u64 ((((u.getD (k - 1 + (trimD b).length - 1) 0) : Nat) : Int)))), (110, tIs (.int .u64 (((u.getD (k - 1 + (trimD b).length) 0 * 4294967296 + u.getD (k - 1 + (trimD b).length - 1) 0 : Nat) : Int)))), (111, tIs (.int .u64 ((((v.getD ((trimD b).length - 1) 0) : Nat) : Int)))), (112, tTup [tIs (.int .u64 ((((u.getD (k - 1 + (trimD b).length) 0 * 4294967296 + u.getD (k - 1 + (trimD b).length - 1) 0) / (v.getD ((trimD b).length - 1) 0) : Nat) : Int))), tIs (.int .u64 ((((u.getD (k - 1 + (trimD b).length) 0 * 4294967296 + u.getD (k - 1 + (trimD b).length - 1) 0) % (v.getD ((trimD b).length - 1) 0) : Nat) : Int)))]), (113, tIs (.int .u64 ((((u.getD (k - 1 + (trimD b).length) 0 * 4294967296 + u.getD (k - 1 + (trimD b).length - 1) 0) / (v.getD ((trimD b).length - 1) 0) : Nat) : Int)))), (114, tIs (.int .u64 ((((u.getD (k - 1 + (trimD b).length) 0 * 4294967296 + u.getD (k - 1 + (trimD b).length - 1) 0) % (v.getD ((trimD b).length - 1) 0) : Nat) : Int)))), (141, tSl encD (v)), (142, tIs (.int .i64 (((v).length : Int)))), (143, tIs (.int .i64 (((i : Nat) : Int))))]) (fun i U c b1 => [⟨b71, 86, cRow encD (q) ((dig (val a * 2 ^ s)).length + 1 - v.length)⟩, ⟨b66, 86, cRow encD (U) (c66)⟩]) (fun i U c b1 => i ≤ v.length ∧ MInv u v g (k - 1) i U c b1) (fun i U c b1 => v.length - i) 0 u 0 0 ⟨by omega, MInv.start hI.du⟩ ?lsub2 ?round2
        case lsub2 => exact sub_trans (sub_heap (.keep (fun _ _ h => h) (.keep (fun _ _ h => h) .nil))) (sub_cons (.tmp rfl) (sub_cons (.tmp rfl) (sub_cons (.tmp rfl) (sub_cons (.tmp rfl) (sub_cons (.tmp rfl) (sub_cons (.tmp rfl) (sub_cons (.tmp rfl) (sub_cons (.tmp rfl) (sub_cons (.tmp rfl) (sub_cons (.tmp rfl) (sub_cons (.eq (.tmp rfl) (by first | rfl | (congr 3; omega) | (congr 2; omega))) (sub_cons (.eq (.tmp rfl) (by first | rfl | (congr 3; omega) | (congr 2; omega))) (sub_cons (.tmp rfl) (sub_cons (.tmp rfl) (sub_cons (.tmp rfl) (sub_cons (.tmp rfl) (sub_cons (.tmp rfl) (sub_cons (.tmp rfl) (sub_cons (.tmp rfl) (sub_cons (.tmp rfl) (sub_cons (.tmp rfl) (sub_cons (.tmp rfl) (sub_cons (.tmp rfl) (sub_cons (.tmp rfl) (sub_cons (.tmp rfl) (sub_cons (.tmp rfl) (sub_cons (.tmp rfl) (sub_cons (.tmp rfl) (sub_cons (.tmp rfl) (sub_cons (.tmp rfl) (sub_cons (.tmp rfl) (sub_cons (.tmp rfl) (sub_cons (.tmp rfl) (sub_cons (.tmp rfl) (sub_cons (.tmp rfl) (sub_cons (.tmp rfl) (sub_cons (.tmp rfl) (sub_cons (.tmp rfl) (sub_cons (.eq (.tmp rfl) (by first | rfl | (congr 3; omega) | (congr 2; omega))) (sub_nil))))))))))))))))))))))))))))))))))))))))
        intro i U c b1 hinv
        obtain ⟨hi, hM⟩ := hinv
        have hUl := hM.lU
        have hcc := hM.hc
        have hbb := hM.hb
        have hvi := digs_at hvd i
        have hUi := digs_at hM.dU (k - 1 + i)
        have hpl := hM.p_lt hg hvd
        refine JC.seq (JC.region ?_)
        refine J.o (ot_lss (.tmp rfl) (.tmp rfl)) rfl ?_
        refine J.nil (JQ.then_normal (JC.seq ?_))
        refine JC.cond (.tmp rfl) (fun hc5 => ?_) (fun hc5 => ?_)
        · try simp only [bsx] at hc5
          have hs144 := hc5
          refine JC.skip (JQ.then_normal (JC.seq (JC.block (JC.seq (JC.region ?_)))))
          refine J.m (.tmp rfl) rfl ?_
          refine J.o (ot_index (z := v.getD i 0) (.tmp rfl) (.tmp rfl) sl23 (by omega) (digAt (by omega) (by omega))) rfl ?_
          refine J.o (ot_load (.tmp rfl) sc86 encD_ld) rfl ?_
          refine J.a (.tmp rfl) rfl ?_
          refine J.a (.tmp rfl) rfl ?_
          refine J.nil (JQ.then_normal (JC.seq (JC.region ?_)))
          refine J.m (.tmp rfl) rfl ?_
          refine J.m (.tmp rfl) rfl ?_
          refine J.o (ot_conv (.tmp rfl) un80 (by kernel_rfl) (wu64 (by omega) (by omega))) rfl ?_
          refine J.o (ot_mul (.tmp rfl) (.tmp rfl) (w_mul64 hg hvi)) rfl ?_
          refine J.m (.tmp rfl) rfl ?_
          refine J.o (ot_add (.tmp rfl) (.tmp rfl) (w_add64 hpl.1)) rfl ?_
          refine J.a (.tmp rfl) rfl ?_
          refine J.nil (JQ.then_normal (JC.seq (JC.region ?_)))
          refine J.m (.tmp rfl) rfl ?_
          refine J.o (ot_shr (.tmp rfl) .is (by omega) w_shr32) rfl ?_
          refine J.a (.tmp rfl) rfl ?_
          refine J.nil (JQ.then_normal (JC.seq (JC.region ?_)))
          refine J.m (.tmp rfl) rfl ?_
          refine J.m (.tmp rfl) rfl ?_
          refine J.m (.tmp rfl) rfl ?_
          refine J.o (ot_add (.tmp rfl) (.tmp rfl) (w64 (by omega) (by omega))) rfl ?_
          refine J.o (ot_eqt (T' := pOwn b66 (0 + (k - 1 + i) * 1)) (ot_index_own (.tmp rfl) (.tmp rfl) sl23 (by omega) (by omega)) (own_off2 (by omega))) rfl ?_
          refine J.o (ot_load_own (.tmp rfl) (.tail _ (.head _)) sc86 (encD_row (digAtN (by omega)))) rfl ?_
          refine J.o (ot_conv (.tmp rfl) un80 (by kernel_rfl) (wu64 (by omega) (by omega))) rfl ?_
          refine J.m (.tmp rfl) rfl ?_
          refine J.o (ot_sub (.tmp rfl) (.tmp rfl) rfl) rfl ?_
          refine J.m (.tmp rfl) rfl ?_
          refine J.o (ot_and (.tmp rfl) .is (w_and32 hpl.1)) rfl ?_
          refine J.o (ot_sub (.tmp rfl) (.tmp rfl) (w_tN hUi (by omega))) rfl ?_
          refine J.a (.tmp rfl) rfl ?_
          refine J.nil (JQ.then_normal (JC.seq (JC.region ?_)))
          refine J.m (.tmp rfl) rfl ?_
          refine J.m (.tmp rfl) rfl ?_
          refine J.m (.tmp rfl) rfl ?_
          refine J.o (ot_add (.tmp rfl) (.tmp rfl) (w64 (by omega) (by omega))) rfl ?_
          refine J.m (.tmp rfl) rfl ?_
          refine J.o (ot_conv (.tmp rfl) un86 (by kernel_rfl) w_mod32) rfl ?_
          refine J.o (ot_eqt (T' := pOwn b66 (0 + (k - 1 + i) * 1)) (ot_index_own (.tmp rfl) (.tmp rfl) sl23 (by omega) (by omega)) (own_off2 (by omega))) rfl ?_
          refine J.store (.tmp rfl) (.sub (.tmp rfl) (encD_in (Int.natCast_nonneg _) (Int.ofNat_lt.2 (Nat.mod_lt _ (by decide))))) (.there .here) sz86 (row_set (by omega)) ?_
          refine J.nil (JQ.then_normal (JC.region ?_))
          refine J.m (.tmp rfl) rfl ?_
          refine J.o (ot_shr (.tmp rfl) .is (by omega) w_shr63) rfl ?_
          refine J.a (.tmp rfl) rfl ?_
          refine J.nil (JQ.block_normal (JQ.then_normal (JC.region ?_)))
          refine J.o (ot_add (.tmp rfl) .is (w64 (by omega) (by omega))) rfl ?_
          refine J.m (.tmp rfl) rfl ?_
          refine J.nil ?_
          exact JQ.round4 (i := i) (i2 := U) (i3 := c) (i4 := b1) (i + 1) (U.set (k - 1 + i) (tN (U.getD (k - 1 + i) 0) (b1 + (g * v.getD i 0 + c) % 4294967296) % 4294967296)) ((g * v.getD i 0 + c) / 4294967296) (tN (U.getD (k - 1 + i) 0) (b1 + (g * v.getD i 0 + c) % 4294967296) / 9223372036854775808) ⟨by omega, hM.next hg hvd (by omega) (by omega)⟩ (by omega) (sub_trans (sub_heap (.keep (fun _ _ h => h) (.keep (fun _ _ h => by first | exact h | simpa using h) .nil))) (sub_cons (.tmp rfl) (sub_cons (.tmp rfl) (sub_cons (.tmp rfl) (sub_cons (.tmp rfl) (sub_cons (.tmp rfl) (sub_cons (.tmp rfl) (sub_cons (.tmp rfl) (sub_cons (.tmp rfl) (sub_cons (.tmp rfl) (sub_cons (.tmp rfl) (sub_cons (.eq (.tmp rfl) (by first | rfl | (congr 3; omega) | (congr 2; omega))) (sub_cons (.eq (.tmp rfl) (by first | rfl | (congr 3; omega) | (congr 2; omega))) (sub_cons (.tmp rfl) (sub_cons (.tmp rfl) (sub_cons (.tmp rfl) (sub_cons (.tmp rfl) (sub_cons (.tmp rfl) (sub_cons (.tmp rfl) (sub_cons (.tmp rfl) (sub_cons (.tmp rfl) (sub_cons (.tmp rfl) (sub_cons (.tmp rfl) (sub_cons (.tmp rfl) (sub_cons (.tmp rfl) (sub_cons (.tmp rfl) (sub_cons (.tmp rfl) (sub_cons (.tmp rfl) (sub_cons (.tmp rfl) (sub_cons (.tmp rfl) (sub_cons (.tmp rfl) (sub_cons (.tmp rfl) (sub_cons (.tmp rfl) (sub_cons (.tmp rfl) (sub_cons (.tmp rfl) (sub_cons (.tmp rfl) (sub_cons (.tmp rfl) (sub_cons (.tmp rfl) (sub_cons (.tmp rfl) (sub_cons (.eq (.tmp rfl) (by first | rfl | (congr 3; omega) | (congr 2; omega))) (sub_nil)))))))))))))))))))))))))))))))))))))))))
        · try simp only [bsx] at hc5
          have hs144 := hc5
          have hin : i = v.length := by omega
          have hUt := digs_at hM.dU (k - 1 + (trimD b).length)
          have hM2 : MInv u v g (k - 1) v.length U c b1 := hin ▸ hM
          refine JC.exit (JQ.then_exit (JQ.then_exit (JQ.block_exit (JQ.then_normal (JC.seq (JC.region ?_))))))
          refine J.m (.tmp rfl) rfl ?_
          refine J.m (.tmp rfl) rfl ?_
          refine J.m (.tmp rfl) rfl ?_
          refine J.o (ot_add (.tmp rfl) (.tmp rfl) (w64 (by omega) (by omega))) rfl ?_
          refine J.o (ot_eqt (T' := pOwn b66 (0 + (k - 1 + (trimD b).length) * 1)) (ot_index_own (.tmp rfl) (.tmp rfl) sl23 (by omega) (by omega)) (own_off2 (by omega))) rfl ?_
          refine J.o (ot_load_own (.tmp rfl) (.tail _ (.head _)) sc86 (encD_row (digAtN (by omega)))) rfl ?_
          refine J.o (ot_conv (.tmp rfl) un80 (by kernel_rfl) (wu64 (by omega) (by omega))) rfl ?_
          refine J.m (.tmp rfl) rfl ?_
          refine J.o (ot_sub (.tmp rfl) (.tmp rfl) rfl) rfl ?_
          refine J.m (.tmp rfl) rfl ?_
          refine J.o (ot_sub (.tmp rfl) (.tmp rfl) (w_tN hUt (by omega))) rfl ?_
          refine J.a (.tmp rfl) rfl ?_
          refine J.nil (JQ.then_normal (JC.seq (JC.region ?_)))
          refine J.m (.tmp rfl) rfl ?_
          refine J.m (.tmp rfl) rfl ?_
          refine J.m (.tmp rfl) rfl ?_
          refine J.o (ot_add (.tmp rfl) (.tmp rfl) (w64 (by omega) (by omega))) rfl ?_
          refine J.m (.tmp rfl) rfl ?_
          refine J.o (ot_conv (.tmp rfl) un86 (by kernel_rfl) w_mod32) rfl ?_
          refine J.o (ot_eqt (T' := pOwn b66 (0 + (k - 1 + (trimD b).length) * 1)) (ot_index_own (.tmp rfl) (.tmp rfl) sl23 (by omega) (by omega)) (own_off2 (by omega))) rfl ?_
          refine J.store (.tmp rfl) (.sub (.tmp rfl) (encD_in (Int.natCast_nonneg _) (Int.ofNat_lt.2 (Nat.mod_lt _ (by decide))))) (.there .here) sz86 (row_set (by omega)) ?_
          refine J.nil (JQ.then_normal (JC.seq (JC.region ?_)))
          refine J.m (.tmp rfl) rfl ?_
          refine J.m (.tmp rfl) rfl ?_
          refine J.m (.tmp rfl) rfl ?_
          refine J.o (ot_conv (.tmp rfl) un86 (by kernel_rfl) (wu32 (by omega) (by omega))) rfl ?_
          refine J.o (ot_eqt (T' := pOwn b71 (0 + (k - 1) * 1)) (ot_index_own (.tmp rfl) (.tmp rfl) sl23 (by omega) (by omega)) (own_off2 (by omega))) rfl ?_
          refine J.store (.tmp rfl) (.sub (.tmp rfl) (encD_in (Int.natCast_nonneg _) (Int.ofNat_lt.2 hg))) .here sz86 (row_set (by omega)) ?_
          refine J.nil (JQ.then_normal (JC.seq (JC.seq (JC.region ?_))))
          refine J.m (.tmp rfl) rfl ?_
          refine J.o (ot_shr (.tmp rfl) .is (by omega) w_shr63) rfl ?_
          refine J.o (ot_eql (.tmp rfl) .is) rfl ?_
          refine J.nil (JQ.then_normal ?_)
          refine JC.cond (.tmp rfl) (fun hc6 => ?_) (fun hc6 => ?_)
          · try simp only [bsx] at hc6
            have hs203 := hc6
            have hz : tN (U.getD (k - 1 + (trimD b).length) 0) (b1 + c) / 9223372036854775808 = 0 := by omega
            have hfin := hI1.yes hvl hvp hgo hM2 hz
            refine JC.exit (JQ.then_exit (JQ.block_exit (JQ.then_normal (JC.region ?_))))
            refine J.m (.tmp rfl) rfl ?_
            refine J.o (ot_sub (.tmp rfl) .is (w64 (by omega) (by omega))) rfl ?_
            refine J.a (.tmp rfl) rfl ?_
            refine J.nil ?_
            exact JQ.round3 (i := k) (i2 := u) (i3 := q) (k - 1) (U.set (k - 1 + (trimD b).length) (tN (U.getD (k - 1 + (trimD b).length) 0) (b1 + c) % 4294967296)) (q.set (k - 1) g) hfin (by omega) (sub_trans (sub_heap (.keep (fun _ _ h => by first | exact h | simpa using h) (.keep (fun _ _ h => by first | exact h | simpa using h) .nil))) (sub_cons (.tmp rfl) (sub_cons (.tmp rfl) (sub_cons (.tmp rfl) (sub_cons (.tmp rfl) (sub_cons (.tmp rfl) (sub_cons (.tmp rfl) (sub_cons (.tmp rfl) (sub_cons (.tmp rfl) (sub_cons (.eq (.tmp rfl) (by first | rfl | (congr 3; omega) | (congr 2; omega))) (sub_nil)))))))))))
          · try simp only [bsx] at hc6
            have hs203 := hc6
            have hz : ¬ tN (U.getD (k - 1 + (trimD b).length) 0) (b1 + c) / 9223372036854775808 = 0 := by omega
            have hgp := K_gpos hI1 hvl hvd hvp hgo hM2 hz
            refine JC.skip (JQ.then_normal (JC.seq (JC.region ?_)))
            refine J.m (.tmp rfl) rfl ?_
            refine J.m (.tmp rfl) rfl ?_
            refine J.o (ot_eqt (T' := pOwn b71 (0 + (k - 1) * 1)) (ot_index_own (.tmp rfl) (.tmp rfl) sl23 (by omega) (by omega)) (own_off2 (by omega))) rfl ?_
            refine J.o (ot_load_own (.tmp rfl) (.head _) sc86 (encD_row (set_at (by omega)))) rfl ?_
            refine J.o (ot_sub (.tmp rfl) .is (w_sub1' hgp hg)) rfl ?_
            refine J.o (ot_eqt (T' := pOwn b71 (0 + (k - 1) * 1)) (ot_index_own (.tmp rfl) (.tmp rfl) sl23 (by omega) (by omega)) (own_off2 (by omega))) rfl ?_
            refine J.store (.tmp rfl) (.sub (.tmp rfl) (encD_in (Int.natCast_nonneg _) (Int.ofNat_lt.2 (Nat.lt_of_le_of_lt (Nat.sub_le _ _) hg)))) .here sz86 (row_set (by simp; omega)) ?_
            refine J.nil (JQ.then_normal (JC.seq (JC.region ?_)))
            refine J.a .is rfl ?_
            refine J.nil (JQ.then_normal (JC.seq (JC.seq (JC.region ?_))))
            refine J.m (.tmp rfl) rfl ?_
            refine J.o (ot_len (.tmp rfl) sl23 rfl) rfl ?_
            refine J.m .is rfl ?_
            refine J.nil (JQ.then_normal (JC.block ?_))
            refine JC.loop3 (α := Nat) (β := List Nat) (γ := Nat) (fun i6 U6 s6 => [(4, sIs b71 0 ((dig (val a * 2 ^ s)).length + 1 - v.length) ((dig (val a * 2 ^ s)).length + 1 - v.length)), (5, tSl encD ([])), (6, tIs (.int .i64 (((trimD b).length : Int)))), (10, tIs (.int .i64 (((s : Nat) : Int)))), (11, tSl encD (v)), (12, sIs b66 0 ((dig (val a * 2 ^ s)).length + 1) (c66)), (13, tIs (.int .u64 ((((v.getD ((trimD b).length - 1) 0) : Nat) : Int)))), (14, tIs (.int .u64 ((((v.getD ((trimD b).length - 2) 0) : Nat) : Int)))), (15, tIs (.int .i64 (((k : Nat) : Int) - 1))), (16, tIs (.int .u64 (((g : Nat) : Int)))), (18, tIs (.int .u64 (((c : Nat) : Int)))), (19, tIs (.int .u64 (((b1 : Nat) : Int)))), (24, tIs (.int .u64 (((tN (U.getD (k - 1 + (trimD b).length) 0) (b1 + c) : Nat) : Int)))), (25, tIs (.int .u32 (((s6 : Nat) : Int)))), (89, tIs (.int .i64 (((k : Nat) : Int) - 1))), (90, tIs (.bool (decide (0 ≤ (((k : Nat) : Int) - 1))))), (93, tTup [tIs (.int .u64 ((((u.getD (k - 1 + (trimD b).length) 0 * 4294967296 + u.getD (k - 1 + (trimD b).length - 1) 0) / (v.getD ((trimD b).length - 1) 0) : Nat) : Int))), tIs (.int .u64 ((((u.getD (k - 1 + (trimD b).length) 0 * 4294967296 + u.getD (k - 1 + (trimD b).length - 1) 0) % (v.getD ((trimD b).length - 1) 0) : Nat) : Int)))]), (94, sIs b66 0 ((dig (val a * 2 ^ s)).length + 1) (c66)), (95, tIs (.int .i64 (((k : Nat) : Int) - 1))), (96, tIs (.int .i64 (((trimD b).length : Int)))), (97, tIs (.int .i64 ((((k : Nat) : Int) - 1) + ((trimD b).length : Int)))), (98, pOwn b66 (0 + (k - 1 + (trimD b).length) * 1)), (99, tIs (.int .u32 ((((u.getD (k - 1 + (trimD b).length) 0) : Nat) : Int)))), (100, tIs (.int .u64 ((((u.getD (k - 1 + (trimD b).length) 0) : Nat) : Int)))), (101, tIs (.int .u64 (((u.getD (k - 1 + (trimD b).length) 0 : Nat) : Int) * 4294967296))), (102, sIs b66 0 ((dig (val a * 2 ^ s)).length + 1) (c66)), (103, tIs (.int .i64 (((k : Nat) : Int) - 1))), (104, tIs (.int .i64 (((trimD b).length : Int)))), (105, tIs (.int .i64 ((((k : Nat) : Int) - 1) + ((trimD b).length : Int)))), (106, tIs (.int .i64 (((((k : Nat) : Int) - 1) + ((trimD b).length : Int)) - 1))), (107, pOwn b66 (0 + (k - 1 + (trimD b).length - 1) * 1)), (108, tIs (.int .u32 ((((u.getD (k - 1 + (trimD b).length - 1) 0) : Nat) : Int)))), (109, tIs (.int .u64 ((((u.getD (k - 1 + (trimD b).length - 1) 0) : Nat) : Int)))), (110, tIs (.int .u64 (((u.getD (k - 1 + (trimD b).length) 0 * 4294967296 + u.getD (k - 1 + (trimD b).length - 1) 0 : Nat) : Int)))), (111, tIs (.int .u64 ((((v.getD ((trimD b).length - 1) 0) : Nat) : Int)))), (112, tTup [tIs (.int .u64 ((((u.getD (k - 1 + (trimD b).length) 0 * 4294967296 + u.getD (k - 1 + (trimD b).length - 1) 0) / (v.getD ((trimD b).length - 1) 0) : Nat) : Int))), tIs (.int .u64 ((((u.getD (k - 1 + (trimD b).length) 0 * 4294967296 + u.getD (k - 1 + (trimD b).length - 1) 0) % (v.getD ((trimD b).length - 1) 0) : Nat) : Int)))]), (113, tIs (.int .u64 ((((u.getD (k - 1 + (trimD b).length) 0 * 4294967296 + u.getD (k - 1 + (trimD b).length - 1) 0) / (v.getD ((trimD b).length - 1) 0) : Nat) : Int)))), (114, tIs (.int .u64 ((((u.getD (k - 1 + (trimD b).length) 0 * 4294967296 + u.getD (k - 1 + (trimD b).length - 1) 0) % (v.getD ((trimD b).length - 1) 0) : Nat) : Int)))), (141, tSl encD (v)), (142, tIs (.int .i64 (((v).length : Int)))), (143, tIs (.int .i64 (((i : Nat) : Int)))), (144, tIs (.bool (decide (((i : Nat) : Int) < ((v).length : Int))))), (178, sIs b66 0 ((dig (val a * 2 ^ s)).length + 1) (c66)), (179, tIs (.int .i64 (((k : Nat) : Int) - 1))), (180, tIs (.int .i64 (((trimD b).length : Int)))), (181, tIs (.int .i64 ((((k : Nat) : Int) - 1) + ((trimD b).length : Int)))), (182, pOwn b66 (0 + (k - 1 + (trimD b).length) * 1)), (183, tIs (.int .u32 ((((U.getD (k - 1 + (trimD b).length) 0) : Nat) : Int)))), (184, tIs (.int .u64 ((((U.getD (k - 1 + (trimD b).length) 0) : Nat) : Int)))), (185, tIs (.int .u64 (((b1 : Nat) : Int)))), (186, tIs (.int .u64 (IntKind.u64.wrap (((U.getD (k - 1 + (trimD b).length) 0 : Nat) : Int) - ((b1 : Nat) : Int))))), (187, tIs (.int .u64 (((c : Nat) : Int)))), (188, tIs (.int .u64 (((tN (U.getD (k - 1 + (trimD b).length) 0) (b1 + c) : Nat) : Int)))), (189, sIs b66 0 ((dig (val a * 2 ^ s)).length + 1) (c66)), (190, tIs (.int .i64 (((k : Nat) : Int) - 1))), (191, tIs (.int .i64 (((trimD b).length : Int)))), (192, tIs (.int .i64 ((((k : Nat) : Int) - 1) + ((trimD b).length : Int)))), (193, tIs (.int .u64 (((tN (U.getD (k - 1 + (trimD b).length) 0) (b1 + c) : Nat) : Int)))), (194, tIs (.int .u32 (((tN (U.getD (k - 1 + (trimD b).length) 0) (b1 + c) % 4294967296 : Nat) : Int)))), (195, pOwn b66 (0 + (k - 1 + (trimD b).length) * 1)), (196, sIs b71 0 ((dig (val a * 2 ^ s)).length + 1 - v.length) ((dig (val a * 2 ^ s)).length + 1 - v.length)), (197, tIs (.int .i64 (((k : Nat) : Int) - 1))), (198, tIs (.int .u64 (((g : Nat) : Int)))), (199, tIs (.int .u32 (((g : Nat) : Int)))), (200, pOwn b71 (0 + (k - 1) * 1)), (201, tIs (.int .u64 (((tN (U.getD (k - 1 + (trimD b).length) 0) (b1 + c) : Nat) : Int)))), (202, tIs (.int .u64 (((tN (U.getD (k - 1 + (trimD b).length) 0) (b1 + c) / 9223372036854775808 : Nat) : Int)))), (203, tIs (.bool (decide (((tN (U.getD (k - 1 + (trimD b).length) 0) (b1 + c) / 9223372036854775808 : Nat) : Int) = 0)))), (204, sIs b71 0 ((dig (val a * 2 ^ s)).length + 1 - v.length) ((dig (val a * 2 ^ s)).length + 1 - v.length)), (205, tIs (.int .i64 (((k : Nat) : Int) - 1))), (206, pOwn b71 (0 + (k - 1) * 1)), (207, tIs (.int .u32 ((((g) : Nat) : Int)))), (208, tIs (.int .u32 (((g - 1 : Nat) : Int)))), (209, pOwn b71 (0 + (k - 1) * 1)), (210, tSl encD (v)), (211, tIs (.int .i64 (((v).length : Int)))), (212, tIs (.int .i64 (((i6 : Nat) : Int))))]) (fun i6 U6 s6 => [⟨b71, 86, cRow encD (((q).set (k - 1) (g)).set (k - 1) ((((g - 1 : Nat) : Int)).toNat)) ((dig (val a * 2 ^ s)).length + 1 - v.length)⟩, ⟨b66, 86, cRow encD (U6) (c66)⟩]) (fun i6 U6 s6 => i6 ≤ v.length ∧ AInv (U.set (k - 1 + (trimD b).length) (tN (U.getD (k - 1 + (trimD b).length) 0) (b1 + c) % 4294967296)) v (k - 1) i6 U6 s6) (fun i6 U6 s6 => v.length - i6) 0 (U.set (k - 1 + (trimD b).length) (tN (U.getD (k - 1 + (trimD b).length) 0) (b1 + c) % 4294967296)) 0 ⟨by omega, AInv.start (digs_set hM.dU (Nat.mod_lt _ (by decide)))⟩ ?lsub3 ?round3
            case lsub3 => exact sub_trans (sub_heap (.keep (fun _ _ h => h) (.keep (fun _ _ h => by first | exact h | simpa using h) .nil))) (sub_cons (.tmp rfl) (sub_cons (.tmp rfl) (sub_cons (.tmp rfl) (sub_cons (.tmp rfl) (sub_cons (.tmp rfl) (sub_cons (.tmp rfl) (sub_cons (.tmp rfl) (sub_cons (.tmp rfl) (sub_cons (.tmp rfl) (sub_cons (.tmp rfl) (sub_cons (.tmp rfl) (sub_cons (.tmp rfl) (sub_cons (.tmp rfl) (sub_cons (.eq (.tmp rfl) (by first | rfl | (congr 3; omega) | (congr 2; omega))) (sub_cons (.tmp rfl) (sub_cons (.tmp rfl) (sub_cons (.tmp rfl) (sub_cons (.tmp rfl) (sub_cons (.tmp rfl) (sub_cons (.tmp rfl) (sub_cons (.tmp rfl) (sub_cons (.tmp rfl) (sub_cons (.tmp rfl) (sub_cons (.tmp rfl) (sub_cons (.tmp rfl) (sub_cons (.tmp rfl) (sub_cons (.tmp rfl) (sub_cons (.tmp rfl) (sub_cons (.tmp rfl) (sub_cons (.tmp rfl) (sub_cons (.tmp rfl) (sub_cons (.tmp rfl) (sub_cons (.tmp rfl) (sub_cons (.tmp rfl) (sub_cons (.tmp rfl) (sub_cons (.tmp rfl) (sub_cons (.tmp rfl) (sub_cons (.tmp rfl) (sub_cons (.tmp rfl) (sub_cons (.tmp rfl) (sub_cons (.tmp rfl) (sub_cons (.tmp rfl) (sub_cons (.tmp rfl) (sub_cons (.tmp rfl) (sub_cons (.tmp rfl) (sub_cons (.tmp rfl) (sub_cons (.tmp rfl) (sub_cons (.tmp rfl) (sub_cons (.tmp rfl) (sub_cons (.tmp rfl) (sub_cons (.tmp rfl) (sub_cons (.tmp rfl) (sub_cons (.tmp rfl) (sub_cons (.tmp rfl) (sub_cons (.tmp rfl) (sub_cons (.tmp rfl) (sub_cons (.tmp rfl) (sub_cons (.tmp rfl) (sub_cons (.tmp rfl) (sub_cons (.tmp rfl) (sub_cons (.tmp rfl) (sub_cons (.tmp rfl) (sub_cons (.tmp rfl) (sub_cons (.tmp rfl) (sub_cons (.tmp rfl) (sub_cons (.tmp rfl) (sub_cons (.tmp rfl) (sub_cons (.tmp rfl) (sub_cons (.tmp rfl) (sub_cons (.tmp rfl) (sub_cons (.tmp rfl) (sub_cons (.tmp rfl) (sub_cons (.tmp rfl) (sub_cons (.tmp rfl) (sub_cons (.tmp rfl) (sub_cons (.tmp rfl) (sub_cons (.eq (.tmp rfl) (by first | rfl | (congr 3; omega) | (congr 2; omega))) (sub_nil))))))))))))))))))))))))))))))))))))))))))))))))))))))))))))))))))))))))))))))
            intro i6 U6 s6 hinv
            obtain ⟨hi6, hA⟩ := hinv
            have hU6l := hA.lU
            rw [List.length_set] at hU6l
            have hs6 := hA.hs
            have hv6 := digs_at hvd i6
            have hU6 := digs_at hA.dU (k - 1 + i6)
            refine JC.seq (JC.region ?_)
            refine J.o (ot_lss (.tmp rfl) (.tmp rfl)) rfl ?_
            refine J.nil (JQ.then_normal (JC.seq ?_))
            refine JC.cond (.tmp rfl) (fun hc7 => ?_) (fun hc7 => ?_)
            · try simp only [bsx] at hc7
              have hs213 := hc7
              refine JC.skip (JQ.then_normal (JC.seq (JC.block (JC.seq (JC.region ?_)))))
              refine J.m (.tmp rfl) rfl ?_
              refine J.o (ot_index (z := v.getD i6 0) (.tmp rfl) (.tmp rfl) sl23 (by omega) (digAt (by omega) (by omega))) rfl ?_
              refine J.o (ot_load (.tmp rfl) sc86 encD_ld) rfl ?_
              refine J.a (.tmp rfl) rfl ?_
              refine J.a (.tmp rfl) rfl ?_
              refine J.nil (JQ.then_normal (JC.region ?_))
              refine J.m (.tmp rfl) rfl ?_
              refine J.m (.tmp rfl) rfl ?_
              refine J.m (.tmp rfl) rfl ?_
              refine J.o (ot_add (.tmp rfl) (.tmp rfl) (w64 (by omega) (by omega))) rfl ?_
              refine J.m (.tmp rfl) rfl ?_
              refine J.m (.tmp rfl) rfl ?_
              refine J.m (.tmp rfl) rfl ?_
              refine J.o (ot_add (.tmp rfl) (.tmp rfl) (w64 (by omega) (by omega))) rfl ?_
              refine J.o (ot_eqt (T' := pOwn b66 (0 + (k - 1 + i6) * 1)) (ot_index_own (.tmp rfl) (.tmp rfl) sl23 (by omega) (by omega)) (own_off2 (by omega))) rfl ?_
              refine J.o (ot_load_own (.tmp rfl) (.tail _ (.head _)) sc86 (encD_row (digAtN (by omega)))) rfl ?_
              refine J.m (.tmp rfl) rfl ?_
              refine J.m (.tmp rfl) rfl ?_
              refine J.o (ot_eqt (T' := tTup [tIs (.int .u32 ((((U6.getD (k - 1 + i6) 0 + v.getD i6 0 + s6) % 4294967296 : Nat) : Int))), tIs (.int .u32 ((((U6.getD (k - 1 + i6) 0 + v.getD i6 0 + s6) / 4294967296 : Nat) : Int)))]) (ot_call fn76 (add32_c (((U6.getD (k - 1 + i6) 0) : Nat) : Int) (((v.getD i6 0) : Nat) : Int) ((s6 : Nat) : Int) (by omega) (by omega) (by omega)) (.cons (.tmp rfl) (.cons (.tmp rfl) (.cons (.tmp rfl) .nil)))) (by congr 4 <;> omega)) rfl ?_
              refine J.m (.tmp rfl) rfl ?_
              refine J.o (ot_extract (.tmp rfl) rfl) rfl ?_
              refine J.o (ot_extract (.tmp rfl) rfl) rfl ?_
              refine J.o (ot_eqt (T' := pOwn b66 (0 + (k - 1 + i6) * 1)) (ot_index_own (.tmp rfl) (.tmp rfl) sl23 (by omega) (by omega)) (own_off2 (by omega))) rfl ?_
              refine J.store (.tmp rfl) (.sub (.tmp rfl) (encD_in (Int.natCast_nonneg _) (Int.ofNat_lt.2 (Nat.mod_lt _ (by decide))))) (.there .here) sz86 (row_set (by omega)) ?_
              refine J.a (.tmp rfl) rfl ?_
              refine J.nil (JQ.block_normal (JQ.then_normal (JC.region ?_)))
              refine J.o (ot_add (.tmp rfl) .is (w64 (by omega) (by omega))) rfl ?_
              refine J.m (.tmp rfl) rfl ?_
              refine J.nil ?_
              exact JQ.round3 (i := i6) (i2 := U6) (i3 := s6) (i6 + 1) (U6.set (k - 1 + i6) ((U6.getD (k - 1 + i6) 0 + v.getD i6 0 + s6) % 4294967296)) ((U6.getD (k - 1 + i6) 0 + v.getD i6 0 + s6) / 4294967296) ⟨by omega, hA.next hvd (by omega) (by simp; omega)⟩ (by omega) (sub_trans (sub_heap (.keep (fun _ _ h => h) (.keep (fun _ _ h => by first | exact h | simpa using h) .nil))) (sub_cons (.tmp rfl) (sub_cons (.tmp rfl) (sub_cons (.tmp rfl) (sub_cons (.tmp rfl) (sub_cons (.tmp rfl) (sub_cons (.tmp rfl) (sub_cons (.tmp rfl) (sub_cons (.tmp rfl) (sub_cons (.tmp rfl) (sub_cons (.tmp rfl) (sub_cons (.tmp rfl) (sub_cons (.tmp rfl) (sub_cons (.tmp rfl) (sub_cons (.eq (.tmp rfl) (by first | rfl | (congr 3; omega) | (congr 2; omega))) (sub_cons (.tmp rfl) (sub_cons (.tmp rfl) (sub_cons (.tmp rfl) (sub_cons (.tmp rfl) (sub_cons (.tmp rfl) (sub_cons (.tmp rfl) (sub_cons (.tmp rfl) (sub_cons (.tmp rfl) (sub_cons (.tmp rfl) (sub_cons (.tmp rfl) (sub_cons (.tmp rfl) (sub_cons (.tmp rfl) (sub_cons (.tmp rfl) (sub_cons (.tmp rfl) (sub_cons (.tmp rfl) (sub_cons (.tmp rfl) (sub_cons (.tmp rfl) (sub_cons (.tmp rfl) (sub_cons (.tmp rfl) (sub_cons (.tmp rfl) (sub_cons (.tmp rfl) (sub_cons (.tmp rfl) (sub_cons (.tmp rfl) (sub_cons (.tmp rfl) (sub_cons (.tmp rfl) (sub_cons (.tmp rfl) (sub_cons (.tmp rfl) (sub_cons (.tmp rfl) (sub_cons (.tmp rfl) (sub_cons (.tmp rfl) (sub_cons (.tmp rfl) (sub_cons (.tmp rfl) (sub_cons (.tmp rfl) (sub_cons (.tmp rfl) (sub_cons (.tmp rfl) (sub_cons (.tmp rfl) (sub_cons (.tmp rfl) (sub_cons (.tmp rfl) (sub_cons (.tmp rfl) (sub_cons (.tmp rfl) (sub_cons (.tmp rfl) (sub_cons (.tmp rfl) (sub_cons (.tmp rfl) (sub_cons (.tmp rfl) (sub_cons (.tmp rfl) (sub_cons (.tmp rfl) (sub_cons (.tmp rfl) (sub_cons (.tmp rfl) (sub_cons (.tmp rfl) (sub_cons (.tmp rfl) (sub_cons (.tmp rfl) (sub_cons (.tmp rfl) (sub_cons (.tmp rfl) (sub_cons (.tmp rfl) (sub_cons (.tmp rfl) (sub_cons (.tmp rfl) (sub_cons (.tmp rfl) (sub_cons (.tmp rfl) (sub_cons (.tmp rfl) (sub_cons (.tmp rfl) (sub_cons (.tmp rfl) (sub_cons (.tmp rfl) (sub_cons (.eq (.tmp rfl) (by first | rfl | (congr 3; omega) | (congr 2; omega))) (sub_nil)))))))))))))))))))))))))))))))))))))))))))))))))))))))))))))))))))))))))))))))
            · try simp only [bsx] at hc7
              have hs213 := hc7
              have hA2 : AInv (U.set (k - 1 + (trimD b).length) (tN (U.getD (k - 1 + (trimD b).length) 0) (b1 + c) % 4294967296)) v (k - 1) v.length U6 s6 := (show i6 = v.length by omega) ▸ hA
              have hfin := hI1.no hvl hvd hvp hgo hM2 hz hA2
              refine JC.exit (JQ.then_exit (JQ.then_exit (JQ.block_exit (JQ.then_normal (JC.region ?_)))))
              refine J.m (.tmp rfl) rfl ?_
              refine J.m (.tmp rfl) rfl ?_
              refine J.m (.tmp rfl) rfl ?_
              refine J.o (ot_add (.tmp rfl) (.tmp rfl) (w64 (by omega) (by omega))) rfl ?_
              refine J.o (ot_eqt (T' := pOwn b66 (0 + (k - 1 + (trimD b).length) * 1)) (ot_index_own (.tmp rfl) (.tmp rfl) sl23 (by omega) (by omega)) (own_off2 (by omega))) rfl ?_
              refine J.o (ot_load_own (.tmp rfl) (.tail _ (.head _)) sc86 (encD_row (digAtN (by omega)))) rfl ?_
              refine J.m (.tmp rfl) rfl ?_
              refine J.o (ot_add (.tmp rfl) (.tmp rfl) w_addmod) rfl ?_
              refine J.o (ot_eqt (T' := pOwn b66 (0 + (k - 1 + (trimD b).length) * 1)) (ot_index_own (.tmp rfl) (.tmp rfl) sl23 (by omega) (by omega)) (own_off2 (by omega))) rfl ?_
              refine J.store (.tmp rfl) (.sub (.tmp rfl) (encD_in (Int.natCast_nonneg _) (Int.ofNat_lt.2 (Nat.mod_lt _ (by decide))))) (.there .here) sz86 (row_set (by omega)) ?_
              refine J.nil (JQ.block_normal (JQ.then_normal (JC.region ?_)))
              refine J.m (.tmp rfl) rfl ?_
              refine J.o (ot_sub (.tmp rfl) .is (w64 (by omega) (by omega))) rfl ?_
              refine J.a (.tmp rfl) rfl ?_
              refine J.nil ?_
              exact JQ.round3 (i := k) (i2 := u) (i3 := q) (k - 1) (U6.set (k - 1 + (trimD b).length) ((U6.getD (k - 1 + (trimD b).length) 0 + s6) % 4294967296)) ((q.set (k - 1) g).set (k - 1) (g - 1)) hfin (by omega) (sub_trans (sub_heap (.keep (fun _ _ h => by first | exact h | simpa using h) (.keep (fun _ _ h => by first | exact h | simpa using h) .nil))) (sub_cons (.tmp rfl) (sub_cons (.tmp rfl) (sub_cons (.tmp rfl) (sub_cons (.tmp rfl) (sub_cons (.tmp rfl) (sub_cons (.tmp rfl) (sub_cons (.tmp rfl) (sub_cons (.tmp rfl) (sub_cons (.eq (.tmp rfl) (by first | rfl | (congr 3; omega) | (congr 2; omega))) (sub_nil)))))))))))
      · try simp only [bsx] at hc2
        have hs90 := hc2
        have hk0 : k = 0 := by omega
        have hdn := (hk0 ▸ hI).done hvl hvd
        refine JC.exit (JQ.then_exit (JQ.then_exit (JQ.block_exit (JQ.then_normal (JC.seq ?_)))))
        refine JC.weak (sub_freeze0 (E := encD) (xs := u) (n := (dig (val a * 2 ^ s)).length + 1) (c := c66) [12] ⟨rfl, trivial⟩ (.there .here) (by omega) (by omega)) ?_
        refine JC.weak (sub_freeze0 (E := encD) (xs := q) (n := (dig (val a * 2 ^ s)).length + 1 - v.length) (c := (dig (val a * 2 ^ s)).length + 1 - v.length) [4] ⟨rfl, trivial⟩ .here (by omega) (by omega)) ?_
        refine JC.draw (Γ' := ?g3) mo (by kernel_rfl) ?tw3 ?k3
        case tw3 =>
          refine TW.m (.tmp rfl) rfl ?_
          refine TW.o (ot_call fn74 (natNormal_c q (by omega)) (.cons (.tmp rfl) .nil)) rfl ?_
          refine TW.m (.tmp rfl) rfl ?_
          refine TW.m (.tmp rfl) rfl ?_
          refine TW.o (ot_eqt (T' := tSl encD (u.take (trimD b).length)) (ot_slice (E := encD) (xs := u) (l := 0) (h := (trimD b).length) (kl := .i64) (kh := .i64) (.tmp rfl) sl23 rfl (.eq (.tmp rfl) rfl) (by omega) (by omega)) (by rw [List.drop_zero, Nat.sub_zero])) rfl ?_
          refine TW.m (.tmp rfl) rfl ?_
          refine TW.o (ot_eqt (T' := tSl encD (dig (val a % val b))) (ot_call fn88 (shr_c (u.take (trimD b).length) s (by simp; omega) hs32) (.cons (.tmp rfl) (.cons (.tmp rfl) .nil))) (by rw [hdn.2.2, hdn.2.1, hvv, (div_scale hps).2])) rfl ?_
          refine TW.o (ot_assign (.tmp rfl)) rfl ?_
          refine TW.o (ot_assign (.tmp rfl)) rfl ?_
          exact TW.nil
        refine JQ.then_normal (JC.ret ?_)
        refine JQ.scope_ret ?_
        exact JQ.ret2 rfl (.tmp (.eq (.tmp rfl) (by rw [trimD_eq hI.dq, hdn.1, hvv, (div_scale hps).1]))) (.tmp (.tmp rfl))

theorem quoG_c (x : Z) (y : Z) (hlx : x.abs.length ≤ 1000000000000) (hly : y.abs.length ≤ 1000000000000) (hb : 0 < val y.abs) : Ctr Try.prog 71 [tV encI (x), tV encI (y)] (tTup [tV encI (ofI ((zval x).tdiv (zval y))), tV encI (ofI ((zval x).tmod (zval y))), tIs (.int .i64 (0))]) := by
  refine Ctr.know 0 rfl (fun _ _ h => slP_encI h) fun hdx => ?_
  have hq := quo_fit (b := val y.abs) hdx
  refine Ctr.of Try.func71 rfl Try.ntmps71 (Nat.le_of_ble_eq_true rfl) fun w0 M0 => ?_
  refine JC.seq (JC.region ?_)
  refine J.boxF (Ts := [tIs (.bool (x.neg)), tSl encD (x.abs)]) (.tmp rfl) rfl (ltN rfl) fun b2 => ?_
  refine J.boxF (Ts := [tIs (.bool (y.neg)), tSl encD (y.abs)]) (.tmp rfl) rfl (ltN rfl) fun b3 => ?_
  refine J.alloc (R := cTs [tIs (.bool (false)), tSl encD ([])]) zr25 (fun _ => ⟨rfl, rfl, slP_nil _ _, rfl, trivial⟩) (ltN rfl) fun b4 => ?_
  refine J.alloc (R := cTs [tIs (.bool (false)), tSl encD ([])]) zr25 (fun _ => ⟨rfl, rfl, slP_nil _ _, rfl, trivial⟩) (ltN rfl) fun b5 => ?_
  refine J.a .is rfl ?_
  refine J.nil (JQ.then_normal (JC.seq (JC.seq (JC.region ?_))))
  refine J.o (ot_load_own_agg (.tmp rfl) (.tail _ (.tail _ (.head _))) ag25 (cTs_ldV (g := zT) (y := y) rfl rfl)) rfl ?_
  refine J.o (ot_call fn72 (dzero_c y (by omega)) (.cons (.tmp rfl) .nil)) rfl ?_
  refine J.nil (JQ.then_normal ?_)
  refine JC.cond_false (.eq (.tmp rfl) (by rw [decide_eq_false (by rw [← zval_zero']; omega)])) ?_
  refine JC.skip (JQ.then_normal (JC.seq (JC.region ?_)))
  refine J.o (ot_fieldAddr_own (.tmp rfl) fd25_1) rfl ?_
  refine J.o (ot_load_own (.tmp rfl) (.tail _ (.tail _ (.tail _ (.head _)))) sc23 (cTs_ld rfl)) rfl ?_
  refine J.o (ot_fieldAddr_own (.tmp rfl) fd25_1) rfl ?_
  refine J.o (ot_load_own (.tmp rfl) (.tail _ (.tail _ (.head _))) sc23 (cTs_ld rfl)) rfl ?_
  refine J.o (ot_call fn81 (longG_c x.abs y.abs (by omega) (by omega) (by assumption)) (.cons (.tmp rfl) (.cons (.tmp rfl) .nil))) rfl ?_
  refine J.m (.tmp rfl) rfl ?_
  refine J.o (ot_extract (.tmp rfl) rfl) rfl ?_
  refine J.o (ot_extract (.tmp rfl) rfl) rfl ?_
  refine J.a (.tmp rfl) rfl ?_
  refine J.a (.tmp rfl) rfl ?_
  refine J.nil (JQ.then_normal (JC.seq ?_))
  refine JC.drawAt (Γ' := ?g1) 11 mo (by kernel_rfl) ?tw1 ?k1
  case tw1 =>
    refine TW.o (ot_fieldAddr_own (.tmp rfl) fd25_0) rfl ?_
    refine TW.o (ot_load_own (.tmp rfl) (.tail _ (.tail _ (.tail _ (.head _)))) sc4 (cTs_ld rfl)) rfl ?_
    refine TW.o (ot_fieldAddr_own (.tmp rfl) fd25_0) rfl ?_
    refine TW.o (ot_load_own (.tmp rfl) (.tail _ (.tail _ (.head _))) sc4 (cTs_ld rfl)) rfl ?_
    refine TW.o (ot_neqb (.tmp rfl) (.tmp rfl) un4) rfl ?_
    refine TW.m (.tmp rfl) rfl ?_
    refine TW.o (ot_call fn62 (intFrom_c (!(x.neg == y.neg)) (dig (val x.abs / val y.abs)) (by omega)) (.cons (.tmp rfl) (.cons (.tmp rfl) .nil))) rfl ?_
    refine TW.o (ot_fieldAddr_own (.tmp rfl) fd25_0) rfl ?_
    refine TW.o (ot_load_own (.tmp rfl) (.tail _ (.tail _ (.tail _ (.head _)))) sc4 (cTs_ld rfl)) rfl ?_
    refine TW.m (.tmp rfl) rfl ?_
    refine TW.o (ot_call fn62 (intFrom_c x.neg (dig (val x.abs % val y.abs)) (by omega)) (.cons (.tmp rfl) (.cons (.tmp rfl) .nil))) rfl ?_
    exact TW.nil
  refine J.store (.tmp rfl) (.eq (.tmp rfl) (tV_F (Ts := [tIs (.bool ((ofI (zval (Z.mk ((!(x.neg == y.neg))) ((dig (val x.abs / val y.abs)))))).neg)), tSl encD ((ofI (zval (Z.mk ((!(x.neg == y.neg))) ((dig (val x.abs / val y.abs)))))).abs)]) rfl)) (.there .here) sz25 (st_agg (Ts' := [tIs (.bool ((ofI (zval (Z.mk ((!(x.neg == y.neg))) ((dig (val x.abs / val y.abs)))))).neg)), tSl encD ((ofI (zval (Z.mk ((!(x.neg == y.neg))) ((dig (val x.abs / val y.abs)))))).abs)]) (o := 0) rfl) ?_
  refine J.store (.tmp rfl) (.eq (.tmp rfl) (tV_F (Ts := [tIs (.bool ((ofI (zval (Z.mk (x.neg) ((dig (val x.abs % val y.abs)))))).neg)), tSl encD ((ofI (zval (Z.mk (x.neg) ((dig (val x.abs % val y.abs)))))).abs)]) rfl)) .here sz25 (st_agg (Ts' := [tIs (.bool ((ofI (zval (Z.mk (x.neg) ((dig (val x.abs % val y.abs)))))).neg)), tSl encD ((ofI (zval (Z.mk (x.neg) ((dig (val x.abs % val y.abs)))))).abs)]) (o := 0) rfl) ?_
  refine J.a .is rfl ?_
  refine J.nil (JQ.then_normal (JC.ret ?_))
  exact JQ.ret3 rfl (.agg (.tmp rfl) (.tail _ (.head _)) ag25 (agg_eq (T := tV encI (ofI (zval (Z.mk ((!(x.neg == y.neg))) ((dig (val x.abs / val y.abs))))))) (T' := tV encI (ofI ((zval x).tdiv (zval y)))) (by rw [quo_tdiv]) (cTs_ldV (g := zT) (y := (ofI (zval (Z.mk ((!(x.neg == y.neg))) ((dig (val x.abs / val y.abs))))))) rfl rfl))) (.agg (.tmp rfl) (.head _) ag25 (agg_eq (T := tV encI (ofI (zval (Z.mk (x.neg) ((dig (val x.abs % val y.abs))))))) (T' := tV encI (ofI ((zval x).tmod (zval y)))) (by rw [quo_tmod]) (cTs_ldV (g := zT) (y := (ofI (zval (Z.mk (x.neg) ((dig (val x.abs % val y.abs))))))) rfl rfl))) (.tmp (.tmp rfl))

theorem dexactG_c (x : Z) (y : Z) (hlx : x.abs.length ≤ 1000000000000) (hly : y.abs.length ≤ 1000000000000) (hb : 0 < val y.abs) : Ctr Try.prog 54 [tV encI (x), tV encI (y)] (tTup [tV encI (if zval y ∣ zval x then ofI (zval x / zval y) else z0), tIs (.int .i64 (if zval y ∣ zval x then 0 else 3))]) := by
  refine Ctr.know 0 rfl (fun _ _ h => slP_encI h) fun hdx => ?_
  have hr := tmod_fit (y := y) hdx
  refine Ctr.of Try.func54 rfl Try.ntmps54 (Nat.le_of_ble_eq_true rfl) fun w0 M0 => ?_
  refine JC.seq (JC.region ?_)
  refine J.boxF (Ts := [tIs (.bool (x.neg)), tSl encD (x.abs)]) (.tmp rfl) rfl (ltN rfl) fun b2 => ?_
  refine J.boxF (Ts := [tIs (.bool (y.neg)), tSl encD (y.abs)]) (.tmp rfl) rfl (ltN rfl) fun b3 => ?_
  refine J.alloc (R := cTs [tIs (.bool (false)), tSl encD ([])]) zr25 (fun _ => ⟨rfl, rfl, slP_nil _ _, rfl, trivial⟩) (ltN rfl) fun b4 => ?_
  refine J.a .is rfl ?_
  refine J.nil (JQ.then_normal (JC.seq (JC.region ?_)))
  refine J.o (ot_load_own_agg (.tmp rfl) (.tail _ (.tail _ (.head _))) ag25 (cTs_ldV (g := zT) (y := x) rfl rfl)) rfl ?_
  refine J.o (ot_load_own_agg (.tmp rfl) (.tail _ (.head _)) ag25 (cTs_ldV (g := zT) (y := y) rfl rfl)) rfl ?_
  refine J.o (ot_call fn71 (quoG_c x y (by omega) (by omega) (by assumption)) (.cons (.tmp rfl) (.cons (.tmp rfl) .nil))) rfl ?_
  refine J.m (.tmp rfl) rfl ?_
  refine J.o (ot_extract (.tmp rfl) rfl) rfl ?_
  refine J.o (ot_extract (.tmp rfl) rfl) rfl ?_
  refine J.o (ot_extract (.tmp rfl) rfl) rfl ?_
  refine J.alloc (R := cTs [tIs (.bool (false)), tSl encD ([])]) zr25 (fun _ => ⟨rfl, rfl, slP_nil _ _, rfl, trivial⟩) (ltN rfl) fun b6 => ?_
  refine J.alloc (R := cTs [tIs (.bool (false)), tSl encD ([])]) zr25 (fun _ => ⟨rfl, rfl, slP_nil _ _, rfl, trivial⟩) (ltN rfl) fun b7 => ?_
  refine J.store (.tmp rfl) (.eq (.tmp rfl) (tV_F (Ts := [tIs (.bool ((ofI ((zval x).tdiv (zval y))).neg)), tSl encD ((ofI ((zval x).tdiv (zval y))).abs)]) rfl)) (.there .here) sz25 (st_agg (Ts' := [tIs (.bool ((ofI ((zval x).tdiv (zval y))).neg)), tSl encD ((ofI ((zval x).tdiv (zval y))).abs)]) (o := 0) rfl) ?_
  refine J.store (.tmp rfl) (.eq (.tmp rfl) (tV_F (Ts := [tIs (.bool ((ofI ((zval x).tmod (zval y))).neg)), tSl encD ((ofI ((zval x).tmod (zval y))).abs)]) rfl)) .here sz25 (st_agg (Ts' := [tIs (.bool ((ofI ((zval x).tmod (zval y))).neg)), tSl encD ((ofI ((zval x).tmod (zval y))).abs)]) (o := 0) rfl) ?_
  refine J.a (.tmp rfl) rfl ?_
  refine J.nil (JQ.then_normal (JC.seq (JC.seq (JC.region ?_))))
  refine J.m (.tmp rfl) rfl ?_
  refine J.o (ot_eql (.tmp rfl) .is) rfl ?_
  refine J.m (.tmp rfl) rfl ?_
  refine J.opg rfl rfl rfl (ltN rfl) (fun hg => ot_load_own_agg (.tmp rfl) (.head _) ag25 (cTs_ldV (g := zT) (y := (ofI ((zval x).tmod (zval y)))) rfl rfl)) rfl (ltN rfl) ?_
  refine J.opg rfl rfl rfl (ltN rfl) (fun hg => (by have hg' := hg; (try simp only [bsx] at hg'); exact ot_eqt (T' := tIs (.bool (decide ((zval x).tmod (zval y) = 0)))) (ot_call fn72 (dzero_c (ofI ((zval x).tmod (zval y))) (by omega)) (.cons (.iff hg (.tmp rfl)) .nil)) (by rw [zval_ofI]))) rfl (ltN rfl) ?_
  refine J.opg rfl rfl rfl (ltN rfl) (fun hg => ot_not (.iff hg (.tmp rfl))) rfl (ltN rfl) ?_
  refine J.o (ot_and2 (.tmp rfl) (.tmp rfl) .is) rfl ?_
  refine J.nil (JQ.then_normal ?_)
  refine JC.cond (.tmp rfl) (fun hc0 => ?_) (fun hc0 => ?_)
  · try simp only [bsx] at hc0
    have hs22 := hc0
    refine JC.seq (JC.region ?_)
    refine J.o (ot_eqt (T' := tV encI (Z.mk (false) ([]))) (ot_build (Ts := [tIs (.bool (false)), tSl encD ([])]) pl25 (fun _ => ⟨rfl, rfl, slP_nil _ _, rfl, trivial⟩) (.nil) rfl) (tV_F' rfl)) rfl ?_
    refine J.store (.tmp rfl) (.eq (.tmp rfl) (tV_F (Ts := [tIs (.bool (false)), tSl encD ([])]) rfl)) (.there (.there .here)) sz25 (st_agg (Ts' := [tIs (.bool (false)), tSl encD ([])]) (o := 0) rfl) ?_
    refine J.a .is rfl ?_
    refine J.nil (JQ.then_normal (JC.ret (JQ.then_ret ?_)))
    have hnd : ¬ zval y ∣ zval x := fun h => (show ¬ (zval x).tmod (zval y) = 0 from by simpa using hs22) (Int.tmod_eq_zero_of_dvd h)
    exact JQ.ret2 rfl (.agg (.tmp rfl) (.tail _ (.tail _ (.head _))) ag25 (agg_eq (T := tV encI (Z.mk (false) ([]))) (T' := tV encI (if zval y ∣ zval x then ofI (zval x / zval y) else z0)) (by rw [if_neg hnd]; rfl) (cTs_ldV (g := zT) (y := (Z.mk (false) ([]))) rfl rfl))) (.tmp (.eq (.tmp rfl) (by rw [if_neg hnd])))
  · try simp only [bsx] at hc0
    have hs22 := hc0
    refine JC.skip (JQ.then_normal (JC.seq (JC.region ?_)))
    refine J.o (ot_load_own_agg (.tmp rfl) (.tail _ (.head _)) ag25 (cTs_ldV (g := zT) (y := (ofI ((zval x).tdiv (zval y)))) rfl rfl)) rfl ?_
    refine J.m (.tmp rfl) rfl ?_
    refine J.store (.tmp rfl) (.eq (.tmp rfl) (tV_F (Ts := [tIs (.bool ((ofI ((zval x).tdiv (zval y))).neg)), tSl encD ((ofI ((zval x).tdiv (zval y))).abs)]) rfl)) (.there (.there .here)) sz25 (st_agg (Ts' := [tIs (.bool ((ofI ((zval x).tdiv (zval y))).neg)), tSl encD ((ofI ((zval x).tdiv (zval y))).abs)]) (o := 0) rfl) ?_
    refine J.a (.tmp rfl) rfl ?_
    refine J.nil (JQ.then_normal (JC.ret ?_))
    have hdv : zval y ∣ zval x := Int.dvd_of_tmod_eq_zero (by simpa using hs22)
    exact JQ.ret2 rfl (.agg (.tmp rfl) (.tail _ (.tail _ (.head _))) ag25 (agg_eq (T := tV encI (ofI ((zval x).tdiv (zval y)))) (T' := tV encI (if zval y ∣ zval x then ofI (zval x / zval y) else z0)) (by rw [if_pos hdv, Int.tdiv_eq_ediv_of_dvd hdv]) (cTs_ldV (g := zT) (y := (ofI ((zval x).tdiv (zval y)))) rfl rfl))) (.tmp (.eq (.tmp rfl) (by rw [if_pos hdv])))

theorem dgcdG_c (x : Z) (y : Z) (hlx : x.abs.length ≤ 1000000000000) (hly : y.abs.length ≤ 1000000000000) : Ctr Try.prog 70 [tV encI (x), tV encI (y)] (tV encI (ofI (Int.gcd (zval x) (zval y)))) := by
  refine Ctr.know 0 rfl (fun _ _ h => slP_encI h) fun hdx => ?_
  refine Ctr.know 1 rfl (fun _ _ h => slP_encI h) fun hdy => ?_
  have tx := trimD_len x.abs
  have ty := trimD_len y.abs
  have ex := trimD_eq hdx
  have ey := trimD_eq hdy
  refine Ctr.of Try.func70 rfl Try.ntmps70 (Nat.le_of_ble_eq_true rfl) fun w0 M0 => ?_
  refine JC.seq (JC.region ?_)
  refine J.boxF (Ts := [tIs (.bool (x.neg)), tSl encD (x.abs)]) (.tmp rfl) rfl (ltN rfl) fun b2 => ?_
  refine J.boxF (Ts := [tIs (.bool (y.neg)), tSl encD (y.abs)]) (.tmp rfl) rfl (ltN rfl) fun b3 => ?_
  refine J.alloc (R := cTs [tIs (.bool (false)), tSl encD ([])]) zr25 (fun _ => ⟨rfl, rfl, slP_nil _ _, rfl, trivial⟩) (ltN rfl) fun b4 => ?_
  refine J.nil (JQ.then_normal (JC.seq ?_))
  refine JC.draw (Γ' := ?g1) mo (by kernel_rfl) ?tw1 ?k1
  case tw1 =>
    refine TW.o (ot_fieldAddr_own (.tmp rfl) fd25_1) rfl ?_
    refine TW.o (ot_load_own (.tmp rfl) (.tail _ (.tail _ (.head _))) sc23 (cTs_ld rfl)) rfl ?_
    refine TW.o (ot_call fn74 (natNormal_c x.abs (by omega)) (.cons (.tmp rfl) .nil)) rfl ?_
    refine TW.o (ot_fieldAddr_own (.tmp rfl) fd25_1) rfl ?_
    refine TW.o (ot_load_own (.tmp rfl) (.tail _ (.head _)) sc23 (cTs_ld rfl)) rfl ?_
    refine TW.o (ot_call fn74 (natNormal_c y.abs (by omega)) (.cons (.tmp rfl) .nil)) rfl ?_
    refine TW.o (ot_assign (.tmp rfl)) rfl ?_
    refine TW.o (ot_assign (.tmp rfl)) rfl ?_
    exact TW.nil
  refine JQ.then_normal (JC.seq (JC.block ?_))
  refine JC.loop2 (α := Nat) (β := Nat) (fun m n => [(4, pOwn b4 (0)), (5, tSl encD (dig m)), (6, tSl encD (dig n))]) (fun m n => [⟨b4, 25, cTs [tIs (.bool (false)), tSl encD ([])]⟩, ⟨b3, 25, cTs [tIs (.bool (y.neg)), tSl encD (y.abs)]⟩, ⟨b2, 25, cTs [tIs (.bool (x.neg)), tSl encD (x.abs)]⟩]) (fun m n => (dig m).length ≤ 1000000000000 ∧ (dig n).length ≤ 1000000000000 ∧ Nat.gcd m n = Nat.gcd (val x.abs) (val y.abs)) (fun m n => n) (val x.abs) (val y.abs) ⟨by rw [← ex]; omega, by rw [← ey]; omega, rfl⟩ ?lsub0 ?round0
  case lsub0 => exact sub_trans (sub_heap (.keep (fun _ _ h => h) (.keep (fun _ _ h => h) (.keep (fun _ _ h => h) .nil)))) (sub_cons (.tmp rfl) (sub_cons (.eq (.tmp rfl) (by rw [ex])) (sub_cons (.eq (.tmp rfl) (by rw [ey])) (sub_nil))))
  intro m n hinv
  obtain ⟨hm, hn, hg⟩ := hinv
  have hlt : 0 < n → m % n < n := Nat.mod_lt m
  have hn0 := dig_len_pos (n := n)
  refine JC.seq (JC.seq (JC.region ?_))
  refine J.m (.tmp rfl) rfl ?_
  refine J.o (ot_len (.tmp rfl) sl23 rfl) rfl ?_
  refine J.o (ot_gtr (.tmp rfl) .is) rfl ?_
  refine J.nil (JQ.then_normal ?_)
  refine JC.cond (.tmp rfl) (fun hc0 => ?_) (fun hc0 => ?_)
  · try simp only [bsx] at hc0
    have hs21 := hc0
    have hnp : 0 < n := Nat.pos_of_ne_zero (hn0.1 (by omega))
    refine JC.skip (JQ.then_normal (JC.block (JC.seq (JC.seq (JC.region ?_)))))
    refine J.m (.tmp rfl) rfl ?_
    refine J.o (ot_eqt (T' := tTup [tIs (.int .u64 (if m < 18446744073709551616 then (m : Int) else 0)), tIs (.bool (decide (m < 18446744073709551616)))]) (ot_call fn80 (natUint64_c (dig m) (by omega)) (.cons (.tmp rfl) .nil)) (by rw [val_dig])) rfl ?_
    refine J.m (.tmp rfl) rfl ?_
    refine J.o (ot_extract (.tmp rfl) rfl) rfl ?_
    refine J.o (ot_extract (.tmp rfl) rfl) rfl ?_
    refine J.a (.tmp rfl) rfl ?_
    refine J.a (.tmp rfl) rfl ?_
    refine J.nil (JQ.then_normal (JC.seq (JC.region ?_)))
    refine J.m (.tmp rfl) rfl ?_
    refine J.nil (JQ.then_normal ?_)
    refine JC.cond (.tmp rfl) (fun hc1 => ?_) (fun hc1 => ?_)
    · try simp only [decide_eq_true_eq, decide_eq_false_iff_not] at hc1
      have hs27 := hc1
      refine JC.seq (JC.region ?_)
      refine J.m (.tmp rfl) rfl ?_
      refine J.o (ot_eqt (T' := tTup [tIs (.int .u64 (if n < 18446744073709551616 then (n : Int) else 0)), tIs (.bool (decide (n < 18446744073709551616)))]) (ot_call fn80 (natUint64_c (dig n) (by omega)) (.cons (.tmp rfl) .nil)) (by rw [val_dig])) rfl ?_
      refine J.m (.tmp rfl) rfl ?_
      refine J.o (ot_extract (.tmp rfl) rfl) rfl ?_
      refine J.o (ot_extract (.tmp rfl) rfl) rfl ?_
      refine J.a (.tmp rfl) rfl ?_
      refine J.a (.tmp rfl) rfl ?_
      refine J.nil (JQ.then_normal (JC.seq (JC.region ?_)))
      refine J.m (.tmp rfl) rfl ?_
      refine J.nil (JQ.then_normal ?_)
      refine JC.cond (.tmp rfl) (fun hc2 => ?_) (fun hc2 => ?_)
      · try simp only [decide_eq_true_eq, decide_eq_false_iff_not] at hc2
        have hs33 := hc2
        refine JC.seq (JC.block ?_)
        refine JC.loop2 (α := Nat) (β := Nat) (fun c d => [(4, pOwn b4 (0)), (5, tSl encD (dig m)), (6, tSl encD (dig n)), (7, tIs (.int .u64 (((c : Nat) : Int)))), (8, tIs (.bool (decide (m < 18446744073709551616)))), (9, tIs (.int .u64 (((d : Nat) : Int)))), (10, tIs (.bool (decide (n < 18446744073709551616)))), (19, tSl encD (dig n)), (20, tIs (.int .i64 (((dig n).length : Int)))), (21, tIs (.bool (decide (0 < ((dig n).length : Int))))), (22, tTup [tIs (.int .u64 (if m < 18446744073709551616 then (m : Int) else 0)), tIs (.bool (decide (m < 18446744073709551616)))]), (23, tSl encD (dig m)), (24, tTup [tIs (.int .u64 (if m < 18446744073709551616 then (m : Int) else 0)), tIs (.bool (decide (m < 18446744073709551616)))]), (25, tIs (.int .u64 (if m < 18446744073709551616 then (m : Int) else 0))), (26, tIs (.bool (decide (m < 18446744073709551616)))), (27, tIs (.bool (decide (m < 18446744073709551616)))), (28, tTup [tIs (.int .u64 (if n < 18446744073709551616 then (n : Int) else 0)), tIs (.bool (decide (n < 18446744073709551616)))]), (29, tSl encD (dig n)), (30, tTup [tIs (.int .u64 (if n < 18446744073709551616 then (n : Int) else 0)), tIs (.bool (decide (n < 18446744073709551616)))]), (31, tIs (.int .u64 (if n < 18446744073709551616 then (n : Int) else 0))), (32, tIs (.bool (decide (n < 18446744073709551616)))), (33, tIs (.bool (decide (n < 18446744073709551616))))]) (fun c d => [⟨b4, 25, cTs [tIs (.bool (false)), tSl encD ([])]⟩, ⟨b3, 25, cTs [tIs (.bool (y.neg)), tSl encD (y.abs)]⟩, ⟨b2, 25, cTs [tIs (.bool (x.neg)), tSl encD (x.abs)]⟩]) (fun c d => c < 18446744073709551616 ∧ d < 18446744073709551616 ∧ Nat.gcd c d = Nat.gcd (val x.abs) (val y.abs)) (fun c d => d) m n ⟨hs27, hs33, hg⟩ ?lsub1 ?round1
        case lsub1 => exact sub_trans (sub_heap (.keep (fun _ _ h => h) (.keep (fun _ _ h => h) (.keep (fun _ _ h => h) .nil)))) (sub_cons (.tmp rfl) (sub_cons (.tmp rfl) (sub_cons (.tmp rfl) (sub_cons (.eq (.tmp rfl) (by rw [if_pos hs27])) (sub_cons (.tmp rfl) (sub_cons (.eq (.tmp rfl) (by rw [if_pos hs33])) (sub_cons (.tmp rfl) (sub_cons (.tmp rfl) (sub_cons (.tmp rfl) (sub_cons (.tmp rfl) (sub_cons (.tmp rfl) (sub_cons (.tmp rfl) (sub_cons (.tmp rfl) (sub_cons (.tmp rfl) (sub_cons (.tmp rfl) (sub_cons (.tmp rfl) (sub_cons (.tmp rfl) (sub_cons (.tmp rfl) (sub_cons (.tmp rfl) (sub_cons (.tmp rfl) (sub_cons (.tmp rfl) (sub_cons (.tmp rfl) (sub_nil)))))))))))))))))))))))
        intro c d hinv
        obtain ⟨hc, hd, hg2⟩ := hinv
        have hlt2 : 0 < d → c % d < d := Nat.mod_lt c
        refine JC.seq (JC.seq (JC.region ?_))
        refine J.m (.tmp rfl) rfl ?_
        refine J.o (ot_neq (.tmp rfl) .is) rfl ?_
        refine J.nil (JQ.then_normal ?_)
        refine JC.cond (.tmp rfl) (fun hc3 => ?_) (fun hc3 => ?_)
        · try simp only [bsx] at hc3
          have hs35 := hc3
          refine JC.skip (JQ.then_normal (JC.block ?_))
          refine JC.draw (Γ' := ?g2) mo (by kernel_rfl) ?tw2 ?k2
          case tw2 =>
            refine TW.m (.tmp rfl) rfl ?_
            refine TW.m (.tmp rfl) rfl ?_
            refine TW.m (.tmp rfl) rfl ?_
            refine TW.o (ot_rem (.tmp rfl) (.tmp rfl) (by omega) w_rem) rfl ?_
            refine TW.o (ot_assign (.tmp rfl)) rfl ?_
            refine TW.o (ot_assign (.tmp rfl)) rfl ?_
            exact TW.nil
          refine JQ.block_normal ?_
          exact JQ.round2 (i := c) (i2 := d) d (c % d) ⟨hd, by have := hlt2 (by omega); omega, by rw [← hg2, Nat.gcd_comm c d, Nat.gcd_rec d c, Nat.gcd_comm]⟩ (hlt2 (by omega)) (sub_trans (sub_heap (.keep (fun _ _ h => h) (.keep (fun _ _ h => h) (.keep (fun _ _ h => h) .nil)))) (sub_cons (.tmp rfl) (sub_cons (.tmp rfl) (sub_cons (.tmp rfl) (sub_cons (.tmp rfl) (sub_cons (.tmp rfl) (sub_cons (.eq (.tmp rfl) (by first | rfl | (congr 3; omega) | (congr 2; omega))) (sub_cons (.tmp rfl) (sub_cons (.tmp rfl) (sub_cons (.tmp rfl) (sub_cons (.tmp rfl) (sub_cons (.tmp rfl) (sub_cons (.tmp rfl) (sub_cons (.tmp rfl) (sub_cons (.tmp rfl) (sub_cons (.tmp rfl) (sub_cons (.tmp rfl) (sub_cons (.tmp rfl) (sub_cons (.tmp rfl) (sub_cons (.tmp rfl) (sub_cons (.tmp rfl) (sub_cons (.tmp rfl) (sub_cons (.tmp rfl) (sub_nil))))))))))))))))))))))))
        · try simp only [bsx] at hc3
          have hs35 := hc3
          refine JC.exit (JQ.then_exit (JQ.then_exit (JQ.block_exit (JQ.then_normal (JC.seq (JC.region ?_))))))
          refine J.m (.tmp rfl) rfl ?_
          refine J.o (ot_eqt (T' := tSl encD (dig c)) (ot_call fn42 (natOf_c ((c : Nat) : Int) (by omega)) (.cons (.tmp rfl) .nil)) (by rw [Int.toNat_natCast])) rfl ?_
          refine J.o (ot_call fn62 (intFrom_c false (dig c) (by have := dig_len_pow (n := c) (k := 2) (by show c < B32 ^ 2; simp [B32]; omega); omega)) (.cons .is (.cons (.tmp rfl) .nil))) rfl ?_
          refine J.store (.tmp rfl) (.eq (.tmp rfl) (tV_F (Ts := [tIs (.bool ((ofI (zval (Z.mk (false) ((dig c))))).neg)), tSl encD ((ofI (zval (Z.mk (false) ((dig c))))).abs)]) rfl)) .here sz25 (st_agg (Ts' := [tIs (.bool ((ofI (zval (Z.mk (false) ((dig c))))).neg)), tSl encD ((ofI (zval (Z.mk (false) ((dig c))))).abs)]) (o := 0) rfl) ?_
          refine J.nil (JQ.then_normal (JC.ret (JQ.then_ret (JQ.block_ret (JQ.then_ret (JQ.block_ret (JQ.then_ret ?_)))))))
          exact JQ.ret1 rfl (.agg (.tmp rfl) (.head _) ag25 (agg_eq (T := tV encI (ofI (zval (Z.mk (false) ((dig c)))))) (T' := tV encI (ofI (Int.gcd (zval x) (zval y)))) (by rw [gcd_ret hg2 (by omega)]) (cTs_ldV (g := zT) (y := (ofI (zval (Z.mk (false) ((dig c)))))) rfl rfl)))
      · try simp only [decide_eq_true_eq, decide_eq_false_iff_not] at hc2
        have hs33 := hc2
        refine JC.skip (JQ.then_normal (JC.seq (JC.region ?_)))
        refine J.m (.tmp rfl) rfl ?_
        refine J.m (.tmp rfl) rfl ?_
        refine J.o (ot_eqt (T' := tTup [tSl encD (dig (m / n)), tSl encD (dig (m % n))]) (ot_call fn81 (longG_c (dig m) (dig n) hm hn (by rw [val_dig]; exact hnp)) (.cons (.tmp rfl) (.cons (.tmp rfl) .nil))) (by rw [val_dig, val_dig])) rfl ?_
        refine J.m (.tmp rfl) rfl ?_
        refine J.o (ot_extract (.tmp rfl) rfl) rfl ?_
        refine J.o (ot_extract (.tmp rfl) rfl) rfl ?_
        refine J.a (.tmp rfl) rfl ?_
        refine J.a (.tmp rfl) rfl ?_
        refine J.nil (JQ.then_normal (JC.region ?_))
        refine J.m (.tmp rfl) rfl ?_
        refine J.m (.tmp rfl) rfl ?_
        refine J.a (.tmp rfl) rfl ?_
        refine J.a (.tmp rfl) rfl ?_
        refine J.nil (JQ.block_normal ?_)
        exact JQ.round2 (i := m) (i2 := n) n (m % n) ⟨hn, Nat.le_trans (dig_len_mono (Nat.le_of_lt (hlt hnp))) hn, by rw [← hg, Nat.gcd_comm m n, Nat.gcd_rec n m, Nat.gcd_comm]⟩ (hlt hnp) (sub_trans (sub_heap (.keep (fun _ _ h => h) (.keep (fun _ _ h => h) (.keep (fun _ _ h => h) .nil)))) (sub_cons (.tmp rfl) (sub_cons (.tmp rfl) (sub_cons (.tmp rfl) (sub_nil)))))
    · try simp only [decide_eq_true_eq, decide_eq_false_iff_not] at hc1
      have hs27 := hc1
      refine JC.skip (JQ.then_normal (JC.seq (JC.region ?_)))
      refine J.m (.tmp rfl) rfl ?_
      refine J.m (.tmp rfl) rfl ?_
      refine J.o (ot_eqt (T' := tTup [tSl encD (dig (m / n)), tSl encD (dig (m % n))]) (ot_call fn81 (longG_c (dig m) (dig n) hm hn (by rw [val_dig]; exact hnp)) (.cons (.tmp rfl) (.cons (.tmp rfl) .nil))) (by rw [val_dig, val_dig])) rfl ?_
      refine J.m (.tmp rfl) rfl ?_
      refine J.o (ot_extract (.tmp rfl) rfl) rfl ?_
      refine J.o (ot_extract (.tmp rfl) rfl) rfl ?_
      refine J.a (.tmp rfl) rfl ?_
      refine J.a (.tmp rfl) rfl ?_
      refine J.nil (JQ.then_normal (JC.region ?_))
      refine J.m (.tmp rfl) rfl ?_
      refine J.m (.tmp rfl) rfl ?_
      refine J.a (.tmp rfl) rfl ?_
      refine J.a (.tmp rfl) rfl ?_
      refine J.nil (JQ.block_normal ?_)
      exact JQ.round2 (i := m) (i2 := n) n (m % n) ⟨hn, Nat.le_trans (dig_len_mono (Nat.le_of_lt (hlt hnp))) hn, by rw [← hg, Nat.gcd_comm m n, Nat.gcd_rec n m, Nat.gcd_comm]⟩ (hlt hnp) (sub_trans (sub_heap (.keep (fun _ _ h => h) (.keep (fun _ _ h => h) (.keep (fun _ _ h => h) .nil)))) (sub_cons (.tmp rfl) (sub_cons (.tmp rfl) (sub_cons (.tmp rfl) (sub_nil)))))
  · try simp only [bsx] at hc0
    have hs21 := hc0
    have hnz : n = 0 := by rcases Nat.eq_zero_or_pos n with h | h; exact h; exact absurd (hn0.2 (by omega)) (by omega)
    refine JC.exit (JQ.then_exit (JQ.then_exit (JQ.block_exit (JQ.then_normal (JC.seq (JC.region ?_))))))
    refine J.m (.tmp rfl) rfl ?_
    refine J.o (ot_call fn62 (intFrom_c false (dig m) (by omega)) (.cons .is (.cons (.tmp rfl) .nil))) rfl ?_
    refine J.store (.tmp rfl) (.eq (.tmp rfl) (tV_F (Ts := [tIs (.bool ((ofI (zval (Z.mk (false) ((dig m))))).neg)), tSl encD ((ofI (zval (Z.mk (false) ((dig m))))).abs)]) rfl)) .here sz25 (st_agg (Ts' := [tIs (.bool ((ofI (zval (Z.mk (false) ((dig m))))).neg)), tSl encD ((ofI (zval (Z.mk (false) ((dig m))))).abs)]) (o := 0) rfl) ?_
    refine J.nil (JQ.then_normal (JC.ret ?_))
    exact JQ.ret1 rfl (.agg (.tmp rfl) (.head _) ag25 (agg_eq (T := tV encI (ofI (zval (Z.mk (false) ((dig m)))))) (T' := tV encI (ofI (Int.gcd (zval x) (zval y)))) (by rw [gcd_ret hg hnz]) (cTs_ldV (g := zT) (y := (ofI (zval (Z.mk (false) ((dig m)))))) rfl rfl)))

theorem rmul_c {B C D E : Nat} (k : Nat) (p q : Pol) (lp : Lev k p) (lq : Lev k q) (hp : Sz D p) (hq : Sz E q) (hk : k ≤ 4) (hD : 1 ≤ D ∧ 1 ≤ E ∧ D + E ≤ 4294967296) (np : nrm p < B32 ^ B) (nq : nrm q < B32 ^ C) (hb : B + C ≤ 100000000000) : Ctr Try.prog 47 [tV encP (p), tV encP (q)] (tV encP (mulF k p q)) := by
  induction k using Nat.strongRecOn generalizing p q
  rename_i k ih
  have fp := hp.fit (by omega) np
  have fq := hq.fit (by omega) nq
  have npq := mul_fitN np nq
  have hpc := fp.c
  have hqc := fq.c
  refine Ctr.of Try.func47 rfl Try.ntmps47 (Nat.le_of_ble_eq_true rfl) fun w0 M0 => ?_
  refine JC.seq (JC.region ?_)
  refine J.boxF (Ts := [tIs (.int .i64 (p.lv)), tIs (.bool (p.c.neg)), tSl encD (p.c.abs), tSl encP (p.cs)]) (.tmp rfl) (polT_eq _) (ltN rfl) fun b2 => ?_
  refine J.boxF (Ts := [tIs (.int .i64 (q.lv)), tIs (.bool (q.c.neg)), tSl encD (q.c.abs), tSl encP (q.cs)]) (.tmp rfl) (polT_eq _) (ltN rfl) fun b3 => ?_
  refine J.alloc (R := cTs [tIs (.int .i64 (0)), tIs (.bool (false)), tSl encD ([]), tSl encP ([])]) zr28 (fun _ => ⟨rfl, rfl, rfl, rfl, slP_nil _ _, rfl, slP_nil _ _, rfl, trivial⟩) (ltN rfl) fun b4 => ?_
  refine J.nil (JQ.then_normal (JC.seq (JC.seq (JC.region ?_))))
  refine J.o (ot_fieldAddr_own (.tmp rfl) fd28_0) rfl ?_
  refine J.o (ot_load_own (.tmp rfl) (.tail _ (.head _)) sc3 (cTs_ld rfl)) rfl ?_
  refine J.o (ot_eql (.tmp rfl) .is) rfl ?_
  refine J.nil (JQ.then_normal ?_)
  refine JC.cond (.tmp rfl) (fun hc0 => ?_) (fun hc0 => ?_)
  · try simp only [bsx] at hc0
    have hs15 := hc0
    refine JC.seq (JC.region ?_)
    refine J.o (ot_load_own_agg (.tmp rfl) (.tail _ (.tail _ (.head _))) ag28 (cTs_ldV (g := polT) (y := p) (polT_eq p).symm rfl)) rfl ?_
    refine J.o (ot_fieldAddr_own (.tmp rfl) fd28_1) rfl ?_
    refine J.o (ot_load_own_agg (.tmp rfl) (.tail _ (.head _)) ag25 (cTs_ldV (g := zT) (y := q.c) rfl rfl)) rfl ?_
    refine J.o (ot_call fn36 (scale_c p q.c fp fq.d (by omega)) (.cons (.tmp rfl) (.cons (.tmp rfl) .nil))) rfl ?_
    refine J.store (.tmp rfl) (.eq (.tmp rfl) (tV_F (Ts := [tIs (.int .i64 ((scaleP p (zval q.c)).lv)), tIs (.bool (((scaleP p (zval q.c)).c).neg)), tSl encD (((scaleP p (zval q.c)).c).abs), tSl encP ((scaleP p (zval q.c)).cs)]) (polT_eq _))) .here sz28 (st_agg (Ts' := [tIs (.int .i64 ((scaleP p (zval q.c)).lv)), tIs (.bool (((scaleP p (zval q.c)).c).neg)), tSl encD (((scaleP p (zval q.c)).c).abs), tSl encP ((scaleP p (zval q.c)).cs)]) (o := 0) rfl) ?_
    refine J.nil (JQ.then_normal (JC.ret (JQ.then_ret ?_)))
    exact JQ.ret1 rfl (.agg (.tmp rfl) (.head _) ag28 (agg_eq (T := tV encP (scaleP p (zval q.c))) (T' := tV encP (mulF k p q)) (by rw [mulF_q hs15]) (cTs_ldV (g := polT) (y := (scaleP p (zval q.c))) (polT_eq (scaleP p (zval q.c))).symm rfl)))
  · try simp only [bsx] at hc0
    have hs15 := hc0
    refine JC.skip (JQ.then_normal (JC.seq (JC.seq (JC.region ?_))))
    refine J.o (ot_fieldAddr_own (.tmp rfl) fd28_0) rfl ?_
    refine J.o (ot_load_own (.tmp rfl) (.tail _ (.tail _ (.head _))) sc3 (cTs_ld rfl)) rfl ?_
    refine J.o (ot_eql (.tmp rfl) .is) rfl ?_
    refine J.nil (JQ.then_normal ?_)
    refine JC.cond (.tmp rfl) (fun hc1 => ?_) (fun hc1 => ?_)
    · try simp only [bsx] at hc1
      have hs22 := hc1
      refine JC.seq (JC.region ?_)
      refine J.o (ot_load_own_agg (.tmp rfl) (.tail _ (.head _)) ag28 (cTs_ldV (g := polT) (y := q) (polT_eq q).symm rfl)) rfl ?_
      refine J.o (ot_fieldAddr_own (.tmp rfl) fd28_1) rfl ?_
      refine J.o (ot_load_own_agg (.tmp rfl) (.tail _ (.tail _ (.head _))) ag25 (cTs_ldV (g := zT) (y := p.c) rfl rfl)) rfl ?_
      refine J.o (ot_call fn36 (scale_c q p.c fq fp.d (by omega)) (.cons (.tmp rfl) (.cons (.tmp rfl) .nil))) rfl ?_
      refine J.store (.tmp rfl) (.eq (.tmp rfl) (tV_F (Ts := [tIs (.int .i64 ((scaleP q (zval p.c)).lv)), tIs (.bool (((scaleP q (zval p.c)).c).neg)), tSl encD (((scaleP q (zval p.c)).c).abs), tSl encP ((scaleP q (zval p.c)).cs)]) (polT_eq _))) .here sz28 (st_agg (Ts' := [tIs (.int .i64 ((scaleP q (zval p.c)).lv)), tIs (.bool (((scaleP q (zval p.c)).c).neg)), tSl encD (((scaleP q (zval p.c)).c).abs), tSl encP ((scaleP q (zval p.c)).cs)]) (o := 0) rfl) ?_
      refine J.nil (JQ.then_normal (JC.ret (JQ.then_ret ?_)))
      exact JQ.ret1 rfl (.agg (.tmp rfl) (.head _) ag28 (agg_eq (T := tV encP (scaleP q (zval p.c))) (T' := tV encP (mulF k p q)) (by rw [mulF_p hs15 hs22]) (cTs_ldV (g := polT) (y := (scaleP q (zval p.c))) (polT_eq (scaleP q (zval p.c))).symm rfl)))
    · try simp only [bsx] at hc1
      have hs22 := hc1
      have h1 := lp.lv
      have h2 := lq.lv
      obtain ⟨m, hm⟩ : ∃ m, k = m + 1 := ⟨k - 1, by omega⟩
      obtain ⟨⟨a1, a2, a3, a4⟩, a5, a6⟩ := mul_parts (hm ▸ lp) (hm ▸ lq) hp hq hD.1 hD.2.1 hs15
      have nx := nrmL_coefs p (max (p.lv) (q.lv))
      have ny := nrmL_coefs q (max (p.lv) (q.lv))
      refine JC.skip (JQ.then_normal (JC.seq (JC.region ?_)))
      refine J.o (ot_fieldAddr_own (.tmp rfl) fd28_0) rfl ?_
      refine J.o (ot_load_own (.tmp rfl) (.tail _ (.tail _ (.head _))) sc3 (cTs_ld rfl)) rfl ?_
      refine J.o (ot_fieldAddr_own (.tmp rfl) fd28_0) rfl ?_
      refine J.o (ot_load_own (.tmp rfl) (.tail _ (.head _)) sc3 (cTs_ld rfl)) rfl ?_
      refine J.o (ot_max (.tmp rfl) (.tmp rfl)) rfl ?_
      refine J.a (.tmp rfl) rfl ?_
      refine J.nil (JQ.then_normal (JC.seq ?_))
      refine JC.draw (Γ' := ?g1) mo (by kernel_rfl) ?tw1 ?k1
      case tw1 =>
        refine TW.o (ot_load_own_agg (.tmp rfl) (.tail _ (.tail _ (.head _))) ag28 (cTs_ldV (g := polT) (y := p) (polT_eq p).symm rfl)) rfl ?_
        refine TW.m (.tmp rfl) rfl ?_
        refine TW.o (ot_call fn65 (coefs_c p (max (p.lv) (q.lv)) fp.cs) (.cons (.tmp rfl) (.cons (.tmp rfl) .nil))) rfl ?_
        refine TW.o (ot_load_own_agg (.tmp rfl) (.tail _ (.head _)) ag28 (cTs_ldV (g := polT) (y := q) (polT_eq q).symm rfl)) rfl ?_
        refine TW.m (.tmp rfl) rfl ?_
        refine TW.o (ot_call fn65 (coefs_c q (max (p.lv) (q.lv)) fq.cs) (.cons (.tmp rfl) (.cons (.tmp rfl) .nil))) rfl ?_
        refine TW.o (ot_assign (.tmp rfl)) rfl ?_
        refine TW.o (ot_assign (.tmp rfl)) rfl ?_
        exact TW.nil
      refine JQ.then_normal (JC.seq (JC.region ?_))
      refine J.m (.tmp rfl) rfl ?_
      refine J.o (ot_len (.tmp rfl) sl26 rfl) rfl ?_
      refine J.m (.tmp rfl) rfl ?_
      refine J.o (ot_len (.tmp rfl) sl26 rfl) rfl ?_
      refine J.o (ot_add (.tmp rfl) (.tmp rfl) (w64 (by omega) (by omega))) rfl ?_
      refine J.o (ot_sub (.tmp rfl) .is (w64 (by omega) (by omega))) rfl ?_
      refine J.make (E := encP) (z := p0) (n := (coefsP p (max (p.lv) (q.lv))).length + (coefsP q (max (p.lv) (q.lv))).length - 1) sl26 (.eq (.tmp rfl) (by congr 2; omega)) (.eq (.tmp rfl) (by congr 2; omega)) zr28 (fun _ => encP_zero) (by decide) (by omega) (by omega) (ltN rfl) fun b44 => ?_
      refine J.a (.tmp rfl) rfl ?_
      refine J.nil (JQ.then_normal (JC.seq (JC.seq (JC.region ?_))))
      refine J.m (.tmp rfl) rfl ?_
      refine J.o (ot_len (.tmp rfl) sl26 rfl) rfl ?_
      refine J.m .is rfl ?_
      refine J.nil (JQ.then_normal (JC.block ?_))
      refine JC.loop (ι := Nat) (fun i => [(4, pOwn b4 (0)), (5, tIs (.int .i64 (max (p.lv) (q.lv)))), (7, tSl encP (coefsP q (max (p.lv) (q.lv)))), (8, sIs b44 0 ((coefsP p (max (p.lv) (q.lv))).length + (coefsP q (max (p.lv) (q.lv))).length - 1) ((coefsP p (max (p.lv) (q.lv))).length + (coefsP q (max (p.lv) (q.lv))).length - 1)), (45, tSl encP (coefsP p (max (p.lv) (q.lv)))), (46, tIs (.int .i64 (((coefsP p (max (p.lv) (q.lv))).length : Int)))), (47, tIs (.int .i64 (((i : Nat) : Int))))]) (fun i => [⟨b44, 28, cRow encP (convI (mulF m) (addF 4) (coefsP p (max (p.lv) (q.lv))) (coefsP q (max (p.lv) (q.lv))) i) ((coefsP p (max (p.lv) (q.lv))).length + (coefsP q (max (p.lv) (q.lv))).length - 1)⟩, ⟨b4, 28, cTs [tIs (.int .i64 (0)), tIs (.bool (false)), tSl encD ([]), tSl encP ([])]⟩, ⟨b3, 28, cTs [tIs (.int .i64 (q.lv)), tIs (.bool (q.c.neg)), tSl encD (q.c.abs), tSl encP (q.cs)]⟩, ⟨b2, 28, cTs [tIs (.int .i64 (p.lv)), tIs (.bool (p.c.neg)), tSl encD (p.c.abs), tSl encP (p.cs)]⟩]) (fun i => i ≤ (coefsP p (max (p.lv) (q.lv))).length) (fun i => (coefsP p (max (p.lv) (q.lv))).length - i) 0 (by omega) ?lsub0 ?round0
      case lsub0 => exact sub_trans (sub_heap (.keep (fun _ _ h => by first | exact h | simpa using h) (.keep (fun _ _ h => h) (.keep (fun _ _ h => h) (.keep (fun _ _ h => h) .nil))))) (sub_cons (.tmp rfl) (sub_cons (.tmp rfl) (sub_cons (.tmp rfl) (sub_cons (.tmp rfl) (sub_cons (.tmp rfl) (sub_cons (.tmp rfl) (sub_cons (.eq (.tmp rfl) (by first | rfl | (congr 3; omega) | (congr 2; omega))) (sub_nil))))))))
      intro i hinv
      refine JC.seq (JC.region ?_)
      refine J.o (ot_lss (.tmp rfl) (.tmp rfl)) rfl ?_
      refine J.nil (JQ.then_normal (JC.seq ?_))
      refine JC.cond (.tmp rfl) (fun hc2 => ?_) (fun hc2 => ?_)
      · try simp only [bsx] at hc2
        have hs48 := hc2
        refine JC.skip (JQ.then_normal (JC.seq (JC.block (JC.seq (JC.region ?_)))))
        refine J.m (.tmp rfl) rfl ?_
        refine J.o (ot_index (z := atP (coefsP p (max (p.lv) (q.lv))) i) (.tmp rfl) (.tmp rfl) sl26 (by omega) (atP_at (by omega) (by omega))) rfl ?_
        refine J.o (ot_load_agg (.tmp rfl) ag28 ldp_whole) rfl ?_
        refine J.alloc (R := cTs [tIs (.int .i64 (0)), tIs (.bool (false)), tSl encD ([]), tSl encP ([])]) zr28 (fun _ => ⟨rfl, rfl, rfl, rfl, slP_nil _ _, rfl, slP_nil _ _, rfl, trivial⟩) (ltN rfl) fun b10 => ?_
        refine J.a (.tmp rfl) rfl ?_
        refine J.store (.tmp rfl) (.eq (.tmp rfl) (tV_F (Ts := [tIs (.int .i64 ((atP (coefsP p (max (p.lv) (q.lv))) i).lv)), tIs (.bool (((atP (coefsP p (max (p.lv) (q.lv))) i).c).neg)), tSl encD (((atP (coefsP p (max (p.lv) (q.lv))) i).c).abs), tSl encP ((atP (coefsP p (max (p.lv) (q.lv))) i).cs)]) (polT_eq _))) .here sz28 (st_agg (Ts' := [tIs (.int .i64 ((atP (coefsP p (max (p.lv) (q.lv))) i).lv)), tIs (.bool (((atP (coefsP p (max (p.lv) (q.lv))) i).c).neg)), tSl encD (((atP (coefsP p (max (p.lv) (q.lv))) i).c).abs), tSl encP ((atP (coefsP p (max (p.lv) (q.lv))) i).cs)]) (o := 0) rfl) ?_
        refine J.nil (JQ.then_normal (JC.seq (JC.region ?_)))
        refine J.m (.tmp rfl) rfl ?_
        refine J.o (ot_len (.tmp rfl) sl26 rfl) rfl ?_
        refine J.m .is rfl ?_
        refine J.nil (JQ.then_normal (JC.block ?_))
        refine JC.loop (ι := Nat) (fun j => [(4, pOwn b4 (0)), (5, tIs (.int .i64 (max (p.lv) (q.lv)))), (7, tSl encP (coefsP q (max (p.lv) (q.lv)))), (8, sIs b44 0 ((coefsP p (max (p.lv) (q.lv))).length + (coefsP q (max (p.lv) (q.lv))).length - 1) ((coefsP p (max (p.lv) (q.lv))).length + (coefsP q (max (p.lv) (q.lv))).length - 1)), (9, tIs (.int .i64 (((i : Nat) : Int)))), (10, pOwn b10 (0)), (45, tSl encP (coefsP p (max (p.lv) (q.lv)))), (46, tIs (.int .i64 (((coefsP p (max (p.lv) (q.lv))).length : Int)))), (47, tIs (.int .i64 (((i : Nat) : Int)))), (48, tIs (.bool (decide (((i : Nat) : Int) < ((coefsP p (max (p.lv) (q.lv))).length : Int))))), (49, tIs (.int .i64 (((i : Nat) : Int)))), (50, tPtr (cEnc encP (atP (coefsP p (max (p.lv) (q.lv))) i))), (51, tV encP (atP (coefsP p (max (p.lv) (q.lv))) i)), (52, tSl encP (coefsP q (max (p.lv) (q.lv)))), (53, tIs (.int .i64 (((coefsP q (max (p.lv) (q.lv))).length : Int)))), (54, tIs (.int .i64 (((j : Nat) : Int))))]) (fun j => [⟨b10, 28, cTs [tIs (.int .i64 ((atP (coefsP p (max (p.lv) (q.lv))) i).lv)), tIs (.bool (((atP (coefsP p (max (p.lv) (q.lv))) i).c).neg)), tSl encD (((atP (coefsP p (max (p.lv) (q.lv))) i).c).abs), tSl encP ((atP (coefsP p (max (p.lv) (q.lv))) i).cs)]⟩, ⟨b44, 28, cRow encP (convJ (mulF m) (addF 4) (atP (coefsP p (max (p.lv) (q.lv))) i) i (coefsP q (max (p.lv) (q.lv))) j (convI (mulF m) (addF 4) (coefsP p (max (p.lv) (q.lv))) (coefsP q (max (p.lv) (q.lv))) i)) ((coefsP p (max (p.lv) (q.lv))).length + (coefsP q (max (p.lv) (q.lv))).length - 1)⟩, ⟨b4, 28, cTs [tIs (.int .i64 (0)), tIs (.bool (false)), tSl encD ([]), tSl encP ([])]⟩, ⟨b3, 28, cTs [tIs (.int .i64 (q.lv)), tIs (.bool (q.c.neg)), tSl encD (q.c.abs), tSl encP (q.cs)]⟩, ⟨b2, 28, cTs [tIs (.int .i64 (p.lv)), tIs (.bool (p.c.neg)), tSl encD (p.c.abs), tSl encP (p.cs)]⟩]) (fun j => j ≤ (coefsP q (max (p.lv) (q.lv))).length) (fun j => (coefsP q (max (p.lv) (q.lv))).length - j) 0 (by omega) ?lsub1 ?round1
        case lsub1 => exact sub_trans (sub_heap (.keep (fun _ _ h => h) (.keep (fun _ _ h => by first | exact h | simpa using h) (.keep (fun _ _ h => h) (.keep (fun _ _ h => h) (.keep (fun _ _ h => h) .nil)))))) (sub_cons (.tmp rfl) (sub_cons (.tmp rfl) (sub_cons (.tmp rfl) (sub_cons (.tmp rfl) (sub_cons (.tmp rfl) (sub_cons (.tmp rfl) (sub_cons (.tmp rfl) (sub_cons (.tmp rfl) (sub_cons (.tmp rfl) (sub_cons (.tmp rfl) (sub_cons (.tmp rfl) (sub_cons (.tmp rfl) (sub_cons (.tmp rfl) (sub_cons (.tmp rfl) (sub_cons (.tmp rfl) (sub_cons (.eq (.tmp rfl) (by first | rfl | (congr 3; omega) | (congr 2; omega))) (sub_nil)))))))))))))))))
        intro j hinv
        have hzl : (convJ (mulF m) (addF 4) (atP (coefsP p (max (p.lv) (q.lv))) i) i (coefsP q (max (p.lv) (q.lv))) j (convI (mulF m) (addF 4) (coefsP p (max (p.lv) (q.lv))) (coefsP q (max (p.lv) (q.lv))) i)).length = (coefsP p (max (p.lv) (q.lv))).length + (coefsP q (max (p.lv) (q.lv))).length - 1 := by rw [convJ_len, convI_len]
        refine JC.seq (JC.region ?_)
        refine J.o (ot_lss (.tmp rfl) (.tmp rfl)) rfl ?_
        refine J.nil (JQ.then_normal (JC.seq ?_))
        refine JC.cond (.tmp rfl) (fun hc3 => ?_) (fun hc3 => ?_)
        · try simp only [bsx] at hc3
          have hs55 := hc3
          obtain ⟨e1, e2, e3⟩ := conv_at (k := m) (i := i) (j := j) (by omega) nx ny (by omega) (by omega) (by omega) (fun x hx => ⟨(a5 x hx).1, (a5 x hx).2.1⟩) (fun y hy => ⟨(a6 y hy).1, (a6 y hy).2.1⟩) hD.1 hD.2.1
          have xm := a5 _ (atP_mem (cs := (coefsP p (max (p.lv) (q.lv)))) (i := i) (by omega))
          have ym := a6 _ (atP_mem (cs := (coefsP q (max (p.lv) (q.lv)))) (i := j) (by omega))
          refine JC.skip (JQ.then_normal (JC.seq (JC.block (JC.seq (JC.region ?_)))))
          refine J.m (.tmp rfl) rfl ?_
          refine J.o (ot_index (z := atP (coefsP q (max (p.lv) (q.lv))) j) (.tmp rfl) (.tmp rfl) sl26 (by omega) (atP_at (by omega) (by omega))) rfl ?_
          refine J.o (ot_load_agg (.tmp rfl) ag28 ldp_whole) rfl ?_
          refine J.alloc (R := cTs [tIs (.int .i64 (0)), tIs (.bool (false)), tSl encD ([]), tSl encP ([])]) zr28 (fun _ => ⟨rfl, rfl, rfl, rfl, slP_nil _ _, rfl, slP_nil _ _, rfl, trivial⟩) (ltN rfl) fun b12 => ?_
          refine J.a (.tmp rfl) rfl ?_
          refine J.store (.tmp rfl) (.eq (.tmp rfl) (tV_F (Ts := [tIs (.int .i64 ((atP (coefsP q (max (p.lv) (q.lv))) j).lv)), tIs (.bool (((atP (coefsP q (max (p.lv) (q.lv))) j).c).neg)), tSl encD (((atP (coefsP q (max (p.lv) (q.lv))) j).c).abs), tSl encP ((atP (coefsP q (max (p.lv) (q.lv))) j).cs)]) (polT_eq _))) .here sz28 (st_agg (Ts' := [tIs (.int .i64 ((atP (coefsP q (max (p.lv) (q.lv))) j).lv)), tIs (.bool (((atP (coefsP q (max (p.lv) (q.lv))) j).c).neg)), tSl encD (((atP (coefsP q (max (p.lv) (q.lv))) j).c).abs), tSl encP ((atP (coefsP q (max (p.lv) (q.lv))) j).cs)]) (o := 0) rfl) ?_
          refine J.nil (JQ.then_normal ?_)
          refine JC.drawAt (Γ' := ?g2) 15 mo (by kernel_rfl) ?tw2 ?k2
          case tw2 =>
            refine TW.m (.tmp rfl) rfl ?_
            refine TW.m (.tmp rfl) rfl ?_
            refine TW.m (.tmp rfl) rfl ?_
            refine TW.o (ot_add (.tmp rfl) (.tmp rfl) (w64 (by omega) (by omega))) rfl ?_
            refine TW.m (.tmp rfl) rfl ?_
            refine TW.m (.tmp rfl) rfl ?_
            refine TW.m (.tmp rfl) rfl ?_
            refine TW.o (ot_add (.tmp rfl) (.tmp rfl) (w64 (by omega) (by omega))) rfl ?_
            refine TW.o (ot_eqt (T' := pOwn b44 (0 + (i + j) * 4)) (ot_index_own (.tmp rfl) (.tmp rfl) sl26 (by omega) (by omega)) (own_off2 (by omega))) rfl ?_
            refine TW.o (ot_load_own_agg (.tmp rfl) (.tail _ (.tail _ (.head _))) ag28 (row_agg rfl (atP_some (by omega)))) rfl ?_
            refine TW.o (ot_load_own_agg (.tmp rfl) (.tail _ (.head _)) ag28 (cTs_ldV (g := polT) (y := (atP (coefsP p (max (p.lv) (q.lv))) i)) (polT_eq (atP (coefsP p (max (p.lv) (q.lv))) i)).symm rfl)) rfl ?_
            refine TW.o (ot_load_own_agg (.tmp rfl) (.head _) ag28 (cTs_ldV (g := polT) (y := (atP (coefsP q (max (p.lv) (q.lv))) j)) (polT_eq (atP (coefsP q (max (p.lv) (q.lv))) j)).symm rfl)) rfl ?_
            refine TW.o (ot_call fn47 (ih m (by omega) (atP (coefsP p (max (p.lv) (q.lv))) i) (atP (coefsP q (max (p.lv) (q.lv))) j) xm.1 ym.1 xm.2.1 ym.2.1 (by omega) (Nat.lt_of_le_of_lt xm.2.2 np) (Nat.lt_of_le_of_lt ym.2.2 nq)) (.cons (.tmp rfl) (.cons (.tmp rfl) .nil))) rfl ?_
            refine TW.o (ot_call fn46 (add_c 4 (atP (convJ (mulF m) (addF 4) (atP (coefsP p (max (p.lv) (q.lv))) i) i (coefsP q (max (p.lv) (q.lv))) j (convI (mulF m) (addF 4) (coefsP p (max (p.lv) (q.lv))) (coefsP q (max (p.lv) (q.lv))) i)) (i + j)) (mulF m (atP (coefsP p (max (p.lv) (q.lv))) i) (atP (coefsP q (max (p.lv) (q.lv))) j)) e1 ((Lev.mul m m (Nat.le_refl _) (by omega) xm.1 ym.1).mono (by omega)) (e2.fit hD.2.2 (Nat.lt_of_le_of_lt e3 npq)) ((Sz.mul hD.1 hD.2.1 m xm.2.1 ym.2.1).fit hD.2.2 (Nat.lt_of_le_of_lt (Nat.le_trans (nrm_mul m _ _) (Nat.mul_le_mul xm.2.2 ym.2.2)) npq)) (by omega)) (.cons (.tmp rfl) (.cons (.tmp rfl) .nil))) rfl ?_
            refine TW.o (ot_eqt (T' := pOwn b44 (0 + (i + j) * 4)) (ot_index_own (.tmp rfl) (.tmp rfl) sl26 (by omega) (by omega)) (own_off2 (by omega))) rfl ?_
            exact TW.nil
          refine J.store (.tmp rfl) (.tmp rfl) (.there (.there .here)) sz28 (row_set (by omega)) ?_
          refine J.nil (JQ.block_normal (JQ.then_normal (JC.region ?_)))
          refine J.o (ot_add (.tmp rfl) .is (w64 (by omega) (by omega))) rfl ?_
          refine J.m (.tmp rfl) rfl ?_
          refine J.nil ?_
          exact JQ.round (j + 1) (by omega) (by omega) (sub_trans (sub_heap (.drop (.keep (fun _ _ h => h) (.keep (fun _ _ h => by first | exact h | simpa using h) (.keep (fun _ _ h => h) (.keep (fun _ _ h => h) (.keep (fun _ _ h => h) .nil))))))) (sub_cons (.tmp rfl) (sub_cons (.tmp rfl) (sub_cons (.tmp rfl) (sub_cons (.tmp rfl) (sub_cons (.tmp rfl) (sub_cons (.tmp rfl) (sub_cons (.tmp rfl) (sub_cons (.tmp rfl) (sub_cons (.tmp rfl) (sub_cons (.tmp rfl) (sub_cons (.tmp rfl) (sub_cons (.tmp rfl) (sub_cons (.tmp rfl) (sub_cons (.tmp rfl) (sub_cons (.tmp rfl) (sub_cons (.eq (.tmp rfl) (by first | rfl | (congr 3; omega) | (congr 2; omega))) (sub_nil))))))))))))))))))
        · try simp only [bsx] at hc3
          have hs55 := hc3
          refine JC.exit (JQ.then_exit (JQ.then_exit (JQ.block_exit (JQ.block_normal (JQ.then_normal (JC.region ?_))))))
          refine J.o (ot_add (.tmp rfl) .is (w64 (by omega) (by omega))) rfl ?_
          refine J.m (.tmp rfl) rfl ?_
          refine J.nil ?_
          exact JQ.round (i + 1) (by omega) (by omega) (sub_trans (sub_heap (.drop (.keep (cRow_eq (by rw [convI, show j = (coefsP q (max (p.lv) (q.lv))).length by omega])) (.keep (fun _ _ h => h) (.keep (fun _ _ h => h) (.keep (fun _ _ h => h) .nil)))))) (sub_cons (.tmp rfl) (sub_cons (.tmp rfl) (sub_cons (.tmp rfl) (sub_cons (.tmp rfl) (sub_cons (.tmp rfl) (sub_cons (.tmp rfl) (sub_cons (.eq (.tmp rfl) (by first | rfl | (congr 3; omega) | (congr 2; omega))) (sub_nil)))))))))
      · try simp only [bsx] at hc2
        have hs48 := hc2
        have hin : i = (coefsP p (max (p.lv) (q.lv))).length := by omega
        have hce := conv_end (k := m) (by omega) nx ny (fun x hx => ⟨(a5 x hx).1, (a5 x hx).2.1⟩) (fun y hy => ⟨(a6 y hy).1, (a6 y hy).2.1⟩) hD.1 hD.2.1
        refine JC.exit (JQ.then_exit (JQ.then_exit (JQ.block_exit (JQ.then_normal (JC.seq ?_)))))
        refine JC.weak (sub_freeze0 (E := encP) (xs := convI (mulF m) (addF 4) (coefsP p (max (p.lv) (q.lv))) (coefsP q (max (p.lv) (q.lv))) i) (n := (coefsP p (max (p.lv) (q.lv))).length + (coefsP q (max (p.lv) (q.lv))).length - 1) (c := (coefsP p (max (p.lv) (q.lv))).length + (coefsP q (max (p.lv) (q.lv))).length - 1) [8] ⟨rfl, trivial⟩ .here (by rw [convI_len]) (by omega)) ?_
        refine JC.region ?_
        refine J.m (.tmp rfl) rfl ?_
        refine J.m (.tmp rfl) rfl ?_
        refine J.o (ot_call fn55 (join_c (max (p.lv) (q.lv)) (convI (mulF m) (addF 4) (coefsP p (max (p.lv) (q.lv))) (coefsP q (max (p.lv) (q.lv))) i) (by rw [convI_len]; omega) (fun z hz => Nat.le_trans ((hce z (hin ▸ hz)).1.fit hD.2.2 (Nat.lt_of_le_of_lt (hce z (hin ▸ hz)).2 npq)).c (by omega))) (.cons (.tmp rfl) (.cons (.tmp rfl) .nil))) rfl ?_
        refine J.store (.tmp rfl) (.eq (.tmp rfl) (tV_F (Ts := [tIs (.int .i64 ((joinP (max (p.lv) (q.lv)) (convI (mulF m) (addF 4) (coefsP p (max (p.lv) (q.lv))) (coefsP q (max (p.lv) (q.lv))) i)).lv)), tIs (.bool (((joinP (max (p.lv) (q.lv)) (convI (mulF m) (addF 4) (coefsP p (max (p.lv) (q.lv))) (coefsP q (max (p.lv) (q.lv))) i)).c).neg)), tSl encD (((joinP (max (p.lv) (q.lv)) (convI (mulF m) (addF 4) (coefsP p (max (p.lv) (q.lv))) (coefsP q (max (p.lv) (q.lv))) i)).c).abs), tSl encP ((joinP (max (p.lv) (q.lv)) (convI (mulF m) (addF 4) (coefsP p (max (p.lv) (q.lv))) (coefsP q (max (p.lv) (q.lv))) i)).cs)]) (polT_eq _))) .here sz28 (st_agg (Ts' := [tIs (.int .i64 ((joinP (max (p.lv) (q.lv)) (convI (mulF m) (addF 4) (coefsP p (max (p.lv) (q.lv))) (coefsP q (max (p.lv) (q.lv))) i)).lv)), tIs (.bool (((joinP (max (p.lv) (q.lv)) (convI (mulF m) (addF 4) (coefsP p (max (p.lv) (q.lv))) (coefsP q (max (p.lv) (q.lv))) i)).c).neg)), tSl encD (((joinP (max (p.lv) (q.lv)) (convI (mulF m) (addF 4) (coefsP p (max (p.lv) (q.lv))) (coefsP q (max (p.lv) (q.lv))) i)).c).abs), tSl encP ((joinP (max (p.lv) (q.lv)) (convI (mulF m) (addF 4) (coefsP p (max (p.lv) (q.lv))) (coefsP q (max (p.lv) (q.lv))) i)).cs)]) (o := 0) rfl) ?_
        refine J.nil (JQ.then_normal (JC.ret ?_))
        exact JQ.ret1 rfl (.agg (.tmp rfl) (.head _) ag28 (agg_eq (T := tV encP (joinP (max (p.lv) (q.lv)) (convI (mulF m) (addF 4) (coefsP p (max (p.lv) (q.lv))) (coefsP q (max (p.lv) (q.lv))) i))) (T' := tV encP (mulF k p q)) (by rw [hin, hm, mulF_join hs15 hs22]) (cTs_ldV (g := polT) (y := (joinP (max (p.lv) (q.lv)) (convI (mulF m) (addF 4) (coefsP p (max (p.lv) (q.lv))) (coefsP q (max (p.lv) (q.lv))) i))) (polT_eq (joinP (max (p.lv) (q.lv)) (convI (mulF m) (addF 4) (coefsP p (max (p.lv) (q.lv))) (coefsP q (max (p.lv) (q.lv))) i))).symm rfl)))

theorem rnormalG_c {B : Nat} (p : Pol) (hf : Fit B p) (np : nrm p < B32 ^ B) (hcn : cnt p ≤ 1000000000) (hb : B ≤ 1000000000) : Ctr Try.prog 29 [tV encP (p)] (tV encP (normN p)) := by
  induction p using Pol.ind
  rename_i p ih
  have hc := hf.c
  have hcs := hf.cs
  have hpc := cnt_eq p
  have hcl := cntL_len p.cs
  refine Ctr.of Try.func29 rfl Try.ntmps29 (Nat.le_of_ble_eq_true rfl) fun w0 M0 => ?_
  refine JC.seq (JC.region ?_)
  refine J.boxF (Ts := [tIs (.int .i64 (p.lv)), tIs (.bool (p.c.neg)), tSl encD (p.c.abs), tSl encP (p.cs)]) (.tmp rfl) (polT_eq _) (ltN rfl) fun b1 => ?_
  refine J.alloc (R := cTs [tIs (.int .i64 (0)), tIs (.bool (false)), tSl encD ([]), tSl encP ([])]) zr28 (fun _ => ⟨rfl, rfl, rfl, rfl, slP_nil _ _, rfl, slP_nil _ _, rfl, trivial⟩) (ltN rfl) fun b2 => ?_
  refine J.nil (JQ.then_normal (JC.seq (JC.seq (JC.region ?_))))
  refine J.o (ot_fieldAddr_own (.tmp rfl) fd28_0) rfl ?_
  refine J.o (ot_load_own (.tmp rfl) (.tail _ (.head _)) sc3 (cTs_ld rfl)) rfl ?_
  refine J.o (ot_leq (.tmp rfl) .is) rfl ?_
  refine J.nil (JQ.then_normal ?_)
  refine JC.cond (.tmp rfl) (fun hc0 => ?_) (fun hc0 => ?_)
  · try simp only [bsx] at hc0
    have hs8 := hc0
    refine JC.seq (JC.region ?_)
    refine J.o (ot_fieldAddr_own (.tmp rfl) fd28_1) rfl ?_
    refine J.o (ot_load_own_agg (.tmp rfl) (.tail _ (.head _)) ag25 (cTs_ldV (g := zT) (y := p.c) rfl rfl)) rfl ?_
    refine J.o (ot_call fn43 (intNormal_c p.c (by omega)) (.cons (.tmp rfl) .nil)) rfl ?_
    refine J.o (ot_eqt (T' := tV encP (Pol.mk (0) (ofI (zval p.c)) ([]))) (ot_build (Ts := [tIs (.int .i64 (0)), tIs (.bool (false)), tSl encD ([]), tSl encP ([])]) pl28 (fun _ => ⟨rfl, rfl, rfl, rfl, slP_nil _ _, rfl, slP_nil _ _, rfl, trivial⟩) ((.agg (off := 1) rfl (.eq (.tmp rfl) (tV_F (Ts := [tIs (.bool ((ofI (zval p.c)).neg)), tSl encD ((ofI (zval p.c)).abs)]) rfl)) (Ts' := [tIs (.int .i64 (0)), tIs (.bool ((ofI (zval p.c)).neg)), tSl encD ((ofI (zval p.c)).abs), tSl encP ([])]) rfl rfl .nil)) rfl) (tV_F' (polT_eq _))) rfl ?_
    refine J.store (.tmp rfl) (.eq (.tmp rfl) (tV_F (Ts := [tIs (.int .i64 (0)), tIs (.bool ((ofI (zval p.c)).neg)), tSl encD ((ofI (zval p.c)).abs), tSl encP ([])]) (polT_eq _))) .here sz28 (st_agg (Ts' := [tIs (.int .i64 (0)), tIs (.bool ((ofI (zval p.c)).neg)), tSl encD ((ofI (zval p.c)).abs), tSl encP ([])]) (o := 0) rfl) ?_
    refine J.nil (JQ.then_normal (JC.ret (JQ.then_ret ?_)))
    exact JQ.ret1 rfl (.agg (.tmp rfl) (.head _) ag28 (agg_eq (T := tV encP (Pol.mk (0) (ofI (zval p.c)) ([]))) (T' := tV encP (normN p)) (by rw [normN_eq, if_pos hc0]; rfl) (cTs_ldV (g := polT) (y := (Pol.mk (0) (ofI (zval p.c)) ([]))) (polT_eq (Pol.mk (0) (ofI (zval p.c)) ([]))).symm rfl)))
  · try simp only [bsx] at hc0
    have hs8 := hc0
    refine JC.skip (JQ.then_normal (JC.seq (JC.seq (JC.region ?_))))
    refine J.o (ot_fieldAddr_own (.tmp rfl) fd28_0) rfl ?_
    refine J.o (ot_load_own (.tmp rfl) (.tail _ (.head _)) sc3 (cTs_ld rfl)) rfl ?_
    refine J.o (ot_gtr (.tmp rfl) .is) rfl ?_
    refine J.nil (JQ.then_normal ?_)
    refine JC.cond (.tmp rfl) (fun hc1 => ?_) (fun hc1 => ?_)
    · try simp only [bsx] at hc1
      have hs15 := hc1
      refine JC.seq (JC.region ?_)
      refine J.o (ot_eqt (T' := tV encP (Pol.mk (0) (Z.mk (false) ([])) ([]))) (ot_build (Ts := [tIs (.int .i64 (0)), tIs (.bool (false)), tSl encD ([]), tSl encP ([])]) pl28 (fun _ => ⟨rfl, rfl, rfl, rfl, slP_nil _ _, rfl, slP_nil _ _, rfl, trivial⟩) (.nil) rfl) (tV_F' (polT_eq _))) rfl ?_
      refine J.store (.tmp rfl) (.eq (.tmp rfl) (tV_F (Ts := [tIs (.int .i64 (0)), tIs (.bool (false)), tSl encD ([]), tSl encP ([])]) (polT_eq _))) .here sz28 (st_agg (Ts' := [tIs (.int .i64 (0)), tIs (.bool (false)), tSl encD ([]), tSl encP ([])]) (o := 0) rfl) ?_
      refine J.nil (JQ.then_normal (JC.ret (JQ.then_ret ?_)))
      exact JQ.ret1 rfl (.agg (.tmp rfl) (.head _) ag28 (agg_eq (T := tV encP (Pol.mk (0) (Z.mk (false) ([])) ([]))) (T' := tV encP (normN p)) (by rw [normN_eq, if_neg hc0, if_pos hc1]; rfl) (cTs_ldV (g := polT) (y := (Pol.mk (0) (Z.mk (false) ([])) ([]))) (polT_eq (Pol.mk (0) (Z.mk (false) ([])) ([]))).symm rfl)))
    · try simp only [bsx] at hc1
      have hs15 := hc1
      refine JC.skip (JQ.then_normal (JC.seq (JC.seq (JC.region ?_))))
      refine J.o (ot_load_own_agg (.tmp rfl) (.tail _ (.head _)) ag28 (cTs_ldV (g := polT) (y := p) (polT_eq p).symm rfl)) rfl ?_
      refine J.o (ot_call fn44 (canonical_c p 5 hf (by omega)) (.cons (.tmp rfl) (.cons .is .nil))) rfl ?_
      refine J.nil (JQ.then_normal ?_)
      refine JC.cond (.tmp rfl) (fun hc2 => ?_) (fun hc2 => ?_)
      · try simp only [bsx] at hc2
        have hs18 := hc2
        refine JC.seq (JC.region ?_)
        refine J.o (ot_load_own_agg (.tmp rfl) (.tail _ (.head _)) ag28 (cTs_ldV (g := polT) (y := p) (polT_eq p).symm rfl)) rfl ?_
        refine J.o (ot_call fn45 (copied_c p hf (by omega)) (.cons (.tmp rfl) .nil)) rfl ?_
        refine J.store (.tmp rfl) (.eq (.tmp rfl) (tV_F (Ts := [tIs (.int .i64 ((scaleP p 1).lv)), tIs (.bool (((scaleP p 1).c).neg)), tSl encD (((scaleP p 1).c).abs), tSl encP ((scaleP p 1).cs)]) (polT_eq _))) .here sz28 (st_agg (Ts' := [tIs (.int .i64 ((scaleP p 1).lv)), tIs (.bool (((scaleP p 1).c).neg)), tSl encD (((scaleP p 1).c).abs), tSl encP ((scaleP p 1).cs)]) (o := 0) rfl) ?_
        refine J.nil (JQ.then_normal (JC.ret (JQ.then_ret ?_)))
        exact JQ.ret1 rfl (.agg (.tmp rfl) (.head _) ag28 (agg_eq (T := tV encP (scaleP p 1)) (T' := tV encP (normN p)) (by rw [normN_eq, if_neg hc0, if_neg hc1, if_pos hs18]) (cTs_ldV (g := polT) (y := (scaleP p 1)) (polT_eq (scaleP p 1)).symm rfl)))
      · try simp only [bsx] at hc2
        have hs18 := hc2
        refine JC.skip (JQ.then_normal (JC.seq (JC.region ?_)))
        refine J.o (ot_eqt (T' := tV encP (Pol.mk (0) (Z.mk (false) ([])) ([]))) (ot_build (Ts := [tIs (.int .i64 (0)), tIs (.bool (false)), tSl encD ([]), tSl encP ([])]) pl28 (fun _ => ⟨rfl, rfl, rfl, rfl, slP_nil _ _, rfl, slP_nil _ _, rfl, trivial⟩) (.nil) rfl) (tV_F' (polT_eq _))) rfl ?_
        refine J.o (ot_fieldAddr_own (.tmp rfl) fd28_0) rfl ?_
        refine J.o (ot_load_own (.tmp rfl) (.tail _ (.head _)) sc3 (cTs_ld rfl)) rfl ?_
        refine J.o (ot_call fn19 (var_c p.lv ) (.cons (.tmp rfl) .nil)) rfl ?_
        refine J.alloc (R := cTs [tIs (.int .i64 (0)), tIs (.bool (false)), tSl encD ([]), tSl encP ([])]) zr28 (fun _ => ⟨rfl, rfl, rfl, rfl, slP_nil _ _, rfl, slP_nil _ _, rfl, trivial⟩) (ltN rfl) fun b3 => ?_
        refine J.alloc (R := cTs [tIs (.int .i64 (0)), tIs (.bool (false)), tSl encD ([]), tSl encP ([])]) zr28 (fun _ => ⟨rfl, rfl, rfl, rfl, slP_nil _ _, rfl, slP_nil _ _, rfl, trivial⟩) (ltN rfl) fun b4 => ?_
        refine J.store (.tmp rfl) (.eq (.tmp rfl) (tV_F (Ts := [tIs (.int .i64 (0)), tIs (.bool (false)), tSl encD ([]), tSl encP ([])]) (polT_eq _))) (.there .here) sz28 (st_agg (Ts' := [tIs (.int .i64 (0)), tIs (.bool (false)), tSl encD ([]), tSl encP ([])]) (o := 0) rfl) ?_
        refine J.store (.tmp rfl) (.eq (.tmp rfl) (tV_F (Ts := [tIs (.int .i64 ((varP p.lv).lv)), tIs (.bool (((varP p.lv).c).neg)), tSl encD (((varP p.lv).c).abs), tSl encP ((varP p.lv).cs)]) (polT_eq _))) .here sz28 (st_agg (Ts' := [tIs (.int .i64 ((varP p.lv).lv)), tIs (.bool (((varP p.lv).c).neg)), tSl encD (((varP p.lv).c).abs), tSl encP ((varP p.lv).cs)]) (o := 0) rfl) ?_
        refine J.nil (JQ.then_normal (JC.seq (JC.seq (JC.region ?_))))
        refine J.o (ot_fieldAddr_own (.tmp rfl) fd28_2) rfl ?_
        refine J.o (ot_load_own (.tmp rfl) (.tail _ (.tail _ (.tail _ (.head _)))) sc26 (cTs_ld rfl)) rfl ?_
        refine J.o (ot_len (.tmp rfl) sl26 rfl) rfl ?_
        refine J.o (ot_sub (.tmp rfl) .is (w64 (by omega) (by omega))) rfl ?_
        refine J.a (.tmp rfl) rfl ?_
        refine J.nil (JQ.then_normal (JC.block ?_))
        refine JC.loop (ι := Nat) (fun k => [(1, pOwn b1 (0)), (2, pOwn b2 (0)), (3, pOwn b3 (0)), (4, pOwn b4 (0)), (5, tIs (.int .i64 (((k : Nat) : Int) - 1)))]) (fun k => [⟨b4, 28, cTs [tIs (.int .i64 ((varP p.lv).lv)), tIs (.bool (((varP p.lv).c).neg)), tSl encD (((varP p.lv).c).abs), tSl encP ((varP p.lv).cs)]⟩, ⟨b3, 28, cTs [tIs (.int .i64 ((hornN (varP p.lv) (p.cs.drop k)).lv)), tIs (.bool (((hornN (varP p.lv) (p.cs.drop k)).c).neg)), tSl encD (((hornN (varP p.lv) (p.cs.drop k)).c).abs), tSl encP ((hornN (varP p.lv) (p.cs.drop k)).cs)]⟩, ⟨b2, 28, cTs [tIs (.int .i64 (0)), tIs (.bool (false)), tSl encD ([]), tSl encP ([])]⟩, ⟨b1, 28, cTs [tIs (.int .i64 (p.lv)), tIs (.bool (p.c.neg)), tSl encD (p.c.abs), tSl encP (p.cs)]⟩]) (fun k => k ≤ p.cs.length) (fun k => k) p.cs.length (by omega) ?lsub0 ?round0
        case lsub0 => exact sub_trans (sub_heap (.keep (fun _ _ h => h) (.keep (fun _ _ h => by rw [List.drop_length]; exact h) (.keep (fun _ _ h => h) (.keep (fun _ _ h => h) .nil))))) (sub_cons (.tmp rfl) (sub_cons (.tmp rfl) (sub_cons (.tmp rfl) (sub_cons (.tmp rfl) (sub_cons (.eq (.tmp rfl) (by first | rfl | (congr 3; omega) | (congr 2; omega))) (sub_nil))))))
        intro k hinv
        obtain ⟨e1, e2, e3⟩ := horn_facts p hinv
        have v1 := nrm_var p.lv
        refine JC.seq (JC.seq (JC.region ?_))
        refine J.m (.tmp rfl) rfl ?_
        refine J.o (ot_geq (.tmp rfl) .is) rfl ?_
        refine J.nil (JQ.then_normal ?_)
        refine JC.cond (.tmp rfl) (fun hc3 => ?_) (fun hc3 => ?_)
        · try simp only [bsx] at hc3
          have hs30 := hc3
          have hm := atP_mem (cs := p.cs) (i := k - 1) (by omega)
          have hcm := cntL_mem hm
          have hnm := nrmL_sub hm
          have hnN := nrm_norm (atP p.cs (k - 1))
          refine JC.skip (JQ.then_normal (JC.seq (JC.block ?_)))
          refine JC.drawAt (Γ' := ?g1) 10 mo (by kernel_rfl) ?tw1 ?k1
          case tw1 =>
            refine TW.o (ot_load_own_agg (.tmp rfl) (.tail _ (.head _)) ag28 (cTs_ldV (g := polT) (y := (hornN (varP p.lv) (p.cs.drop k))) (polT_eq (hornN (varP p.lv) (p.cs.drop k))).symm rfl)) rfl ?_
            refine TW.o (ot_load_own_agg (.tmp rfl) (.head _) ag28 (cTs_ldV (g := polT) (y := (varP p.lv)) (polT_eq (varP p.lv)).symm rfl)) rfl ?_
            refine TW.o (ot_call fn47 (rmul_c 4 (hornN (varP p.lv) (p.cs.drop k)) (varP p.lv) e1 (lev_var _) e2 (sz_var _) (Nat.le_refl _) ⟨by omega, by decide, by omega⟩ (Nat.lt_of_le_of_lt e3 np) (show nrm (varP p.lv) < B32 ^ 1 by simp [B32]; omega) (by omega)) (.cons (.tmp rfl) (.cons (.tmp rfl) .nil))) rfl ?_
            refine TW.o (ot_fieldAddr_own (.tmp rfl) fd28_2) rfl ?_
            refine TW.o (ot_load_own (.tmp rfl) (.tail _ (.tail _ (.tail _ (.head _)))) sc26 (cTs_ld rfl)) rfl ?_
            refine TW.m (.tmp rfl) rfl ?_
            refine TW.o (ot_index (z := atP p.cs (k - 1)) (.tmp rfl) (.tmp rfl) sl26 (by omega) (atP_at (by omega) (by omega))) rfl ?_
            refine TW.o (ot_load_agg (.tmp rfl) ag28 ldp_whole) rfl ?_
            refine TW.o (ot_call fn29 (ih (atP p.cs (k - 1)) hm (hf.sub _ hm) (Nat.lt_of_le_of_lt hnm np) (by omega)) (.cons (.tmp rfl) .nil)) rfl ?_
            refine TW.o (ot_call fn46 (add_c 4 (mulF 4 (hornN (varP p.lv) (p.cs.drop k)) (varP p.lv)) (normN (atP p.cs (k - 1))) (Lev.mul 4 4 (Nat.le_refl _) (Nat.le_refl _) e1 (lev_var _)) (lev_norm _) ((Sz.mul (by omega) (by decide) 4 e2 (sz_var _)).fit (by omega) (mul_fitN (C := 1) (Nat.lt_of_le_of_lt e3 np) (show nrm (varP p.lv) < B32 ^ 1 by simp [B32]; omega) |> Nat.lt_of_le_of_lt (nrm_mul _ _ _))) ((sz_norm _).fit (by omega) (Nat.lt_of_lt_of_le (Nat.lt_of_le_of_lt (Nat.le_trans hnN hnm) np) (pow_mono (Nat.le_succ B)))) (by omega)) (.cons (.tmp rfl) (.cons (.tmp rfl) .nil))) rfl ?_
            exact TW.nil
          refine J.store (.tmp rfl) (.eq (.tmp rfl) (tV_F (Ts := [tIs (.int .i64 ((addF 4 (mulF 4 (hornN (varP p.lv) (p.cs.drop k)) (varP p.lv)) (normN (atP p.cs (k - 1)))).lv)), tIs (.bool (((addF 4 (mulF 4 (hornN (varP p.lv) (p.cs.drop k)) (varP p.lv)) (normN (atP p.cs (k - 1)))).c).neg)), tSl encD (((addF 4 (mulF 4 (hornN (varP p.lv) (p.cs.drop k)) (varP p.lv)) (normN (atP p.cs (k - 1)))).c).abs), tSl encP ((addF 4 (mulF 4 (hornN (varP p.lv) (p.cs.drop k)) (varP p.lv)) (normN (atP p.cs (k - 1)))).cs)]) (polT_eq _))) (.there .here) sz28 (st_agg (Ts' := [tIs (.int .i64 ((addF 4 (mulF 4 (hornN (varP p.lv) (p.cs.drop k)) (varP p.lv)) (normN (atP p.cs (k - 1)))).lv)), tIs (.bool (((addF 4 (mulF 4 (hornN (varP p.lv) (p.cs.drop k)) (varP p.lv)) (normN (atP p.cs (k - 1)))).c).neg)), tSl encD (((addF 4 (mulF 4 (hornN (varP p.lv) (p.cs.drop k)) (varP p.lv)) (normN (atP p.cs (k - 1)))).c).abs), tSl encP ((addF 4 (mulF 4 (hornN (varP p.lv) (p.cs.drop k)) (varP p.lv)) (normN (atP p.cs (k - 1)))).cs)]) (o := 0) rfl) ?_
          refine J.nil (JQ.block_normal (JQ.then_normal (JC.region ?_)))
          refine J.m (.tmp rfl) rfl ?_
          refine J.o (ot_sub (.tmp rfl) .is (w64 (by omega) (by omega))) rfl ?_
          refine J.a (.tmp rfl) rfl ?_
          refine J.nil ?_
          exact JQ.round (k - 1) (by omega) (by omega) (sub_trans (sub_heap (.keep (fun _ _ h => h) (.keep (fun _ _ h => by rw [← hornN_drop (by omega) hinv]; exact h) (.keep (fun _ _ h => h) (.keep (fun _ _ h => h) .nil))))) (sub_cons (.tmp rfl) (sub_cons (.tmp rfl) (sub_cons (.tmp rfl) (sub_cons (.tmp rfl) (sub_cons (.eq (.tmp rfl) (by first | rfl | (congr 3; omega) | (congr 2; omega))) (sub_nil)))))))
        · try simp only [bsx] at hc3
          have hs30 := hc3
          refine JC.exit (JQ.then_exit (JQ.then_exit (JQ.block_exit (JQ.then_normal (JC.seq (JC.region ?_))))))
          refine J.o (ot_load_own_agg (.tmp rfl) (.tail _ (.head _)) ag28 (cTs_ldV (g := polT) (y := (hornN (varP p.lv) (p.cs.drop k))) (polT_eq (hornN (varP p.lv) (p.cs.drop k))).symm rfl)) rfl ?_
          refine J.store (.tmp rfl) (.eq (.tmp rfl) (tV_F (Ts := [tIs (.int .i64 ((hornN (varP p.lv) (p.cs.drop k)).lv)), tIs (.bool (((hornN (varP p.lv) (p.cs.drop k)).c).neg)), tSl encD (((hornN (varP p.lv) (p.cs.drop k)).c).abs), tSl encP ((hornN (varP p.lv) (p.cs.drop k)).cs)]) (polT_eq _))) (.there (.there .here)) sz28 (st_agg (Ts' := [tIs (.int .i64 ((hornN (varP p.lv) (p.cs.drop k)).lv)), tIs (.bool (((hornN (varP p.lv) (p.cs.drop k)).c).neg)), tSl encD (((hornN (varP p.lv) (p.cs.drop k)).c).abs), tSl encP ((hornN (varP p.lv) (p.cs.drop k)).cs)]) (o := 0) rfl) ?_
          refine J.nil (JQ.then_normal (JC.ret ?_))
          exact JQ.ret1 rfl (.agg (.tmp rfl) (.tail _ (.tail _ (.head _))) ag28 (agg_eq (T := tV encP (hornN (varP p.lv) (p.cs.drop k))) (T' := tV encP (normN p)) (by rw [normN_eq, if_neg hc0, if_neg hc1, if_neg (by simpa using hs18), show k = 0 by omega, List.drop_zero]) (cTs_ldV (g := polT) (y := (hornN (varP p.lv) (p.cs.drop k))) (polT_eq (hornN (varP p.lv) (p.cs.drop k))).symm rfl)))

theorem swap_c (b c p q n : Nat) (xs : List Tm) (h : p + n ≤ q ∧ q + n ≤ xs.length) (hl : xs.length ≤ 4294967296) : CtrL Try.prog 93 [sIs b 0 (xs.length) (c), tIs (.int .i64 (((p : Nat) : Int))), tIs (.int .i64 (((q : Nat) : Int))), tIs (.int .i64 (((n : Nat) : Int))), tFn 59 []] b 63 (cRow encTm (xs) (c)) (cRow encTm (swR p q n xs) (c)) (tAny) := by
  refine CtrL.of Try.func93 rfl Try.ntmps93 (Nat.le_of_ble_eq_true rfl) fun w0 M0 => ?_
  refine JC.seq (JC.region ?_)
  refine J.a .is rfl ?_
  refine J.nil (JQ.then_normal (JC.block ?_))
  refine JC.loop (ι := Nat) (fun i => [(0, sIs b 0 (xs.length) (c)), (1, tIs (.int .i64 (((p : Nat) : Int)))), (2, tIs (.int .i64 (((q : Nat) : Int)))), (3, tIs (.int .i64 (((n : Nat) : Int)))), (10, tIs (.int .i64 (((i : Nat) : Int))))]) (fun i => [⟨b, 63, cRow encTm (swR p q i xs) (c)⟩]) (fun i => i ≤ n) (fun i => n - i) 0 (by omega) ?lsub0 ?round0
  case lsub0 => exact sub_trans (sub_heap (.keep (fun _ _ h => by first | exact h | simpa using h) .nil)) (sub_cons (.tmp rfl) (sub_cons (.tmp rfl) (sub_cons (.tmp rfl) (sub_cons (.tmp rfl) (sub_cons (.eq (.tmp rfl) (by rfl)) (sub_nil))))))
  intro i hinv
  have hwl := swR_len p q i xs
  refine JC.seq (JC.seq (JC.region ?_))
  refine J.m (.tmp rfl) rfl ?_
  refine J.m (.tmp rfl) rfl ?_
  refine J.o (ot_lss (.tmp rfl) (.tmp rfl)) rfl ?_
  refine J.nil (JQ.then_normal ?_)
  refine JC.cond (.tmp rfl) (fun hc0 => ?_) (fun hc0 => ?_)
  · try simp only [bsx] at hc0
    have hs13 := hc0
    refine JC.skip (JQ.then_normal (JC.seq (JC.block ?_)))
    refine JC.drawF (Γ' := ?g1) (Γf := ?f1) (L' := ?l1) 21 [4, 5, 6, 7] mo (by kernel_rfl) (by kernel_rfl) (fun _ _ _ _ _ h => h) ?fl1 ?tk1 ?tw1 ?ag1 ?k1
    case fl1 =>
      refine FL.cons (i := 4) rfl rfl (ltN rfl) rfl (opv_move rfl) (by kernel_rfl) (by kernel_rfl) ?_
      refine FL.cons (i := 5) rfl rfl (ltN rfl) rfl (opv_move rfl) (by kernel_rfl) (by kernel_rfl) ?_
      refine FL.cons (i := 6) rfl rfl (ltN rfl) rfl (opv_move rfl) (by kernel_rfl) (by kernel_rfl) ?_
      refine FL.cons (i := 7) rfl rfl (ltN rfl) rfl (opv_add rfl rfl (w64 (by omega) (by omega))) (by kernel_rfl) (by kernel_rfl) ?_
      exact FL.nil
    case tk1 => kernel_rfl
    case tw1 =>
      refine TW.m (.tmp rfl) rfl ?_
      refine TW.m (.tmp rfl) rfl ?_
      refine TW.m (.tmp rfl) rfl ?_
      refine TW.o (ot_add (.tmp rfl) (.tmp rfl) (w64 (by omega) (by omega))) rfl ?_
      refine TW.m (.tmp rfl) rfl ?_
      refine TW.m (.tmp rfl) rfl ?_
      refine TW.m (.tmp rfl) rfl ?_
      refine TW.o (ot_add (.tmp rfl) (.tmp rfl) (w64 (by omega) (by omega))) rfl ?_
      refine TW.m (.tmp rfl) rfl ?_
      refine TW.m (.tmp rfl) rfl ?_
      refine TW.m (.tmp rfl) rfl ?_
      refine TW.o (ot_add (.tmp rfl) (.tmp rfl) (w64 (by omega) (by omega))) rfl ?_
      refine TW.o (ot_eqt (T' := pOwn b (0 + (q + i) * 6)) (ot_index_own (.tmp rfl) (.tmp rfl) sl64 (by omega) (by omega)) (own_off2 (by omega))) rfl ?_
      refine TW.o (ot_load_own_agg (.tmp rfl) (.head _) ag63 (row_agg rfl (atT_some (by omega)))) rfl ?_
      refine TW.m (.tmp rfl) rfl ?_
      refine TW.m (.tmp rfl) rfl ?_
      refine TW.m (.tmp rfl) rfl ?_
      refine TW.o (ot_add (.tmp rfl) (.tmp rfl) (w64 (by omega) (by omega))) rfl ?_
      refine TW.o (ot_eqt (T' := pOwn b (0 + (p + i) * 6)) (ot_index_own (.tmp rfl) (.tmp rfl) sl64 (by omega) (by omega)) (own_off2 (by omega))) rfl ?_
      refine TW.o (ot_load_own_agg (.tmp rfl) (.head _) ag63 (row_agg rfl (atT_some (by omega)))) rfl ?_
      refine TW.o (ot_eqt (T' := pOwn b (0 + (p + i) * 6)) (ot_index_own (.tmp rfl) (.tmp rfl) sl64 (by omega) (by omega)) (own_off2 (by omega))) rfl ?_
      exact TW.nil
    case ag1 => exact ⟨⟨_, rfl, rfl⟩, ⟨_, rfl, rfl⟩, ⟨_, rfl, rfl⟩, ⟨_, rfl, rfl⟩, trivial⟩
    refine J.store (.tmp rfl) (.tmp rfl) .here sz63 (row_set (by omega)) ?_
    refine J.o (ot_eqt (T' := pOwn b (0 + (q + i) * 6)) (ot_index_own (.tmp rfl) (.tmp rfl) sl64 (by omega) (by omega)) (own_off2 (by omega))) rfl ?_
    refine J.store (.tmp rfl) (.tmp rfl) .here sz63 (row_set (by simp; omega)) ?_
    refine J.nil (JQ.block_normal (JQ.then_normal (JC.region ?_)))
    refine J.m (.tmp rfl) rfl ?_
    refine J.o (ot_add (.tmp rfl) .is (w64 (by omega) (by omega))) rfl ?_
    refine J.a (.tmp rfl) rfl ?_
    refine J.nil ?_
    exact JQ.round (i + 1) (by omega) (by omega) (sub_trans (sub_heap (.keep (fun _ _ h => h) .nil)) (sub_cons (.tmp rfl) (sub_cons (.tmp rfl) (sub_cons (.tmp rfl) (sub_cons (.tmp rfl) (sub_cons (.eq (.tmp rfl) (by first | rfl | (congr 3; omega) | (congr 2; omega))) (sub_nil)))))))
  · try simp only [bsx] at hc0
    have hs13 := hc0
    refine JC.exit (JQ.then_exit (JQ.then_exit (JQ.block_exit ?_)))
    exact (JQ.retL0 rfl (.head _) (cRow_eq (by rw [show i = n by omega]))).2

theorem rotate_c (b c lo md hi : Nat) (xs : List Tm) (h : lo < md ∧ md < hi ∧ hi ≤ xs.length) (hl : xs.length ≤ 4294967296) : CtrL Try.prog 89 [sIs b 0 (xs.length) (c), tIs (.int .i64 (((lo : Nat) : Int))), tIs (.int .i64 (((md : Nat) : Int))), tIs (.int .i64 (((hi : Nat) : Int))), tFn 59 []] b 63 (cRow encTm (xs) (c)) (cRow encTm (rotT md lo hi xs) (c)) (tAny) := by
  refine CtrL.of Try.func89 rfl Try.ntmps89 (Nat.le_of_ble_eq_true rfl) fun w0 M0 => ?_
  refine JC.seq (JC.region ?_)
  refine J.m (.tmp rfl) rfl ?_
  refine J.m (.tmp rfl) rfl ?_
  refine J.o (ot_sub (.tmp rfl) (.tmp rfl) (w64 (by omega) (by omega))) rfl ?_
  refine J.a (.tmp rfl) rfl ?_
  refine J.nil (JQ.then_normal (JC.seq (JC.region ?_)))
  refine J.m (.tmp rfl) rfl ?_
  refine J.m (.tmp rfl) rfl ?_
  refine J.o (ot_sub (.tmp rfl) (.tmp rfl) (w64 (by omega) (by omega))) rfl ?_
  refine J.a (.tmp rfl) rfl ?_
  refine J.nil (JQ.then_normal (JC.seq (JC.block ?_)))
  refine JC.loop4 (α := Nat) (β := Nat) (γ := Nat) (δ := List Tm) (fun i j f ys => [(0, sIs b 0 (xs.length) (c)), (2, tIs (.int .i64 (((md : Nat) : Int)))), (4, tFn 59 []), (10, tIs (.int .i64 (((i : Nat) : Int)))), (11, tIs (.int .i64 (((j : Nat) : Int))))]) (fun i j f ys => [⟨b, 63, cRow encTm (ys) (c)⟩]) (fun i j f ys => 0 < i ∧ 0 < j ∧ i ≤ md - lo ∧ j ≤ hi - md ∧ i + j ≤ f ∧ ys.length = xs.length ∧ rotF f md i j ys = rotT md lo hi xs) (fun i j f ys => i + j) (md - lo) (hi - md) (hi - lo) xs ⟨by omega, by omega, by omega, by omega, by omega, rfl, rfl⟩ ?lsub0 ?round0
  case lsub0 => exact sub_trans (sub_heap (.keep (fun _ _ h => h) .nil)) (sub_cons (.tmp rfl) (sub_cons (.tmp rfl) (sub_cons (.tmp rfl) (sub_cons (.eq (.tmp rfl) (by congr 2; omega)) (sub_cons (.eq (.tmp rfl) (by congr 2; omega)) (sub_nil))))))
  intro i j f ys hinv
  obtain ⟨hi0, hj0, hi1, hj1, hf, hys, hv⟩ := hinv
  refine JC.seq (JC.seq (JC.region ?_))
  refine J.m (.tmp rfl) rfl ?_
  refine J.m (.tmp rfl) rfl ?_
  refine J.o (ot_neq (.tmp rfl) (.tmp rfl)) rfl ?_
  refine J.nil (JQ.then_normal ?_)
  refine JC.cond (.tmp rfl) (fun hc0 => ?_) (fun hc0 => ?_)
  · try simp only [bsx] at hc0
    have hs20 := hc0
    refine JC.skip (JQ.then_normal (JC.block (JC.seq (JC.region ?_))))
    refine J.m (.tmp rfl) rfl ?_
    refine J.m (.tmp rfl) rfl ?_
    refine J.o (ot_gtr (.tmp rfl) (.tmp rfl)) rfl ?_
    refine J.nil (JQ.then_normal ?_)
    refine JC.cond (.tmp rfl) (fun hc1 => ?_) (fun hc1 => ?_)
    · try simp only [bsx] at hc1
      have hs23 := hc1
      refine JC.seq (JC.region ?_)
      refine J.m (.tmp rfl) rfl ?_
      refine J.m (.tmp rfl) rfl ?_
      refine J.m (.tmp rfl) rfl ?_
      refine J.o (ot_sub (.tmp rfl) (.tmp rfl) (w64 (by omega) (by omega))) rfl ?_
      refine J.m (.tmp rfl) rfl ?_
      refine J.m (.tmp rfl) rfl ?_
      refine J.m (.tmp rfl) rfl ?_
      refine J.callL (R' := cRow encTm (swR (md - i) md j ys) (c)) (Us := []) (cap := []) fn93 (.func (fun _ => rfl)) (swap_c b c (md - i) md j ys (by omega) (by omega)) (.cons (.eq (.tmp rfl) (by rw [hys])) (.cons (.eq (.tmp rfl) (by congr 2; omega)) (.cons (.tmp rfl) (.cons (.tmp rfl) (.cons (.tmp rfl) .nil))))) (fun _ => trivial) .here (ltN rfl) ?_
      refine J.nil (JQ.then_normal (JC.region ?_))
      refine J.m (.tmp rfl) rfl ?_
      refine J.m (.tmp rfl) rfl ?_
      refine J.o (ot_sub (.tmp rfl) (.tmp rfl) (w64 (by omega) (by omega))) rfl ?_
      refine J.a (.tmp rfl) rfl ?_
      refine J.nil (JQ.block_normal ?_)
      exact JQ.round4 (i := i) (i2 := j) (i3 := f) (i4 := ys) (i - j) j (f - 1) (swR (md - i) md j ys) ⟨by omega, hj0, by omega, hj1, by omega, by rw [swR_len]; exact hys, by rw [← hv]; exact rotF_gt hf hj0 (by omega)⟩ (by omega) (sub_trans (sub_heap (.keep (fun _ _ h => by first | exact h | simpa using h) .nil)) (sub_cons (.tmp rfl) (sub_cons (.tmp rfl) (sub_cons (.tmp rfl) (sub_cons (.eq (.tmp rfl) (by congr 2; omega)) (sub_cons (.tmp rfl) (sub_nil)))))))
    · try simp only [bsx] at hc1
      have hs23 := hc1
      refine JC.seq (JC.region ?_)
      refine J.m (.tmp rfl) rfl ?_
      refine J.m (.tmp rfl) rfl ?_
      refine J.m (.tmp rfl) rfl ?_
      refine J.o (ot_sub (.tmp rfl) (.tmp rfl) (w64 (by omega) (by omega))) rfl ?_
      refine J.m (.tmp rfl) rfl ?_
      refine J.m (.tmp rfl) rfl ?_
      refine J.o (ot_add (.tmp rfl) (.tmp rfl) (w64 (by omega) (by omega))) rfl ?_
      refine J.m (.tmp rfl) rfl ?_
      refine J.o (ot_sub (.tmp rfl) (.tmp rfl) (w64 (by omega) (by omega))) rfl ?_
      refine J.m (.tmp rfl) rfl ?_
      refine J.m (.tmp rfl) rfl ?_
      refine J.callL (R' := cRow encTm (swR (md - i) (md + j - i) i ys) (c)) (Us := []) (cap := []) fn93 (.func (fun _ => rfl)) (swap_c b c (md - i) (md + j - i) i ys (by omega) (by omega)) (.cons (.eq (.tmp rfl) (by rw [hys])) (.cons (.eq (.tmp rfl) (by congr 2; omega)) (.cons (.eq (.tmp rfl) (by congr 2; omega)) (.cons (.tmp rfl) (.cons (.tmp rfl) .nil))))) (fun _ => trivial) .here (ltN rfl) ?_
      refine J.nil (JQ.then_normal (JC.region ?_))
      refine J.m (.tmp rfl) rfl ?_
      refine J.m (.tmp rfl) rfl ?_
      refine J.o (ot_sub (.tmp rfl) (.tmp rfl) (w64 (by omega) (by omega))) rfl ?_
      refine J.a (.tmp rfl) rfl ?_
      refine J.nil (JQ.block_normal ?_)
      exact JQ.round4 (i := i) (i2 := j) (i3 := f) (i4 := ys) i (j - i) (f - 1) (swR (md - i) (md + j - i) i ys) ⟨hi0, by omega, hi1, by omega, by omega, by rw [swR_len]; exact hys, by rw [← hv]; exact rotF_lt hf hi0 (by omega)⟩ (by omega) (sub_trans (sub_heap (.keep (fun _ _ h => by first | exact h | simpa using h) .nil)) (sub_cons (.tmp rfl) (sub_cons (.tmp rfl) (sub_cons (.tmp rfl) (sub_cons (.tmp rfl) (sub_cons (.eq (.tmp rfl) (by congr 2; omega)) (sub_nil)))))))
  · try simp only [bsx] at hc0
    have hs20 := hc0
    refine JC.exit (JQ.then_exit (JQ.then_exit (JQ.block_exit (JQ.then_normal (JC.region ?_)))))
    refine J.m (.tmp rfl) rfl ?_
    refine J.m (.tmp rfl) rfl ?_
    refine J.m (.tmp rfl) rfl ?_
    refine J.o (ot_sub (.tmp rfl) (.tmp rfl) (w64 (by omega) (by omega))) rfl ?_
    refine J.m (.tmp rfl) rfl ?_
    refine J.m (.tmp rfl) rfl ?_
    refine J.m (.tmp rfl) rfl ?_
    refine J.callL (R' := cRow encTm (swR (md - i) md i ys) (c)) (Us := []) (cap := []) fn93 (.func (fun _ => rfl)) (swap_c b c (md - i) md i ys (by omega) (by omega)) (.cons (.eq (.tmp rfl) (by rw [hys])) (.cons (.eq (.tmp rfl) (by congr 2; omega)) (.cons (.tmp rfl) (.cons (.tmp rfl) (.cons (.tmp rfl) .nil))))) (fun _ => trivial) .here (ltN rfl) ?_
    refine J.nil ?_
    exact (JQ.retL0 rfl (.head _) (cRow_eq (by rw [← hv]; exact rotF_eq hf hi0 (by omega)))).2

end Go.Proofs.Ytkpmcldbcljkfaa
