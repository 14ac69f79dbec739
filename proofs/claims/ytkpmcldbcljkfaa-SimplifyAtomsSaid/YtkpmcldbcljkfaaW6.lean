/- Walks through the program: each function called at values of the kinds that its contract names returns what the contract says. Conditions: those in the contracts. Written by the program wip/gen. -/
import Derived.Test.YtkpmcldbcljkfaaW5
set_option linter.unusedVariables false
set_option linter.unusedSimpArgs false
set_option maxRecDepth 100000
set_option maxHeartbeats 4000000
namespace Go.Proofs.Ytkpmcldbcljkfaa
open Go Go.RowKit Go.Rt
theorem isSimpleA_c {B : Nat} (p : Pol) (r : Int) (hr : 1 ≤ r ∧ r ≤ 6) (hf : Fit B p) (np : nrm p < B32 ^ B) (hcn : cnt p ≤ 1000000000) (hb : B ≤ 1000000000) (hlen : (termsP (normN p) mo0).length ≤ 4294967295) (hlv : 0 < (normN p).lv) (hms : msign p = p) : Ctr Try.prog 12 [tV encM (Mx.mk (2) (r) (p) ([]))] (tIs (.bool (true))) := by
  refine Ctr.of Try.func12 rfl Try.ntmps12 (Nat.le_of_ble_eq_true rfl) fun w0 M0 => ?_
  refine JC.seq (JC.region ?_)
  refine J.boxF (Ts := [tIs (.int .i64 (2)), tIs (.int .i64 (r)), tIs (.int .i64 (p.lv)), tIs (.bool (p.c.neg)), tSl encD (p.c.abs), tSl encP (p.cs), tSl encM ([])]) (.tmp rfl) (mxT_eq _) (ltN rfl) fun b1 => ?_
  refine J.a .is rfl ?_
  refine J.nil (JQ.then_normal (JC.seq (JC.seq (JC.region ?_))))
  refine J.o (ot_fieldAddr_own (.tmp rfl) fd37_0) rfl ?_
  refine J.o (ot_load_own (.tmp rfl) (.head _) sc3 (cTs_ld rfl)) rfl ?_
  refine J.o (ot_eql (.tmp rfl) .is) rfl ?_
  refine J.m (.tmp rfl) rfl ?_
  refine J.opg rfl rfl rfl (ltN rfl) (fun hg => ot_fieldAddr_own (.tmp rfl) fd37_0) rfl (ltN rfl) ?_
  refine J.opg rfl rfl rfl (ltN rfl) (fun hg => ot_load_own (.iff hg (.tmp rfl)) (.head _) sc3 (cTs_ld rfl)) rfl (ltN rfl) ?_
  refine J.opg rfl rfl rfl (ltN rfl) (fun hg => ot_eql (.iff hg (.tmp rfl)) .is) rfl (ltN rfl) ?_
  refine J.o (ot_or2 (.tmp rfl) .is (.tmp rfl)) rfl ?_
  refine J.nil (JQ.then_normal ?_)
  refine JC.cond_false (.eq (.tmp rfl) (by rfl)) ?_
  refine JC.skip (JQ.then_normal (JC.seq (JC.region ?_)))
  refine J.o (ot_load_own_agg (.tmp rfl) (.head _) ag37 (cTs_ldV (g := mxT) (y := (Mx.mk (2) (r) (p) ([]))) (mxT_eq (Mx.mk (2) (r) (p) ([]))).symm rfl)) rfl ?_
  refine J.o (ot_call fn31 (simpleA_c p r (by assumption) (by assumption) (by assumption) (by assumption) (by assumption) (by assumption) (by assumption) (by assumption)) (.cons (.tmp rfl) .nil)) rfl ?_
  refine J.a (.tmp rfl) rfl ?_
  refine J.nil (JQ.then_normal (JC.ret ?_))
  exact JQ.ret1 rfl (.tmp (.tmp rfl))

theorem integers_c (x : Mo) (hx : ∀ i, i < 4 → -32768 ≤ x.at i ∧ x.at i ≤ 32767) : Ctr Try.prog 8 [tV encX (x)] (tSl encI (moZ x)) := by
  have hxl : (moZ x).length = 4 := rfl
  have hx0 : -32768 ≤ x.a ∧ x.a ≤ 32767 := hx 0 (by omega)
  refine Ctr.of Try.func8 rfl Try.ntmps8 (Nat.le_of_ble_eq_true rfl) fun w0 M0 => ?_
  refine JC.seq (JC.region ?_)
  refine J.boxF (Ts := [tIs (.int .i16 (x.a)), tIs (.int .i16 (x.b)), tIs (.int .i16 (x.c)), tIs (.int .i16 (x.d))]) (.tmp rfl) rfl (ltN rfl) fun b1 => ?_
  refine J.a .is rfl ?_
  refine J.nil (JQ.then_normal (JC.seq (JC.region ?_)))
  refine J.a .is rfl ?_
  refine J.nil (JQ.then_normal (JC.seq (JC.seq (JC.region ?_))))
  refine J.m .is rfl ?_
  refine J.nil (JQ.then_normal (JC.block ?_))
  refine JC.peel3 (α := Nat) (β := Nat) (γ := Nat) (fun i b c => [(1, pOwn b1 (0)), (2, tIs (.slice none 0 0)), (3, sIs b 0 (((moZ x).take i).length) (c)), (5, tIs (.int .i64 (((i : Nat) : Int))))]) (fun i b c => [⟨b, 25, cRow encI ((moZ x).take i) (c)⟩, ⟨b1, 31, cTs [tIs (.int .i16 (x.a)), tIs (.int .i16 (x.b)), tIs (.int .i16 (x.c)), tIs (.int .i16 (x.d))]⟩]) (fun i b c => 1 ≤ i ∧ i ≤ 4) (fun i b c => 4 - i) 4 ?first0 ?round0
  case first0 =>
    refine JC.seq (JC.region ?_)
    refine J.o (ot_lss (.tmp rfl) .is) rfl ?_
    refine J.nil (JQ.then_normal (JC.seq ?_))
    refine JC.cond_true (.eq (.tmp rfl) (by rfl)) ?_
    refine JC.skip (JQ.then_normal (JC.seq (JC.block (JC.seq (JC.region ?_)))))
    refine J.m (.tmp rfl) rfl ?_
    refine J.a (.tmp rfl) rfl ?_
    refine J.nil (JQ.then_normal (JC.region ?_))
    refine J.m (.tmp rfl) rfl ?_
    refine J.m (.tmp rfl) rfl ?_
    refine J.o (ot_eqt (T' := pOwn b1 0) (ot_indexAddrC (.tmp rfl) (.tmp rfl) ac4_31 (by omega) (by omega)) (own_off2 (by omega))) rfl ?_
    refine J.o (ot_load_own (.tmp rfl) (.head _) sc30 (cTs_ld rfl)) rfl ?_
    refine J.o (ot_conv (.tmp rfl) un2 (by kernel_rfl) (w64 (by omega) (by omega))) rfl ?_
    refine J.o (ot_call fn28 (intOf_c x.a (by omega)) (.cons (.tmp rfl) .nil)) rfl ?_
    refine J.o (ot_buildSlice (E := encI) (zs := [ofI x.a]) sl39 (.cons (.tmp rfl) .nil) rfl zr25 rfl (by decide) (by decide)) rfl ?_
    refine J.append0 (E := encI) (ys := [ofI x.a]) (.sub (.tmp rfl) nil_z) (.tmp rfl) (by simp) sl39 rfl zr25 rfl (by simp <;> omega) (by simp <;> omega) (ltN rfl) fun b15 c15 => ?_
    refine J.a (.tmp rfl) rfl ?_
    refine J.nil (JQ.block_normal (JQ.then_normal (JC.region ?_)))
    refine J.o (ot_add (.tmp rfl) .is (w64 (by omega) (by omega))) rfl ?_
    refine J.m (.tmp rfl) rfl ?_
    refine J.nil ?_
    exact JQ.first3 1 b15 c15 ⟨by omega, by omega⟩ (by omega) (sub_trans (sub_heap (.keep (cRow_eq (by rfl)) (.keep (fun _ _ h => h) .nil))) (sub_cons (.tmp rfl) (sub_cons (.tmp rfl) (sub_cons (.eq (.tmp rfl) (by rfl)) (sub_cons (.eq (.tmp rfl) (by first | rfl | (congr 3; omega) | (congr 2; omega))) (sub_nil))))))
  intro i b c hinv
  have hmt := takeZ (x := x) (i := i)
  refine JC.seq (JC.region ?_)
  refine J.o (ot_lss (.tmp rfl) .is) rfl ?_
  refine J.nil (JQ.then_normal (JC.seq ?_))
  refine JC.cond (.tmp rfl) (fun hc1 => ?_) (fun hc1 => ?_)
  · try simp only [bsx] at hc1
    have hs6 := hc1
    have hxi := hx i (by omega)
    refine JC.skip (JQ.then_normal (JC.seq (JC.block (JC.seq (JC.region ?_)))))
    refine J.m (.tmp rfl) rfl ?_
    refine J.a (.tmp rfl) rfl ?_
    refine J.nil (JQ.then_normal (JC.region ?_))
    refine J.m (.tmp rfl) rfl ?_
    refine J.m (.tmp rfl) rfl ?_
    refine J.o (ot_eqt (T' := pOwn b1 i) (ot_indexAddrC (.tmp rfl) (.tmp rfl) ac4_31 (by omega) (by omega)) (own_off2 (by omega))) rfl ?_
    refine J.o (ot_load_own (.tmp rfl) (.tail _ (.head _)) sc30 (mo16_ld (m := x) (by omega))) rfl ?_
    refine J.o (ot_conv (.tmp rfl) un2 (by kernel_rfl) (w64 (by omega) (by omega))) rfl ?_
    refine J.o (ot_call fn28 (intOf_c (x.at i) (by omega)) (.cons (.tmp rfl) .nil)) rfl ?_
    refine J.o (ot_buildSlice (E := encI) (zs := [ofI (x.at i)]) sl39 (.cons (.tmp rfl) .nil) rfl zr25 rfl (by decide) (by decide)) rfl ?_
    refine J.append (E := encI) (xs := (moZ x).take i) (ys := [ofI (x.at i)]) (.tmp rfl) rfl (.tmp rfl) sl39 rfl zr25 rfl .here (by simp <;> omega) (by simp <;> omega) (ltN rfl) fun b15 c15 => ?_
    refine J.a (.tmp rfl) rfl ?_
    refine J.nil (JQ.block_normal (JQ.then_normal (JC.region ?_)))
    refine J.o (ot_add (.tmp rfl) .is (w64 (by omega) (by omega))) rfl ?_
    refine J.m (.tmp rfl) rfl ?_
    refine J.nil ?_
    exact JQ.round3 (i := i) (i2 := b) (i3 := c) (i + 1) b15 c15 ⟨by omega, by omega⟩ (by omega) (sub_trans (sub_heap (.keep (cRow_eq (hmt (by omega))) (.keep (fun _ _ h => h) .nil))) (sub_cons (.tmp rfl) (sub_cons (.tmp rfl) (sub_cons (.eq (.tmp rfl) (by rw [hmt (by omega)])) (sub_cons (.eq (.tmp rfl) (by first | rfl | (congr 3; omega) | (congr 2; omega))) (sub_nil))))))
  · try simp only [bsx] at hc1
    have hs6 := hc1
    refine JC.exit (JQ.then_exit (JQ.then_exit (JQ.block_exit (JQ.then_normal (JC.seq ?_)))))
    refine JC.weak (sub_freeze0 (E := encI) (xs := (moZ x).take i) (n := ((moZ x).take i).length) (c := c) [3] ⟨rfl, trivial⟩ .here rfl (by omega)) ?_
    refine JC.region ?_
    refine J.m (.tmp rfl) rfl ?_
    refine J.a (.tmp rfl) rfl ?_
    refine J.nil (JQ.then_normal (JC.ret ?_))
    exact JQ.ret1 rfl (.tmp (.eq (.tmp rfl) (by rw [show i = 4 by omega]; rfl)))

theorem isSimpleM_c {B : Nat} (m : Mx) (p : Pol) (r : Int) (hr : 1 ≤ r ∧ r ≤ 6) (hf : Fit B p) (np : nrm p < B32 ^ B) (hcn : cnt p ≤ 1000000000) (hb : B ≤ 1000000000) (hlen : (termsP (normN p) mo0).length ≤ 4294967295) (hlv : 0 < (normN p).lv) (hms : msign p = p) (hm : m = Mx.mk 2 r p []) : Ctr Try.prog 12 [tV encM (m)] (tIs (.bool (true))) := by
  subst hm
  exact isSimpleA_c p r hr hf np hcn hb hlen hlv hms

theorem negG_c {B : Nat} (p : Pol) (hf : Fit B p) (np : nrm p < B32 ^ B) (hcn : cnt p ≤ 1000000000) (hb : B ≤ 1000000000) : Ctr Try.prog 18 [tV encP (p)] (tV encP (scaleP (normN p) (-1))) := by
  have hnn : nrm (normN p) < B32 ^ B := Nat.lt_of_le_of_lt (nrm_norm p) np
  have hfn := (sz_norm p).fit (by omega) hnn
  refine Ctr.of Try.func18 rfl Try.ntmps18 (Nat.le_of_ble_eq_true rfl) fun w0 M0 => ?_
  refine JC.seq (JC.region ?_)
  refine J.boxF (Ts := [tIs (.int .i64 (p.lv)), tIs (.bool (p.c.neg)), tSl encD (p.c.abs), tSl encP (p.cs)]) (.tmp rfl) (polT_eq _) (ltN rfl) fun b1 => ?_
  refine J.alloc (R := cTs [tIs (.int .i64 (0)), tIs (.bool (false)), tSl encD ([]), tSl encP ([])]) zr28 (fun _ => ⟨rfl, rfl, rfl, rfl, slP_nil _ _, rfl, slP_nil _ _, rfl, trivial⟩) (ltN rfl) fun b2 => ?_
  refine J.nil (JQ.then_normal (JC.seq (JC.region ?_)))
  refine J.o (ot_load_own_agg (.tmp rfl) (.tail _ (.head _)) ag28 (cTs_ldV (g := polT) (y := p) (polT_eq p).symm rfl)) rfl ?_
  refine J.o (ot_call fn29 (rnormalG_c p (by assumption) (by assumption) (by assumption) (by assumption)) (.cons (.tmp rfl) .nil)) rfl ?_
  refine J.o (ot_call fn28 (intOf_c (-1) (by omega)) (.cons .is .nil)) rfl ?_
  refine J.o (ot_eqt (T' := tV encP (scaleP (normN p) (-1))) (ot_call fn36 (scale_c (normN p) (ofI (-1)) hfn (digs_dig _) (by rw [ofIm1_len]; omega)) (.cons (.tmp rfl) (.cons (.tmp rfl) .nil))) ((by rw [zval_ofI]))) rfl ?_
  refine J.store (.tmp rfl) (.eq (.tmp rfl) (tV_F (Ts := [tIs (.int .i64 ((scaleP (normN p) (-1)).lv)), tIs (.bool (((scaleP (normN p) (-1)).c).neg)), tSl encD (((scaleP (normN p) (-1)).c).abs), tSl encP ((scaleP (normN p) (-1)).cs)]) (polT_eq _))) .here sz28 (st_agg (Ts' := [tIs (.int .i64 ((scaleP (normN p) (-1)).lv)), tIs (.bool (((scaleP (normN p) (-1)).c).neg)), tSl encD (((scaleP (normN p) (-1)).c).abs), tSl encP ((scaleP (normN p) (-1)).cs)]) (o := 0) rfl) ?_
  refine J.nil (JQ.then_normal (JC.ret ?_))
  exact JQ.ret1 rfl (.agg (.tmp rfl) (.head _) ag28 (cTs_ldV (g := polT) (y := (scaleP (normN p) (-1))) (polT_eq (scaleP (normN p) (-1))).symm rfl))

theorem polysG1_c {B : Nat} (m : Mx) (hk : m.kind = 2) (hf : Fit B m.poly) (np : nrm m.poly < B32 ^ B) (hcn : cnt m.poly ≤ 1000000000) (hb : B ≤ 1000000000) : Ctr Try.prog 37 [tV encM (m)] (tSl encP ([normN m.poly])) := by
  refine Ctr.of Try.func37 rfl Try.ntmps37 (Nat.le_of_ble_eq_true rfl) fun w0 M0 => ?_
  refine JC.seq (JC.region ?_)
  refine J.boxF (Ts := [tIs (.int .i64 (m.kind)), tIs (.int .i64 (m.rel)), tIs (.int .i64 (m.poly.lv)), tIs (.bool (m.poly.c.neg)), tSl encD (m.poly.c.abs), tSl encP (m.poly.cs), tSl encM (m.kids)]) (.tmp rfl) (mxT_eq _) (ltN rfl) fun b1 => ?_
  refine J.o (ot_assign (.nil (E := encP))) rfl ?_
  refine J.nil (JQ.then_normal (JC.seq (JC.region ?_)))
  refine J.a .is rfl ?_
  refine J.nil (JQ.then_normal (JC.seq (JC.seq (JC.region ?_))))
  refine J.o (ot_fieldAddr_own (.tmp rfl) fd37_0) rfl ?_
  refine J.o (ot_load_own (.tmp rfl) (.head _) sc3 (cTs_ld rfl)) rfl ?_
  refine J.nil (JQ.then_normal (JC.block (JC.seq (JC.region ?_))))
  refine J.o (ot_eql (.tmp rfl) .is) rfl ?_
  refine J.a (.tmp rfl) rfl ?_
  refine J.nil (JQ.then_normal ?_)
  refine JC.cond_true (.eq (.tmp rfl) (by rw [decide_eq_true hk])) ?_
  refine JC.region ?_
  refine J.m (.tmp rfl) rfl ?_
  refine J.o (ot_fieldAddr_own (.tmp rfl) fd37_2) rfl ?_
  refine J.o (ot_load_own_agg (.tmp rfl) (.head _) ag28 (cTs_ldV (g := polT) (y := m.poly) (polT_eq m.poly).symm rfl)) rfl ?_
  refine J.o (ot_call fn29 (rnormalG_c m.poly (by assumption) (by assumption) (by assumption) (by assumption)) (.cons (.tmp rfl) .nil)) rfl ?_
  refine J.o (ot_buildSlice (E := encP) (zs := [normN m.poly]) sl26 (.cons (.tmp rfl) .nil) rfl zr28 rfl (by decide) (by decide)) rfl ?_
  refine J.append0 (E := encP) (ys := [normN m.poly]) (.sub (.tmp rfl) nil_z) (.tmp rfl) (by simp) sl26 rfl zr28 rfl (by simp <;> omega) (by simp <;> omega) (ltN rfl) fun b15 c15 => ?_
  refine J.a (.tmp rfl) rfl ?_
  refine J.nil (JQ.block_normal (JQ.then_normal (JC.seq ?_)))
  refine JC.weak (sub_freeze0 (E := encP) (xs := [normN m.poly]) (n := ([normN m.poly]).length) (c := c15) [3, 15] ⟨rfl, rfl, trivial⟩ .here rfl (by omega)) ?_
  refine JC.region ?_
  refine J.m (.tmp rfl) rfl ?_
  refine J.a (.tmp rfl) rfl ?_
  refine J.nil (JQ.then_normal (JC.ret ?_))
  exact JQ.ret1 rfl (.tmp (.tmp rfl))

theorem atomsG1_c {B : Nat} (m : Mx) (hk : m.kind = 2) (hf : Fit B m.poly) (np : nrm m.poly < B32 ^ B) (hcn : cnt m.poly ≤ 1000000000) (hb : B ≤ 1000000000) : Ctr Try.prog 20 [tV encM (m)] (tIs (.int .i64 (1))) := by
  refine Ctr.of Try.func20 rfl Try.ntmps20 (Nat.le_of_ble_eq_true rfl) fun w0 M0 => ?_
  refine JC.seq (JC.region ?_)
  refine J.boxF (Ts := [tIs (.int .i64 (m.kind)), tIs (.int .i64 (m.rel)), tIs (.int .i64 (m.poly.lv)), tIs (.bool (m.poly.c.neg)), tSl encD (m.poly.c.abs), tSl encP (m.poly.cs), tSl encM (m.kids)]) (.tmp rfl) (mxT_eq _) (ltN rfl) fun b1 => ?_
  refine J.a .is rfl ?_
  refine J.nil (JQ.then_normal (JC.seq (JC.region ?_)))
  refine J.o (ot_load_own_agg (.tmp rfl) (.head _) ag37 (cTs_ldV (g := mxT) (y := m) (mxT_eq m).symm rfl)) rfl ?_
  refine J.o (ot_call fn37 (polysG1_c m (by assumption) (by assumption) (by assumption) (by assumption) (by assumption)) (.cons (.tmp rfl) .nil)) rfl ?_
  refine J.o (ot_len (.tmp rfl) sl26 rfl) rfl ?_
  refine J.a (.tmp rfl) rfl ?_
  refine J.nil (JQ.then_normal (JC.ret ?_))
  exact JQ.ret1 rfl (.tmp (.eq (.tmp rfl) (by rfl)))

theorem awakeG_c  : Ctr Try.prog 5 [] (tIs (.bool (true))) := by
  have hv : varP 1 = .mk 1 z0 [p0, constP 1] := varP_1
  have hlA : (termsP (normN pA) mo0).length ≤ 4294967295 := by rw [norm_pA]; decide
  refine Ctr.of Try.func5 rfl Try.ntmps5 (Nat.le_of_ble_eq_true rfl) fun w0 M0 => ?_
  refine JC.seq (JC.region ?_)
  refine J.a .is rfl ?_
  refine J.nil (JQ.then_normal (JC.seq (JC.region ?_)))
  refine J.o (ot_call fn19 (var_c 1 ) (.cons .is .nil)) rfl ?_
  refine J.o (ot_eqt (T' := tV encP (pA)) (ot_call fn18 (negG_c (varP 1) (by rw [hv]; exact (smallF (n := 1) rfl).1) (by rw [hv]; exact (smallF (n := 1) rfl).2.1) (by rw [hv]; exact (smallF (n := 1) rfl).2.2) (by omega)) (.cons (.tmp rfl) .nil)) (by rw [neg_v1])) rfl ?_
  refine J.o (ot_eqt (T' := tV encM (mB)) (ot_call fn7 (atomG_c pA 1 (smallF (n := -1) rfl).1 (smallF (n := -1) rfl).2.1 (smallF (n := -1) rfl).2.2 (by omega) hlA) (.cons (.tmp rfl) (.cons .is .nil))) (by rw [atom_pA])) rfl ?_
  refine J.alloc (R := cTs [tIs (.int .i64 (0)), tIs (.int .i64 (0)), tIs (.int .i64 (0)), tIs (.bool (false)), tSl encD ([]), tSl encP ([]), tSl encM ([])]) zr37 (fun _ => ⟨rfl, rfl, rfl, rfl, rfl, rfl, rfl, rfl, slP_nil _ _, rfl, slP_nil _ _, rfl, slP_nil _ _, rfl, trivial⟩) (ltN rfl) fun b1 => ?_
  refine J.store (.tmp rfl) (.eq (.tmp rfl) (tV_F (Ts := [tIs (.int .i64 (mB.kind)), tIs (.int .i64 (mB.rel)), tIs (.int .i64 (mB.poly.lv)), tIs (.bool (mB.poly.c.neg)), tSl encD (mB.poly.c.abs), tSl encP (mB.poly.cs), tSl encM (mB.kids)]) (mxT_eq _))) .here sz37 (st_agg (Ts' := [tIs (.int .i64 (mB.kind)), tIs (.int .i64 (mB.rel)), tIs (.int .i64 (mB.poly.lv)), tIs (.bool (mB.poly.c.neg)), tSl encD (mB.poly.c.abs), tSl encP (mB.poly.cs), tSl encM (mB.kids)]) (o := 0) rfl) ?_
  refine J.nil (JQ.then_normal (JC.seq (JC.region ?_)))
  refine J.o (ot_fieldAddr_own (.tmp rfl) fd37_0) rfl ?_
  refine J.o (ot_load_own (.tmp rfl) (.head _) sc3 (cTs_ld rfl)) rfl ?_
  refine J.o (ot_eql (.tmp rfl) .is) rfl ?_
  refine J.m (.tmp rfl) rfl ?_
  refine J.opg rfl rfl rfl (ltN rfl) (fun hg => ot_fieldAddr_own (.tmp rfl) fd37_1) rfl (ltN rfl) ?_
  refine J.opg rfl rfl rfl (ltN rfl) (fun hg => ot_load_own (.iff hg (.tmp rfl)) (.head _) sc34 (cTs_ld rfl)) rfl (ltN rfl) ?_
  refine J.opg rfl rfl rfl (ltN rfl) (fun hg => ot_eql (.iff hg (.tmp rfl)) .is) rfl (ltN rfl) ?_
  refine J.o (ot_and2 (.tmp rfl) (.tmp rfl) .is) rfl ?_
  refine J.m (.tmp rfl) rfl ?_
  refine J.opg rfl rfl rfl (ltN rfl) (fun hg => ot_fieldAddr_own (.tmp rfl) fd37_2) rfl (ltN rfl) ?_
  refine J.opg rfl rfl rfl (ltN rfl) (fun hg => ot_fieldAddr_own (.iff hg (.tmp rfl)) fd28_0) rfl (ltN rfl) ?_
  refine J.opg rfl rfl rfl (ltN rfl) (fun hg => ot_load_own (.iff hg (.tmp rfl)) (.head _) sc3 (cTs_ld rfl)) rfl (ltN rfl) ?_
  refine J.opg rfl rfl rfl (ltN rfl) (fun hg => ot_eql (.iff hg (.tmp rfl)) .is) rfl (ltN rfl) ?_
  refine J.o (ot_and2 (.tmp rfl) (.tmp rfl) .is) rfl ?_
  refine J.m (.tmp rfl) rfl ?_
  refine J.opg rfl rfl rfl (ltN rfl) (fun hg => ot_load_own_agg (.tmp rfl) (.head _) ag37 (cTs_ldV (g := mxT) (y := mB) (mxT_eq mB).symm rfl)) rfl (ltN rfl) ?_
  refine J.opg rfl rfl rfl (ltN rfl) (fun hg => (by have hg' := hg; (try simp only [bsx] at hg'); exact ot_call fn20 (atomsG1_c mB rfl (smallF (n := 1) rfl).1 (smallF (n := 1) rfl).2.1 (smallF (n := 1) rfl).2.2 (by omega)) (.cons (.iff hg (.tmp rfl)) .nil))) rfl (ltN rfl) ?_
  refine J.opg rfl rfl rfl (ltN rfl) (fun hg => ot_eql (.iff hg (.tmp rfl)) .is) rfl (ltN rfl) ?_
  refine J.o (ot_and2 (.tmp rfl) (.tmp rfl) .is) rfl ?_
  refine J.a (.tmp rfl) rfl ?_
  refine J.nil (JQ.then_normal (JC.ret ?_))
  exact JQ.ret1 rfl (.tmp (.eq (.tmp rfl) (by first | rfl | (congr 3; omega) | (congr 2; omega) | simp [*])))

theorem atoms_c (p : Pol) (r : Int) (x : Mo) (hd : Dg p) (hr : -128 ≤ r ∧ r ≤ 127) (hx : ∀ i, i < 4 → -32768 ≤ x.at i ∧ x.at i ≤ 32767) : Ctr Try.prog 3 [tV encP (p), tIs (.int .i8 (r)), tV encX (x)] (tIs (.bool (true))) := by
  have hxB : ∀ i, i < 4 → (x.at i).natAbs ≤ B32 := fun i hi => by have := hx i hi; show _ ≤ 4294967296; omega
  refine Ctr.of Try.func3 rfl Try.ntmps3 (Nat.le_of_ble_eq_true rfl) fun w0 M0 => ?_
  refine JC.seq (JC.region ?_)
  refine J.boxF (Ts := [tIs (.int .i64 (p.lv)), tIs (.bool (p.c.neg)), tSl encD (p.c.abs), tSl encP (p.cs)]) (.tmp rfl) (polT_eq _) (ltN rfl) fun b3 => ?_
  refine J.boxF (Ts := [tIs (.int .i16 (x.a)), tIs (.int .i16 (x.b)), tIs (.int .i16 (x.c)), tIs (.int .i16 (x.d))]) (.tmp rfl) rfl (ltN rfl) fun b5 => ?_
  refine J.a .is rfl ?_
  refine J.nil (JQ.then_normal (JC.seq (JC.seq (JC.region ?_))))
  refine J.o (ot_call fn5 (awakeG_c  ) .nil) rfl ?_
  refine J.o (ot_not (.tmp rfl)) rfl ?_
  refine J.m (.tmp rfl) rfl ?_
  refine J.opg rfl rfl rfl (ltN rfl) (fun hg => ot_load_own_agg (.tmp rfl) (.tail _ (.head _)) ag28 (cTs_ldV (g := polT) (y := p) (polT_eq p).symm rfl)) rfl (ltN rfl) ?_
  refine J.opg rfl rfl rfl (ltN rfl) (fun hg => (by have hg' := hg; (try simp only [bsx] at hg'); exact ot_call fn6 (fewPoly_c p 60 4 ⟨by omega, by omega⟩) (.cons (.iff hg (.tmp rfl)) (.cons .is (.cons .is .nil))))) rfl (ltN rfl) ?_
  refine J.opg rfl rfl rfl (ltN rfl) (fun hg => ot_not (.iff hg (.tmp rfl))) rfl (ltN rfl) ?_
  refine J.o (ot_or2 (.tmp rfl) .is (.tmp rfl)) rfl ?_
  refine J.nil (JQ.then_normal ?_)
  refine JC.cond (.tmp rfl) (fun hc0 => ?_) (fun hc0 => ?_)
  · try simp only [bsx] at hc0
    have hs21 := hc0
    refine JC.seq (JC.region ?_)
    refine J.o (ot_call fn5 (awakeG_c  ) .nil) rfl ?_
    refine J.a (.tmp rfl) rfl ?_
    refine J.nil (JQ.then_normal (JC.ret (JQ.then_ret ?_)))
    exact JQ.ret1 rfl (.tmp (.eq (.tmp rfl) (by rfl)))
  · try simp only [bsx] at hc0
    have hs21 := hc0
    have hfew : 0 ≤ roomR 4 6 p 60 := by simpa using hs21
    have hF := lawF hd hfew
    have hT := truth_atom x p r
    refine JC.skip (JQ.then_normal (JC.seq (JC.region ?_)))
    refine J.o (ot_load_own_agg (.tmp rfl) (.tail _ (.head _)) ag28 (cTs_ldV (g := polT) (y := p) (polT_eq p).symm rfl)) rfl ?_
    refine J.m (.tmp rfl) rfl ?_
    refine J.o (ot_conv (.tmp rfl) un34 (by kernel_rfl) (w64 (by omega) (by omega))) rfl ?_
    refine J.o (ot_call fn7 (atomG_c p r hF.hf hF.np hF.hcn (by omega) hF.hlen) (.cons (.tmp rfl) (.cons (.tmp rfl) .nil))) rfl ?_
    refine J.alloc (R := cTs [tIs (.int .i64 (0)), tIs (.int .i64 (0)), tIs (.int .i64 (0)), tIs (.bool (false)), tSl encD ([]), tSl encP ([]), tSl encM ([])]) zr37 (fun _ => ⟨rfl, rfl, rfl, rfl, rfl, rfl, rfl, rfl, slP_nil _ _, rfl, slP_nil _ _, rfl, slP_nil _ _, rfl, trivial⟩) (ltN rfl) fun b7 => ?_
    refine J.store (.tmp rfl) (.eq (.tmp rfl) (tV_F (Ts := [tIs (.int .i64 ((atomM p r).kind)), tIs (.int .i64 ((atomM p r).rel)), tIs (.int .i64 (((atomM p r).poly).lv)), tIs (.bool ((((atomM p r).poly).c).neg)), tSl encD ((((atomM p r).poly).c).abs), tSl encP (((atomM p r).poly).cs), tSl encM ((atomM p r).kids)]) (mxT_eq _))) .here sz37 (st_agg (Ts' := [tIs (.int .i64 ((atomM p r).kind)), tIs (.int .i64 ((atomM p r).rel)), tIs (.int .i64 (((atomM p r).poly).lv)), tIs (.bool ((((atomM p r).poly).c).neg)), tSl encD ((((atomM p r).poly).c).abs), tSl encP (((atomM p r).poly).cs), tSl encM ((atomM p r).kids)]) (o := 0) rfl) ?_
    refine J.nil (JQ.then_normal (JC.seq (JC.region ?_)))
    refine J.o (ot_load_own_agg (.tmp rfl) (.tail _ (.head _)) ag31 (cTs_ldV (g := mo16T) (y := x) rfl rfl)) rfl ?_
    refine J.o (ot_call fn8 (integers_c x (by assumption)) (.cons (.tmp rfl) .nil)) rfl ?_
    refine J.a (.tmp rfl) rfl ?_
    refine J.nil (JQ.then_normal (JC.seq (JC.region ?_)))
    refine J.m (.tmp rfl) rfl ?_
    refine J.o (ot_conv (.tmp rfl) un34 (by kernel_rfl) (w64 (by omega) (by omega))) rfl ?_
    refine J.o (ot_load_own_agg (.tmp rfl) (.tail _ (.tail _ (.head _))) ag28 (cTs_ldV (g := polT) (y := p) (polT_eq p).symm rfl)) rfl ?_
    refine J.o (ot_eqt (T' := tV encM (Mx.mk (2) (r) (p) ([]))) (ot_build (Ts := [tIs (.int .i64 (0)), tIs (.int .i64 (0)), tIs (.int .i64 (0)), tIs (.bool (false)), tSl encD ([]), tSl encP ([]), tSl encM ([])]) pl37 (fun _ => ⟨rfl, rfl, rfl, rfl, rfl, rfl, rfl, rfl, slP_nil _ _, rfl, slP_nil _ _, rfl, slP_nil _ _, rfl, trivial⟩) ((.one (off := 0) rfl .is (one_is rfl rfl) (Ts' := [tIs (.int .i64 (2)), tIs (.int .i64 (0)), tIs (.int .i64 (0)), tIs (.bool (false)), tSl encD ([]), tSl encP ([]), tSl encM ([])]) rfl rfl (.one (off := 1) rfl (.tmp rfl) (one_is rfl rfl) (Ts' := [tIs (.int .i64 (2)), tIs (.int .i64 (r)), tIs (.int .i64 (0)), tIs (.bool (false)), tSl encD ([]), tSl encP ([]), tSl encM ([])]) rfl rfl (.agg (off := 2) rfl (.eq (.tmp rfl) (tV_F (Ts := [tIs (.int .i64 (p.lv)), tIs (.bool (p.c.neg)), tSl encD (p.c.abs), tSl encP (p.cs)]) (polT_eq _))) (Ts' := [tIs (.int .i64 (2)), tIs (.int .i64 (r)), tIs (.int .i64 (p.lv)), tIs (.bool (p.c.neg)), tSl encD (p.c.abs), tSl encP (p.cs), tSl encM ([])]) rfl rfl .nil)))) rfl) (tV_F' (mxT_eq _))) rfl ?_
    refine J.o (ot_call fn9 (refNormA_c p r hF.hf hF.np hF.hcn (by omega)) (.cons (.tmp rfl) .nil)) rfl ?_
    refine J.alloc (R := cTs [tIs (.int .i64 (0)), tIs (.int .i64 (0)), tIs (.int .i64 (0)), tIs (.bool (false)), tSl encD ([]), tSl encP ([]), tSl encM ([])]) zr37 (fun _ => ⟨rfl, rfl, rfl, rfl, rfl, rfl, rfl, rfl, slP_nil _ _, rfl, slP_nil _ _, rfl, slP_nil _ _, rfl, trivial⟩) (ltN rfl) fun b9 => ?_
    refine J.store (.tmp rfl) (.eq (.tmp rfl) (tV_F (Ts := [tIs (.int .i64 (2)), tIs (.int .i64 (relN r)), tIs (.int .i64 ((normN p).lv)), tIs (.bool (((normN p).c).neg)), tSl encD (((normN p).c).abs), tSl encP ((normN p).cs), tSl encM ([])]) (mxT_eq _))) .here sz37 (st_agg (Ts' := [tIs (.int .i64 (2)), tIs (.int .i64 (relN r)), tIs (.int .i64 ((normN p).lv)), tIs (.bool (((normN p).c).neg)), tSl encD (((normN p).c).abs), tSl encP ((normN p).cs), tSl encM ([])]) (o := 0) rfl) ?_
    refine J.nil (JQ.then_normal (JC.seq (JC.seq ?_)))
    refine JC.draw (Γ' := ?g1) mo (by kernel_rfl) ?tw1 ?k1
    case tw1 =>
      refine TW.o (ot_load_own_agg (.tmp rfl) (.tail _ (.head _)) ag37 (cTs_ldV (g := mxT) (y := (atomM p r)) (mxT_eq (atomM p r)).symm rfl)) rfl ?_
      refine TW.m (.tmp rfl) rfl ?_
      refine TW.o (ot_call fn10 (truthV_c x (atomM p r) hxB (atom_kind p r) (fun hk => atom_poly hF hk) (by omega)) (.cons (.tmp rfl) (.cons (.tmp rfl) .nil))) rfl ?_
      refine TW.o (ot_load_own_agg (.tmp rfl) (.head _) ag37 (cTs_ldV (g := mxT) (y := (Mx.mk (2) (relN r) (normN p) ([]))) (mxT_eq (Mx.mk (2) (relN r) (normN p) ([]))).symm rfl)) rfl ?_
      refine TW.m (.tmp rfl) rfl ?_
      refine TW.o (ot_eqt (T' := tIs (.bool (truthV x (atomM p r)))) (ot_call fn10 (truthV_c x (Mx.mk (2) (relN r) (normN p) ([])) hxB (.inr (.inr rfl)) (fun _ => ⟨hF.c4, hF.s4, hF.n4⟩) (by omega)) (.cons (.tmp rfl) (.cons (.tmp rfl) .nil))) (by rw [← hT])) rfl ?_
      refine TW.o (ot_neqb (.tmp rfl) (.tmp rfl) un4) rfl ?_
      exact TW.nil
    refine JQ.then_normal ?_
    refine JC.cond_false (.eq (.tmp rfl) (by simp)) ?_
    refine JC.skip (JQ.then_normal (JC.seq (JC.seq (JC.region ?_))))
    refine J.o (ot_load_own_agg (.tmp rfl) (.tail _ (.tail _ (.tail _ (.head _)))) ag28 (cTs_ldV (g := polT) (y := p) (polT_eq p).symm rfl)) rfl ?_
    refine J.o (ot_call fn11 (constG_c p hF.hf hF.np hF.hcn (by omega)) (.cons (.tmp rfl) .nil)) rfl ?_
    refine J.m (.tmp rfl) rfl ?_
    refine J.o (ot_extract (.tmp rfl) rfl) rfl ?_
    refine J.o (ot_extract (.tmp rfl) rfl) rfl ?_
    refine J.alloc (R := cTs [tIs (.bool (false)), tSl encD ([])]) zr25 (fun _ => ⟨rfl, rfl, slP_nil _ _, rfl, trivial⟩) (ltN rfl) fun b10 => ?_
    refine J.store (.tmp rfl) (.eq (.tmp rfl) (tV_F (Ts := [tIs (.bool ((if 0 < (normN p).lv then z0 else (normN p).c).neg)), tSl encD ((if 0 < (normN p).lv then z0 else (normN p).c).abs)]) rfl)) .here sz25 (st_agg (Ts' := [tIs (.bool ((if 0 < (normN p).lv then z0 else (normN p).c).neg)), tSl encD ((if 0 < (normN p).lv then z0 else (normN p).c).abs)]) (o := 0) rfl) ?_
    refine J.a (.tmp rfl) rfl ?_
    refine J.nil (JQ.then_normal (JC.seq (JC.region ?_)))
    refine J.m (.tmp rfl) rfl ?_
    refine J.nil (JQ.then_normal ?_)
    refine JC.cond (.tmp rfl) (fun hc2 => ?_) (fun hc2 => ?_)
    · try simp only [bsx] at hc2
      have hs46 := hc2
      have hlv : ¬ 0 < (normN p).lv := by simpa using hs46
      refine JC.seq (JC.region ?_)
      refine J.o (ot_load_own_agg (.tmp rfl) (.tail _ (.tail _ (.head _))) ag37 (cTs_ldV (g := mxT) (y := (atomM p r)) (mxT_eq (atomM p r)).symm rfl)) rfl ?_
      refine J.o (ot_call fn12 (isSimpleT_c (atomM p r) (constB p r) (atom_no hlv)) (.cons (.tmp rfl) .nil)) rfl ?_
      refine J.m (.tmp rfl) rfl ?_
      refine J.opg rfl rfl rfl (ltN rfl) (fun hg => ot_fieldAddr_own (.tmp rfl) fd37_0) rfl (ltN rfl) ?_
      refine J.opg rfl rfl rfl (ltN rfl) (fun hg => ot_load_own (.iff hg (.tmp rfl)) (.tail _ (.tail _ (.head _))) sc3 (cTs_ld rfl)) rfl (ltN rfl) ?_
      refine J.opg rfl rfl rfl (ltN rfl) (fun hg => ot_eql (.iff hg (.tmp rfl)) .is) rfl (ltN rfl) ?_
      refine J.opg rfl rfl rfl (ltN rfl) (fun hg => ot_move (.iff hg (.tmp rfl))) rfl (ltN rfl) ?_
      refine J.opgg rfl rfl rfl (ltN rfl) (fun hg => ot_fieldAddr_own (.tmp rfl) fd37_0) rfl (ltN rfl) ?_
      refine J.opgg rfl rfl rfl (ltN rfl) (fun hg => ot_load_own (.iff hg (.tmp rfl)) (.tail _ (.tail _ (.head _))) sc3 (cTs_ld rfl)) rfl (ltN rfl) ?_
      refine J.opgg rfl rfl rfl (ltN rfl) (fun hg => ot_eql (.iff hg (.tmp rfl)) .is) rfl (ltN rfl) ?_
      refine J.opg rfl rfl rfl (ltN rfl) (fun hg => ot_or2 (.iff hg (.tmp rfl)) .is (.iffr hg (.tmp rfl))) rfl (ltN rfl) ?_
      refine J.o (ot_and2 (.tmp rfl) (.tmp rfl) .is) rfl ?_
      refine J.a (.tmp rfl) rfl ?_
      refine J.nil (JQ.then_normal (JC.ret (JQ.then_ret ?_)))
      exact JQ.ret1 rfl (.tmp (.eq (.tmp rfl) (by rw [atom_no hlv]; rcases truthM_kind (constB p r) with h | h <;> rw [h] <;> rfl)))
    · try simp only [bsx] at hc2
      have hs46 := hc2
      have hlv : 0 < (normN p).lv := by simpa using hs46
      obtain ⟨hQ, hQl, hQm⟩ := lawF_q hF hlv
      have hne := ne_p0 hlv
      have hk2 : (atomM p r).kind = 2 := by rw [atom_yes hlv]; rfl
      have hpo : (atomM p r).poly = msign p := by rw [atom_yes hlv]; rfl
      have hre : (atomM p r).rel = (relR (bitsN p r)).1 := by rw [atom_yes hlv]; rfl
      refine JC.skip (JQ.then_normal (JC.seq (JC.seq ?_)))
      refine JC.draw (Γ' := ?g2) mo (by kernel_rfl) ?tw2 ?k2
      case tw2 =>
        refine TW.o (ot_fieldAddr_own (.tmp rfl) fd37_0) rfl ?_
        refine TW.o (ot_load_own (.tmp rfl) (.tail _ (.tail _ (.head _))) sc3 (cTs_ld rfl)) rfl ?_
        refine TW.o (ot_neq (.tmp rfl) .is) rfl ?_
        refine TW.m (.tmp rfl) rfl ?_
        refine TW.opg rfl rfl rfl (ltN rfl) (fun hg => ot_load_own_agg (.tmp rfl) (.tail _ (.tail _ (.head _))) ag37 (cTs_ldV (g := mxT) (y := (atomM p r)) (mxT_eq (atomM p r)).symm rfl)) rfl (ltN rfl) ?_
        refine TW.opg rfl rfl rfl (ltN rfl) (fun hg => (by have hg' := hg; (try simp only [bsx] at hg'); exact ot_call fn12 (isSimpleM_c (atomM p r) (msign p) ((relR (bitsN p r)).1) (rel_between p r) hQ.hf hQ.np hQ.hcn (by omega) hQ.hlen hQl hQm (atom_yes hlv)) (.cons (.iff hg (.tmp rfl)) .nil))) rfl (ltN rfl) ?_
        refine TW.opg rfl rfl rfl (ltN rfl) (fun hg => ot_not (.iff hg (.tmp rfl))) rfl (ltN rfl) ?_
        refine TW.o (ot_or2 (.tmp rfl) .is (.tmp rfl)) rfl ?_
        refine TW.m (.tmp rfl) rfl ?_
        refine TW.opg rfl rfl rfl (ltN rfl) (fun hg => ot_fieldAddr_own (.tmp rfl) fd37_2) rfl (ltN rfl) ?_
        refine TW.opg rfl rfl rfl (ltN rfl) (fun hg => ot_load_own_agg (.iff hg (.tmp rfl)) (.tail _ (.tail _ (.head _))) ag28 (cTs_ldV (g := polT) (y := ((atomM p r).poly)) (polT_eq ((atomM p r).poly)).symm rfl)) rfl (ltN rfl) ?_
        refine TW.opg rfl rfl rfl (ltN rfl) (fun hg => ot_load_own_agg (.tmp rfl) (.tail _ (.tail _ (.tail _ (.tail _ (.head _))))) ag28 (cTs_ldV (g := polT) (y := p) (polT_eq p).symm rfl)) rfl (ltN rfl) ?_
        refine TW.opg rfl rfl rfl (ltN rfl) (fun hg => (by have hg' := hg; (try simp only [bsx] at hg'); exact ot_call fn14 (msign_c p hF.hf hF.np hF.hcn (by omega) hF.hlen hne) (.cons (.iff hg (.tmp rfl)) .nil))) rfl (ltN rfl) ?_
        refine TW.opg rfl rfl rfl (ltN rfl) (fun hg => (by have hg' := hg; (try simp only [bsx] at hg'); exact ot_eqt (T' := tIs (.bool (true))) (ot_call fn13 (samePoly_c ((atomM p r).poly) (msign p) (by rw [hpo]; exact hQ.hf) hQ.hf ⟨by omega, by omega⟩) (.cons (.iff hg (.tmp rfl)) (.cons (.iff hg (.tmp rfl)) .nil))) (by rw [hpo, sameB_self]))) rfl (ltN rfl) ?_
        refine TW.opg rfl rfl rfl (ltN rfl) (fun hg => ot_not (.iff hg (.tmp rfl))) rfl (ltN rfl) ?_
        refine TW.o (ot_or2 (.tmp rfl) .is (.tmp rfl)) rfl ?_
        exact TW.nil
      refine JQ.then_normal ?_
      refine JC.cond_false (.eq (.tmp rfl) (by rw [hk2]; rfl)) ?_
      refine JC.skip (JQ.then_normal (JC.seq (JC.region ?_)))
      refine J.a .is rfl ?_
      refine J.a .is rfl ?_
      refine J.nil (JQ.then_normal (JC.seq (JC.seq (JC.region ?_))))
      refine J.a .is rfl ?_
      refine J.nil (JQ.then_normal (JC.block ?_))
      refine JC.loop (ι := Nat) (fun n => [(6, tIs (.bool (false))), (7, pOwn b7 (0)), (9, pOwn b9 (0)), (12, tIs (.bool (sameK (relR (bitsN p r)).1 (relN r) n))), (13, tIs (.bool (oppK (relR (bitsN p r)).1 (relN r) n))), (14, tIs (.int .i64 (((n : Nat) : Int) - 1)))]) (fun n => [⟨b10, 25, cTs [tIs (.bool ((if 0 < (normN p).lv then z0 else (normN p).c).neg)), tSl encD ((if 0 < (normN p).lv then z0 else (normN p).c).abs)]⟩, ⟨b9, 37, cTs [tIs (.int .i64 (2)), tIs (.int .i64 (relN r)), tIs (.int .i64 ((normN p).lv)), tIs (.bool (((normN p).c).neg)), tSl encD (((normN p).c).abs), tSl encP ((normN p).cs), tSl encM ([])]⟩, ⟨b7, 37, cTs [tIs (.int .i64 ((atomM p r).kind)), tIs (.int .i64 ((atomM p r).rel)), tIs (.int .i64 (((atomM p r).poly).lv)), tIs (.bool ((((atomM p r).poly).c).neg)), tSl encD ((((atomM p r).poly).c).abs), tSl encP (((atomM p r).poly).cs), tSl encM ((atomM p r).kids)]⟩, ⟨b5, 31, cTs [tIs (.int .i16 (x.a)), tIs (.int .i16 (x.b)), tIs (.int .i16 (x.c)), tIs (.int .i16 (x.d))]⟩, ⟨b3, 28, cTs [tIs (.int .i64 (p.lv)), tIs (.bool (p.c.neg)), tSl encD (p.c.abs), tSl encP (p.cs)]⟩]) (fun n => n ≤ 3) (fun n => 3 - n) 0 (by omega) ?lsub0 ?round0
      case lsub0 => exact sub_trans (sub_heap (.keep (fun _ _ h => h) (.keep (fun _ _ h => h) (.keep (fun _ _ h => h) (.keep (fun _ _ h => h) (.keep (fun _ _ h => h) .nil)))))) (sub_cons (.tmp rfl) (sub_cons (.tmp rfl) (sub_cons (.tmp rfl) (sub_cons (.eq (.tmp rfl) (by rfl)) (sub_cons (.eq (.tmp rfl) (by rfl)) (sub_cons (.eq (.tmp rfl) (by rfl)) (sub_nil)))))))
      intro n hinv
      refine JC.seq (JC.seq (JC.region ?_))
      refine J.m (.tmp rfl) rfl ?_
      refine J.o (ot_leq (.tmp rfl) .is) rfl ?_
      refine J.nil (JQ.then_normal ?_)
      refine JC.cond (.tmp rfl) (fun hc4 => ?_) (fun hc4 => ?_)
      · try simp only [bsx] at hc4
        have hs76 := hc4
        refine JC.skip (JQ.then_normal (JC.seq (JC.block (JC.seq ?_))))
        refine JC.draw (Γ' := ?g3) mo (by kernel_rfl) ?tw3 ?k3
        case tw3 =>
          refine TW.m (.tmp rfl) rfl ?_
          refine TW.m (.tmp rfl) rfl ?_
          refine TW.opg rfl rfl rfl (ltN rfl) (fun hg => ot_fieldAddr_own (.tmp rfl) fd37_1) rfl (ltN rfl) ?_
          refine TW.opg rfl rfl rfl (ltN rfl) (fun hg => ot_load_own (.iff hg (.tmp rfl)) (.tail _ (.tail _ (.head _))) sc34 (cTs_ld rfl)) rfl (ltN rfl) ?_
          refine TW.opg rfl rfl rfl (ltN rfl) (fun hg => ot_move (.tmp rfl)) rfl (ltN rfl) ?_
          refine TW.opg rfl rfl rfl (ltN rfl) (fun hg => ot_call fn15 (permits_c ((atomM p r).rel) (((n : Nat) : Int) - 1) ) (.cons (.iff hg (.tmp rfl)) (.cons (.iff hg (.tmp rfl)) .nil))) rfl (ltN rfl) ?_
          refine TW.opg rfl rfl rfl (ltN rfl) (fun hg => ot_fieldAddr_own (.tmp rfl) fd37_1) rfl (ltN rfl) ?_
          refine TW.opg rfl rfl rfl (ltN rfl) (fun hg => ot_load_own (.iff hg (.tmp rfl)) (.tail _ (.head _)) sc34 (cTs_ld rfl)) rfl (ltN rfl) ?_
          refine TW.opg rfl rfl rfl (ltN rfl) (fun hg => ot_move (.tmp rfl)) rfl (ltN rfl) ?_
          refine TW.opg rfl rfl rfl (ltN rfl) (fun hg => ot_call fn15 (permits_c (relN r) (((n : Nat) : Int) - 1) ) (.cons (.iff hg (.tmp rfl)) (.cons (.iff hg (.tmp rfl)) .nil))) rfl (ltN rfl) ?_
          refine TW.opg rfl rfl rfl (ltN rfl) (fun hg => ot_eqlb (.iff hg (.tmp rfl)) (.iff hg (.tmp rfl)) un4) rfl (ltN rfl) ?_
          refine TW.o (ot_and2 (.tmp rfl) (.tmp rfl) .is) rfl ?_
          refine TW.o (ot_assign (.tmp rfl)) rfl ?_
          exact TW.nil
        refine JQ.then_normal ?_
        refine JC.draw (Γ' := ?g4) mo (by kernel_rfl) ?tw4 ?k4
        case tw4 =>
          refine TW.m (.tmp rfl) rfl ?_
          refine TW.m (.tmp rfl) rfl ?_
          refine TW.opg rfl rfl rfl (ltN rfl) (fun hg => ot_fieldAddr_own (.tmp rfl) fd37_1) rfl (ltN rfl) ?_
          refine TW.opg rfl rfl rfl (ltN rfl) (fun hg => ot_load_own (.iff hg (.tmp rfl)) (.tail _ (.tail _ (.head _))) sc34 (cTs_ld rfl)) rfl (ltN rfl) ?_
          refine TW.opg rfl rfl rfl (ltN rfl) (fun hg => ot_move (.tmp rfl)) rfl (ltN rfl) ?_
          refine TW.opg rfl rfl rfl (ltN rfl) (fun hg => ot_call fn15 (permits_c ((atomM p r).rel) (((n : Nat) : Int) - 1) ) (.cons (.iff hg (.tmp rfl)) (.cons (.iff hg (.tmp rfl)) .nil))) rfl (ltN rfl) ?_
          refine TW.opg rfl rfl rfl (ltN rfl) (fun hg => ot_fieldAddr_own (.tmp rfl) fd37_1) rfl (ltN rfl) ?_
          refine TW.opg rfl rfl rfl (ltN rfl) (fun hg => ot_load_own (.iff hg (.tmp rfl)) (.tail _ (.head _)) sc34 (cTs_ld rfl)) rfl (ltN rfl) ?_
          refine TW.opg rfl rfl rfl (ltN rfl) (fun hg => ot_move (.tmp rfl)) rfl (ltN rfl) ?_
          refine TW.opg rfl rfl rfl (ltN rfl) (fun hg => (by have hg' := hg; (try simp only [bsx] at hg'); exact ot_neg (.iff hg (.tmp rfl)) (w64 (by omega) (by omega)))) rfl (ltN rfl) ?_
          refine TW.opg rfl rfl rfl (ltN rfl) (fun hg => ot_call fn15 (permits_c (relN r) (0 - (((n : Nat) : Int) - 1)) ) (.cons (.iff hg (.tmp rfl)) (.cons (.iff hg (.tmp rfl)) .nil))) rfl (ltN rfl) ?_
          refine TW.opg rfl rfl rfl (ltN rfl) (fun hg => ot_eqlb (.iff hg (.tmp rfl)) (.iff hg (.tmp rfl)) un4) rfl (ltN rfl) ?_
          refine TW.o (ot_and2 (.tmp rfl) (.tmp rfl) .is) rfl ?_
          refine TW.o (ot_assign (.tmp rfl)) rfl ?_
          exact TW.nil
        refine JQ.block_normal (JQ.then_normal (JC.region ?_))
        refine J.m (.tmp rfl) rfl ?_
        refine J.o (ot_add (.tmp rfl) .is (w64 (by omega) (by omega))) rfl ?_
        refine J.a (.tmp rfl) rfl ?_
        refine J.nil ?_
        exact JQ.round (n + 1) (by omega) (by omega) (sub_trans (sub_heap (.keep (fun _ _ h => h) (.keep (fun _ _ h => h) (.keep (fun _ _ h => h) (.keep (fun _ _ h => h) (.keep (fun _ _ h => h) .nil)))))) (sub_cons (.tmp rfl) (sub_cons (.tmp rfl) (sub_cons (.tmp rfl) (sub_cons (.eq (.tmp rfl) (by rw [hre]; rfl)) (sub_cons (.eq (.tmp rfl) (by rw [hre]; rfl)) (sub_cons (.eq (.tmp rfl) (by first | rfl | (congr 3; omega) | (congr 2; omega))) (sub_nil))))))))
      · try simp only [bsx] at hc4
        have hs76 := hc4
        refine JC.exit (JQ.then_exit (JQ.then_exit (JQ.block_exit (JQ.then_normal (JC.seq (JC.region ?_))))))
        refine J.m (.tmp rfl) rfl ?_
        refine J.m (.tmp rfl) rfl ?_
        refine J.opg rfl rfl rfl (ltN rfl) (fun hg => ot_move (.tmp rfl)) rfl (ltN rfl) ?_
        refine J.o (ot_or2 (.tmp rfl) .is (.tmp rfl)) rfl ?_
        refine J.a (.tmp rfl) rfl ?_
        refine J.nil (JQ.then_normal (JC.ret ?_))
        exact JQ.ret1 rfl (.tmp (.eq (.tmp rfl) (by rw [show n = 3 by omega]; exact congrArg (fun x => tIs (.bool x)) (rel_either p r 3))))

end Go.Proofs.Ytkpmcldbcljkfaa
