/- Walks through the program: each function called at values of the kinds that its contract names returns what the contract says. Conditions: those in the contracts. Written by the program wip/gen. -/
import Derived.Test.YtcbnpddeiaccbaaW4
set_option linter.unusedVariables false
set_option linter.unusedSimpArgs false
set_option maxRecDepth 100000
set_option maxHeartbeats 4000000
namespace Go.Proofs.Ytcbnpddeiaccbaa
open Go Go.RowKit Go.Rt
theorem pexact_c {D E u B : Nat} (k : Nat) (f g : Pol) (hk : k ≤ 4) (cf : CanP k f) (cg : CanP k g) (hz : zeroP g = false) (sf : Sz D f) (sg : Sz E g) (ng : nrm g + 2 ≤ B32 ^ u) (nf : nrm f < B32 ^ B) (rm : Rm k D E u B) : Ctr Try.prog 74 [tV encP f, tV encP g] (tTup [tV encP ((exactF k f g).getD p0), tIs (.bool ((exactF k f g).isSome))]) := by
 induction k using Nat.strongRecOn generalizing f g D B
 rename_i k ih
 have hlf := cf.lev.lv
 have hlg := cg.lev.lv
 have hb := rm.base
 have pf : Pg D B f := ⟨cf.mono hk, sf, nf⟩
 have pg : Pg E u g := ⟨cg.mono hk, sg, by omega⟩
 have ff := pf.fit (by omega)
 have fg := pg.fit (by omega)
 have hfc := ff.c
 have hgc := fg.c
 have hfcs := sf.cs
 have hgcs := sg.cs
 refine Ctr.of Try.func74 rfl Try.ntmps74 (Nat.le_of_ble_eq_true rfl) fun w0 M0 => (JC.g ?_)
 refine J.boxF (Ts := [tIs (.int .i64 (f.lv)), tIs (.bool (f.c.neg)), tSl encD (f.c.abs), tSl encP (f.cs)]) (.t rfl) (polT_eq _) (ltN rfl) fun b2 => ?_
 refine J.boxF (Ts := [tIs (.int .i64 (g.lv)), tIs (.bool (g.c.neg)), tSl encD (g.c.abs), tSl encP (g.cs)]) (.t rfl) (polT_eq _) (ltN rfl) fun b3 => ?_
 refine J.alloc (R := cTs zP) zr28 (fun _ => ⟨rfl, rfl, rfl, rfl, slP_nil _ _, rfl, slP_nil _ _, rfl, trivial⟩) (ltN rfl) fun b4 => ?_
 refine J.a .is rfl (J.e (JC.seq (JC.g ?_)))
 refine J.o (oa (.t rfl) (.tail _ (.tail _ (.head _))) ag28 (cTs_ldV (g := polT) (y := f) (polT_eq f).symm rfl)) rfl ?_
 refine J.o (oc fn30 (isZeroK_c f pf ⟨by omega, by omega⟩) (.cons (.t rfl) .nil)) rfl (J.e ?_)
 refine JC.cond (.t rfl) (fun hc0 => ?_) (fun hc0 => ?_)
 ·try simp only [bsx] at hc0
  have hs25 := hc0
  refine (JC.g ?_)
  refine J.o (oa (.t rfl) (.tail _ (.tail _ (.head _))) ag28 (cTs_ldV (g := polT) (y := f) (polT_eq f).symm rfl)) rfl ?_
  refine J.store (.t rfl) (.eq (.t rfl) (tV_F (Ts := [tIs (.int .i64 (f.lv)), tIs (.bool (f.c.neg)), tSl encD (f.c.abs), tSl encP (f.cs)]) (polT_eq _))) .here sz28 (st_agg (Ts' := [tIs (.int .i64 (f.lv)), tIs (.bool (f.c.neg)), tSl encD (f.c.abs), tSl encP (f.cs)]) (o := 0) rfl) ?_
  refine J.a .is rfl (J.e (JC.ret (JQ.then_ret ?_)))
  exact JQ.ret2 rfl (.agg (.t rfl) (.head _) ag28 (agg_eq (T := tV encP f) (T' := tV encP ((exactF k f g).getD p0)) (by rw [exactF_zero (by simpa using hs25)]; rfl) (cTs_ldV (g := polT) (y := f) (polT_eq f).symm rfl))) (.tmp (.eq (.t rfl) (by rw [exactF_zero (by simpa using hs25)]; rfl)))
 ·try simp only [bsx] at hc0
  have hs25 := hc0
  have hfz : zeroP f = false := by simpa using hs25
  refine JC.skip (JQ.then_normal (JC.seq (JC.g ?_)))
  refine J.o (ofa (.t rfl) fd28_0) rfl ?_
  refine J.o (ol (.t rfl) (.tail _ (.tail _ (.head _))) sc3 (cTs_ld rfl)) rfl ?_
  refine J.o (ofa (.t rfl) fd28_0) rfl ?_
  refine J.o (ol (.t rfl) (.tail _ (.head _)) sc3 (cTs_ld rfl)) rfl ?_
  refine J.o (ot_lss (.t rfl) (.t rfl)) rfl (J.e ?_)
  refine JC.cond (.t rfl) (fun hc1 => ?_) (fun hc1 => ?_)
  ·try simp only [bsx] at hc1
   have hs31 := hc1
   refine (JC.g ?_)
   refine J.o (ot_eqt (T' := tV encP (Pol.mk 0 (Z.mk false ([])) ([]))) (ot_build (Ts := zP) pl28 (fun _ => ⟨rfl, rfl, rfl, rfl, slP_nil _ _, rfl, slP_nil _ _, rfl, trivial⟩) (.nil) rfl) (tV_F' (polT_eq _))) rfl ?_
   refine J.store (.t rfl) (.eq (.t rfl) (tV_F (Ts := zP) (polT_eq _))) .here sz28 (st_agg (Ts' := zP) (o := 0) rfl) ?_
   refine J.a .is rfl (J.e (JC.ret (JQ.then_ret ?_)))
   exact JQ.ret2 rfl (.agg (.t rfl) (.head _) ag28 (agg_eq (T := tV encP (Pol.mk 0 (Z.mk false ([])) ([]))) (T' := tV encP ((exactF k f g).getD p0)) (by rw [exactF_lt hfz hs31]; rfl) (cTs_ldV (g := polT) (y := (Pol.mk 0 (Z.mk false ([])) ([]))) (polT_eq (Pol.mk 0 (Z.mk false ([])) ([]))).symm rfl))) (.tmp (.eq (.t rfl) (by rw [exactF_lt hfz hs31]; rfl)))
  ·try simp only [bsx] at hc1
   have hs31 := hc1
   refine JC.skip (JQ.then_normal (JC.seq (JC.g ?_)))
   refine J.o (ofa (.t rfl) fd28_0) rfl ?_
   refine J.o (ol (.t rfl) (.tail _ (.tail _ (.head _))) sc3 (cTs_ld rfl)) rfl ?_
   refine J.o (ot_eql (.t rfl) .is) rfl (J.e ?_)
   refine JC.cond (.t rfl) (fun hc2 => ?_) (fun hc2 => ?_)
   ·try simp only [bsx] at hc2
    have hs35 := hc2
    have hg0 : g.lv = 0 := by omega
    have hgn : zval g.c ≠ 0 := fun e => by rw [zeroP, decide_eq_true hg0, decide_eq_true e] at hz; cases hz
    refine (JC.g ?_)
    refine J.o (ofa (.t rfl) fd28_1) rfl ?_
    refine J.o (oa (.t rfl) (.tail _ (.tail _ (.head _))) ag25 (cTs_ldV (g := zT) (y := f.c) rfl rfl)) rfl ?_
    refine J.o (ofa (.t rfl) fd28_1) rfl ?_
    refine J.o (oa (.t rfl) (.tail _ (.head _)) ag25 (cTs_ldV (g := zT) (y := g.c) rfl rfl)) rfl ?_
    refine J.o (oc fn101 (dexactG_c f.c g.c (by omega) (by omega) (by have := zval_val g.c; omega)) (.cons (.t rfl) (.cons (.t rfl) .nil))) rfl (J.M rfl rfl ?_)
    refine J.o (ot_extract (.t rfl) rfl) rfl ?_
    refine J.o (ot_extract (.t rfl) rfl) rfl ?_
    refine J.alloc (R := cTs [tIs (.bool false), tSl encD ([])]) zr25 (fun _ => ⟨rfl, rfl, slP_nil _ _, rfl, trivial⟩) (ltN rfl) fun b6 => ?_
    refine J.store (.t rfl) (.eq (.t rfl) (tV_F (Ts := [tIs (.bool ((if zval g.c ∣ zval f.c then ofI (zval f.c / zval g.c) else z0).neg)), tSl encD ((if zval g.c ∣ zval f.c then ofI (zval f.c / zval g.c) else z0).abs)]) rfl)) .here sz25 (st_agg (Ts' := [tIs (.bool ((if zval g.c ∣ zval f.c then ofI (zval f.c / zval g.c) else z0).neg)), tSl encD ((if zval g.c ∣ zval f.c then ofI (zval f.c / zval g.c) else z0).abs)]) (o := 0) rfl) (J.A rfl rfl (J.e (JC.g ?_)))
    refine J.o (oa (.t rfl) (.head _) ag25 (cTs_ldV (g := zT) (y := (if zval g.c ∣ zval f.c then ofI (zval f.c / zval g.c) else z0)) rfl rfl)) rfl ?_
    refine J.o (oc fn36 (constK_c (if zval g.c ∣ zval f.c then ofI (zval f.c / zval g.c) else z0) (by split; (exact Nat.le_trans (quo_len ff.d hfc) (by omega)); (exact Nat.zero_le _))) (.cons (.t rfl) .nil)) rfl (J.M rfl rfl ?_)
    refine J.o (ot_eql (.t rfl) .is) rfl ?_
    refine J.store (.t rfl) (.eq (.t rfl) (tV_F (Ts := [tIs (.int .i64 ((constP (zval (if zval g.c ∣ zval f.c then ofI (zval f.c / zval g.c) else z0))).lv)), tIs (.bool (((constP (zval (if zval g.c ∣ zval f.c then ofI (zval f.c / zval g.c) else z0))).c).neg)), tSl encD (((constP (zval (if zval g.c ∣ zval f.c then ofI (zval f.c / zval g.c) else z0))).c).abs), tSl encP ((constP (zval (if zval g.c ∣ zval f.c then ofI (zval f.c / zval g.c) else z0))).cs)]) (polT_eq _))) (.there .here) sz28 (st_agg (Ts' := [tIs (.int .i64 ((constP (zval (if zval g.c ∣ zval f.c then ofI (zval f.c / zval g.c) else z0))).lv)), tIs (.bool (((constP (zval (if zval g.c ∣ zval f.c then ofI (zval f.c / zval g.c) else z0))).c).neg)), tSl encD (((constP (zval (if zval g.c ∣ zval f.c then ofI (zval f.c / zval g.c) else z0))).c).abs), tSl encP ((constP (zval (if zval g.c ∣ zval f.c then ofI (zval f.c / zval g.c) else z0))).cs)]) (o := 0) rfl) (J.A rfl rfl (J.e (JC.ret (JQ.then_ret ?_))))
    exact JQ.ret2 rfl (.agg (.t rfl) (.tail _ (.head _)) ag28 (agg_eq (T := tV encP (constP (zval (if zval g.c ∣ zval f.c then ofI (zval f.c / zval g.c) else z0)))) (T' := tV encP ((exactF k f g).getD p0)) (by rw [exactF_const hfz hs31 hs35, constF]; split <;> first | (rw [zval_ofI]; rfl) | (rw [zval_z0, constP_zero]; rfl)) (cTs_ldV (g := polT) (y := (constP (zval (if zval g.c ∣ zval f.c then ofI (zval f.c / zval g.c) else z0)))) (polT_eq (constP (zval (if zval g.c ∣ zval f.c then ofI (zval f.c / zval g.c) else z0)))).symm rfl))) (.tmp (.eq (.t rfl) (by rw [exactF_const hfz hs31 hs35, constF]; split <;> rfl)))
   ·try simp only [bsx] at hc2
    have hs35 := hc2
    refine JC.skip (JQ.then_normal (JC.g ?_))
    refine J.o (ofa (.t rfl) fd28_0) rfl ?_
    refine J.o (ol (.t rfl) (.tail _ (.tail _ (.head _))) sc3 (cTs_ld rfl)) rfl (J.A rfl rfl (J.e (JC.seq (JC.g ?_))))
    refine J.o (ofa (.t rfl) fd28_0) rfl ?_
    refine J.o (ol (.t rfl) (.tail _ (.head _)) sc3 (cTs_ld rfl)) rfl (J.M rfl rfl ?_)
    refine J.o (ot_lss (.t rfl) (.t rfl)) rfl (J.e ?_)
    refine JC.cond (.t rfl) (fun hc3 => ?_) (fun hc3 => ?_)
    ·try simp only [bsx] at hc3
     have hs53 := hc3
     obtain ⟨m, hm⟩ : ∃ m, k = m + 1 := ⟨k - 1, by omega⟩
     have rm1 : Rm (m + 1) D E u B := hm ▸ rm
     have hDE := rm1.2.2.2.base
     obtain ⟨l, hl⟩ : ∃ l : Nat, f.lv = ((l + 1 : Nat) : Int) := ⟨f.lv.toNat - 1, by omega⟩
     have hlm : l ≤ m := by omega
     have hcs := cf.sub_can hl
     have cgl : CanP l g := cg.lower (by omega)
     have hnc := cf.c_node hl
     have ihc := fun c (hc : c ∈ f.cs) => ih m (by omega) (D := D) (B := B) c g (by omega) ((hcs c hc).mono hlm) (cgl.mono hlm) hz (sf.sub c hc) sg ng (Nat.lt_of_le_of_lt (nrmL_sub hc) nf) (Rm.down hb.1 (by omega) (by omega) rm1.2.2.2)
     refine (JC.g ?_)
     refine J.o (ofa (.t rfl) fd28_2) rfl ?_
     refine J.o (ol (.t rfl) (.tail _ (.tail _ (.head _))) sc26 (cTs_ld rfl)) rfl ?_
     refine J.o (ot_len (.t rfl) sl26 rfl) rfl ?_
     refine J.make (E := encP) (z := p0) (n := f.cs.length) sl26 (.eq (.t rfl) rfl) (.eq (.t rfl) rfl) zr28 (fun _ => encP_zero) (by decide) (by omega) (by omega) (ltN rfl) fun b57 => (J.A rfl rfl (J.e (JC.seq (JC.g ?_))))
     refine J.o (ofa (.t rfl) fd28_2) rfl ?_
     refine J.o (ol (.t rfl) (.tail _ (.tail _ (.tail _ (.head _)))) sc26 (cTs_ld rfl)) rfl ?_
     refine J.o (ot_len (.t rfl) sl26 rfl) rfl ?_
     refine J.m .is rfl (J.e (JC.block ?_))
     refine JC.loop (ι := Nat) (fun i => [(2, pOwn b2 0), (3, pOwn b3 0), (4, pOwn b4 0), (8, tIs (.int .i64 (f.lv))), (9, sIs b57 0 (f.cs.length) (f.cs.length)), (59, tSl encP (f.cs)), (60, tIs (.int .i64 (((f.cs).length : Int)))), (61, tIs (.int .i64 (i : Int)))]) (fun i => [⟨b57, 28, cRow encP ((fillP (fun c => (exactF m c g).getD p0) f.cs i)) (f.cs.length)⟩, ⟨b4, 28, cTs zP⟩, ⟨b3, 28, cTs [tIs (.int .i64 (g.lv)), tIs (.bool (g.c.neg)), tSl encD (g.c.abs), tSl encP (g.cs)]⟩, ⟨b2, 28, cTs [tIs (.int .i64 (f.lv)), tIs (.bool (f.c.neg)), tSl encD (f.c.abs), tSl encP (f.cs)]⟩]) (fun i => i ≤ f.cs.length ∧ (f.cs.take i).all (fun c => (exactF m c g).isSome) = true) (fun i => f.cs.length - i) 0 ⟨by omega, by simp⟩ ?lsub0 ?round0
     case lsub0 => exact sub_trans (sub_heap (.keep (cRow_eq fillP_zero) (.k (.k (.k .nil))))) (sub_l ⟨.t rfl, .t rfl, .t rfl, .t rfl, .t rfl, .t rfl, .t rfl, .eq (.t rfl) (by first | rfl | (congr 3; omega) | (congr 2; omega)), trivial⟩)
     intro i hinv
     obtain ⟨hi, hall⟩ := hinv
     have hfl := fillP_len (f := (fun c => (exactF m c g).getD p0)) hi
     refine (JC.g ?_)
     refine J.o (ot_lss (.t rfl) (.t rfl)) rfl (J.e (JC.seq ?_))
     refine JC.cond (.t rfl) (fun hc4 => ?_) (fun hc4 => ?_)
     ·try simp only [bsx] at hc4
      have hs62 := hc4
      refine JC.skip (JQ.then_normal (JC.seq (JC.block (JC.g (J.M rfl rfl ?_)))))
      refine J.o (ixo (z := atP f.cs i) (.t rfl) (.t rfl) sl26 (by omega) (atP_at (by omega) (by omega))) rfl ?_
      refine J.o (lda (.t rfl) ag28 ldp_whole) rfl ?_
      refine J.alloc (R := cTs zP) zr28 (fun _ => ⟨rfl, rfl, rfl, rfl, slP_nil _ _, rfl, slP_nil _ _, rfl, trivial⟩) (ltN rfl) fun b11 => (J.A rfl rfl ?_)
      refine J.store (.t rfl) (.eq (.t rfl) (tV_F (Ts := [tIs (.int .i64 ((atP f.cs i).lv)), tIs (.bool (((atP f.cs i).c).neg)), tSl encD (((atP f.cs i).c).abs), tSl encP ((atP f.cs i).cs)]) (polT_eq _))) .here sz28 (st_agg (Ts' := [tIs (.int .i64 ((atP f.cs i).lv)), tIs (.bool (((atP f.cs i).c).neg)), tSl encD (((atP f.cs i).c).abs), tSl encP ((atP f.cs i).cs)]) (o := 0) rfl) (J.e (JC.g ?_))
      refine J.o (oa (.t rfl) (.head _) ag28 (cTs_ldV (g := polT) (y := (atP f.cs i)) (polT_eq (atP f.cs i)).symm rfl)) rfl ?_
      refine J.o (oa (.t rfl) (.tail _ (.tail _ (.tail _ (.head _)))) ag28 (cTs_ldV (g := polT) (y := g) (polT_eq g).symm rfl)) rfl ?_
      refine J.o (oc fn74 (ihc (atP f.cs i) (atP_mem (by omega))) (.cons (.t rfl) (.cons (.t rfl) .nil))) rfl (J.M rfl rfl ?_)
      refine J.o (ot_extract (.t rfl) rfl) rfl ?_
      refine J.o (ot_extract (.t rfl) rfl) rfl ?_
      refine J.alloc (R := cTs zP) zr28 (fun _ => ⟨rfl, rfl, rfl, rfl, slP_nil _ _, rfl, slP_nil _ _, rfl, trivial⟩) (ltN rfl) fun b12 => ?_
      refine J.store (.t rfl) (.eq (.t rfl) (tV_F (Ts := [tIs (.int .i64 (((exactF m (atP f.cs i) g).getD p0).lv)), tIs (.bool ((((exactF m (atP f.cs i) g).getD p0).c).neg)), tSl encD ((((exactF m (atP f.cs i) g).getD p0).c).abs), tSl encP (((exactF m (atP f.cs i) g).getD p0).cs)]) (polT_eq _))) .here sz28 (st_agg (Ts' := [tIs (.int .i64 (((exactF m (atP f.cs i) g).getD p0).lv)), tIs (.bool ((((exactF m (atP f.cs i) g).getD p0).c).neg)), tSl encD ((((exactF m (atP f.cs i) g).getD p0).c).abs), tSl encP (((exactF m (atP f.cs i) g).getD p0).cs)]) (o := 0) rfl) (J.A rfl rfl (J.e (JC.seq (JC.g (J.M rfl rfl ?_)))))
      refine J.o (ot_not (.t rfl)) rfl (J.e ?_)
      refine JC.cond (.t rfl) (fun hc5 => ?_) (fun hc5 => ?_)
      ·try simp only [bsx] at hc5
       have hs73 := hc5
       have hno : (exactF m (atP f.cs i) g).isSome = false := by simpa using hs73
       refine (JC.g ?_)
       refine J.o (ot_eqt (T' := tV encP (Pol.mk 0 (Z.mk false ([])) ([]))) (ot_build (Ts := zP) pl28 (fun _ => ⟨rfl, rfl, rfl, rfl, slP_nil _ _, rfl, slP_nil _ _, rfl, trivial⟩) (.nil) rfl) (tV_F' (polT_eq _))) rfl ?_
       refine J.store (.t rfl) (.eq (.t rfl) (tV_F (Ts := zP) (polT_eq _))) (.there (.there (.there .here))) sz28 (st_agg (Ts' := zP) (o := 0) rfl) ?_
       refine J.a .is rfl (J.e (JC.ret (JQ.then_ret (JQ.block_ret (JQ.then_ret (JQ.then_ret (JQ.block_ret (JQ.then_ret (JQ.then_ret ?_)))))))))
       exact JQ.ret2 rfl (.agg (.t rfl) (.tail _ (.tail _ (.tail _ (.head _)))) ag28 (agg_eq (T := tV encP (Pol.mk 0 (Z.mk false ([])) ([]))) (T' := tV encP ((exactF k f g).getD p0)) (by rw [hm, exactF_coef hfz hs31 hs35 hs53, coefF_none (atP_mem (cs := f.cs) (i := i) (by omega)) hno]; rfl) (cTs_ldV (g := polT) (y := (Pol.mk 0 (Z.mk false ([])) ([]))) (polT_eq (Pol.mk 0 (Z.mk false ([])) ([]))).symm rfl))) (.tmp (.eq (.t rfl) (by rw [hm, exactF_coef hfz hs31 hs35 hs53, coefF_none (atP_mem (cs := f.cs) (i := i) (by omega)) hno]; rfl)))
      ·try simp only [bsx] at hc5
       have hs73 := hc5
       have hok : (exactF m (atP f.cs i) g).isSome = true := by simpa using hs73
       refine JC.skip (JQ.then_normal (JC.region (J.M rfl rfl (J.M rfl rfl ?_))))
       refine J.o (oa (.t rfl) (.head _) ag28 (cTs_ldV (g := polT) (y := ((exactF m (atP f.cs i) g).getD p0)) (polT_eq ((exactF m (atP f.cs i) g).getD p0)).symm rfl)) rfl ?_
       refine J.o (ot_eqt (T' := pOwn b57 (0 + i * 4)) (oix (.t rfl) (.t rfl) sl26 (by omega) (by omega)) (own_off2 (by omega))) rfl ?_
       refine J.store (.t rfl) (.t rfl) (.there (.there .here)) sz28 (row_set (by omega)) (J.nil (JQ.block_normal (JQ.then_normal (JC.region ?_))))
       refine J.o (ot_add (.t rfl) .is (w64 (by omega) (by omega))) rfl (J.M rfl rfl (J.nil ?_))
       exact JQ.round (i + 1) ⟨by omega, all_take (by omega) hall hok⟩ (by omega) (sub_trans (sub_heap (.drop (.drop (.keep (cRow_eq (fillP_set (f := fun c => (exactF m c g).getD p0) (by omega))) (.k (.k (.k .nil))))))) (sub_l ⟨.t rfl, .t rfl, .t rfl, .t rfl, .t rfl, .t rfl, .t rfl, .eq (.t rfl) (by first | rfl | (congr 3; omega) | (congr 2; omega)), trivial⟩))
     ·try simp only [bsx] at hc4
      have hs62 := hc4
      have hif : i = f.cs.length := by omega
      have hfull := fillP_full (f := fun c => (exactF m c g).getD p0) (cs := f.cs) (k := i) (by omega)
      have hco := coefF_all (E := (exactF m · g)) (by rw [hif, List.take_length] at hall; exact hall)
      have hex := exactF_coef (k := m) hfz hs31 hs35 hs53
      rw [hco] at hex
      have hJ := coef_facts hlm (by omega) hcs cgl hz sf.sub sg hb.1 hb.2.1 ng hco
      refine JC.exit (JQ.then_exit (JQ.then_exit (JQ.block_exit (JQ.then_normal (JC.seq ?_)))))
      refine JC.weak (sub_freeze0 (E := encP) (xs := (fillP (fun c => (exactF m c g).getD p0) f.cs i)) (n := f.cs.length) (c := f.cs.length) [9] ⟨rfl, trivial⟩ .here (by omega) (by omega)) (JC.region (J.M rfl rfl (J.M rfl rfl ?_)))
      refine J.o (oc fn91 (joinK_c (fillP (fun c => (exactF m c g).getD p0) f.cs i) l f.lv hl (by omega) (by rw [hfull]; exact hJ.1) (by rw [hfull]; exact hJ.2.1) (by rw [hfull, List.length_map]; exact hfcs) (by rw [hfull]; exact nrm_room hJ.2.2 hnc nf) ⟨by omega, by have := rm1.gm; have := gM_succ (k := m) (D := D) (E := E) (g := u) hb.1; omega, by omega⟩ (cnt_room hlm rm1.2.2.1)) (.cons (.t rfl) (.cons (.t rfl) .nil))) rfl ?_
      refine J.store (.t rfl) (.eq (.t rfl) (tV_F (Ts := [tIs (.int .i64 ((joinP f.lv (fillP (fun c => (exactF m c g).getD p0) f.cs i)).lv)), tIs (.bool (((joinP f.lv (fillP (fun c => (exactF m c g).getD p0) f.cs i)).c).neg)), tSl encD (((joinP f.lv (fillP (fun c => (exactF m c g).getD p0) f.cs i)).c).abs), tSl encP ((joinP f.lv (fillP (fun c => (exactF m c g).getD p0) f.cs i)).cs)]) (polT_eq _))) .here sz28 (st_agg (Ts' := [tIs (.int .i64 ((joinP f.lv (fillP (fun c => (exactF m c g).getD p0) f.cs i)).lv)), tIs (.bool (((joinP f.lv (fillP (fun c => (exactF m c g).getD p0) f.cs i)).c).neg)), tSl encD (((joinP f.lv (fillP (fun c => (exactF m c g).getD p0) f.cs i)).c).abs), tSl encP ((joinP f.lv (fillP (fun c => (exactF m c g).getD p0) f.cs i)).cs)]) (o := 0) rfl) ?_
      refine J.a .is rfl (J.e (JC.ret (JQ.then_ret ?_)))
      exact JQ.ret2 rfl (.agg (.t rfl) (.head _) ag28 (agg_eq (T := tV encP (joinP f.lv (fillP (fun c => (exactF m c g).getD p0) f.cs i))) (T' := tV encP ((exactF k f g).getD p0)) (by rw [hm, hex, hfull]; rfl) (cTs_ldV (g := polT) (y := (joinP f.lv (fillP (fun c => (exactF m c g).getD p0) f.cs i))) (polT_eq (joinP f.lv (fillP (fun c => (exactF m c g).getD p0) f.cs i))).symm rfl))) (.tmp (.eq (.t rfl) (by rw [hm, hex]; rfl)))
    ·try simp only [bsx] at hc3
     have hs53 := hc3
     obtain ⟨m, hm⟩ : ∃ m, k = m + 1 := ⟨k - 1, by omega⟩
     have rm1 : Rm (m + 1) D E u B := hm ▸ rm
     have hDE := rm1.2.2.2.base
     obtain ⟨l, hl⟩ : ∃ l : Nat, f.lv = ((l + 1 : Nat) : Int) := ⟨f.lv.toNat - 1, by omega⟩
     have hlm : l ≤ m := by omega
     have hcs := cf.sub_can hl
     have hgs := cg.sub_can (l := l) (by omega)
     obtain ⟨e2, e3, _, _⟩ := cg.ends (by omega)
     have hnf : nrmL f.cs ≤ nrm f := by rw [nrm_eq]; exact Nat.le_add_left _ _
     have hng : nrmL g.cs ≤ nrm g := by rw [nrm_eq]; exact Nat.le_add_left _ _
     refine JC.skip (JQ.then_normal (JC.seq ?_))
     refine JC.drawM (ι := Nat × Nat) (Hb := fun κ => [⟨κ.1, 28, cRow encP (f.cs) (f.cs.length)⟩, ⟨b4, 28, cTs zP⟩, ⟨b3, 28, cTs [tIs (.int .i64 (g.lv)), tIs (.bool (g.c.neg)), tSl encD (g.c.abs), tSl encP (g.cs)]⟩, ⟨b2, 28, cTs [tIs (.int .i64 (f.lv)), tIs (.bool (f.c.neg)), tSl encD (f.c.abs), tSl encP (f.cs)]⟩]) (Tn := fun κ => sIs κ.1 0 (f.cs.length) (f.cs.length)) (Γn := [(84, tIs (.int .i64 (f.lv))), (83, tV encP f), (53, tIs (.bool (decide (g.lv < f.lv)))), (52, tIs (.int .i64 (f.lv))), (51, tIs (.int .i64 (g.lv))), (50, pOwn b3 0), (8, tIs (.int .i64 (f.lv))), (49, tIs (.int .i64 (f.lv))), (48, pOwn b2 0), (35, tIs (.bool (decide (f.lv = 0)))), (34, tIs (.int .i64 (f.lv))), (33, pOwn b2 0), (31, tIs (.bool (decide (f.lv < g.lv)))), (30, tIs (.int .i64 (g.lv))), (29, pOwn b3 0), (28, tIs (.int .i64 (f.lv))), (27, pOwn b2 0), (25, tIs (.bool (zeroP f))), (24, tV encP f), (5, tIs (.bool false)), (4, pOwn b4 0), (3, pOwn b3 0), (2, pOwn b2 0), (0, tV encP f), (1, tV encP g)]) (Γ' := ?g1) 2 (fun i => [3, 4, 6].contains i) mo (by kernel_rfl) rfl rfl ?tw1 ?st1 ?k1
     case tw1 =>
      refine TM.pre (oa (.t rfl) (.tail _ (.tail _ (.head _))) ag28 (cTs_ldV (g := polT) (y := f) (polT_eq f).symm rfl)) rfl (ltN rfl) rfl rfl ?_
      refine TM.pre (ot_move (.t rfl)) rfl (ltN rfl) rfl rfl ?_
      refine TM.mid rfl (ltN rfl) rfl ?_
      refine TM.any (ofa (.t rfl) fd28_2) (fun κ => ofa (.t rfl) fd28_2) rfl (ltN rfl) rfl rfl ?_
      refine TM.any (ol (.t rfl) (.tail _ (.head _)) sc26 (cTs_ld rfl)) (fun κ => ol (.t rfl) (.tail _ (.tail _ (.head _))) sc26 (cTs_ld rfl)) rfl (ltN rfl) rfl rfl ?_
      refine TM.post (T := fun κ => sIs κ.1 0 (f.cs.length) (f.cs.length)) (fun κ => ot_assign (.t rfl)) rfl (ltN rfl) rfl rfl ?_
      refine TM.any (ot_assign (.t rfl)) (fun κ => ot_assign (.t rfl)) rfl (ltN rfl) rfl rfl ?_
      exact TM.nil
     case st1 =>
      intro Γx hx
      exact J.callO (R := fun cap => cRow encP (f.cs) (f.cs.length)) fn90 (coefsO_c f pf ⟨by omega, by omega⟩ f.lv rfl hs35) (.cons (.move hx (.t rfl) (by kernel_rfl)) (.cons (.move hx (.t rfl) (by kernel_rfl)) .nil)) (ltN rfl) fun b cap => J.midO (Hb := fun κ => [⟨κ.1, 28, cRow encP (f.cs) (f.cs.length)⟩, ⟨b4, 28, cTs zP⟩, ⟨b3, 28, cTs [tIs (.int .i64 (g.lv)), tIs (.bool (g.c.neg)), tSl encD (g.c.abs), tSl encP (g.cs)]⟩, ⟨b2, 28, cTs [tIs (.int .i64 (f.lv)), tIs (.bool (f.c.neg)), tSl encD (f.c.abs), tSl encP (f.cs)]⟩]) (Tn := fun κ => sIs κ.1 0 (f.cs.length) (f.cs.length)) (b, cap)
     intro κ; obtain ⟨b85, cap85⟩ := κ
     refine JQ.weak (Γ' := [(15, tSl encP (g.cs)), (14, sIs b85 0 (f.cs.length) (f.cs.length)), (87, tSl encP (g.cs)), (86, pOwn b3 3), (85, sIs b85 0 (f.cs.length) (f.cs.length)), (84, tIs (.int .i64 (f.lv))), (83, tV encP f), (53, tIs (.bool (decide (g.lv < f.lv)))), (52, tIs (.int .i64 (f.lv))), (51, tIs (.int .i64 (g.lv))), (50, pOwn b3 0), (8, tIs (.int .i64 (f.lv))), (49, tIs (.int .i64 (f.lv))), (48, pOwn b2 0), (35, tIs (.bool (decide (f.lv = 0)))), (34, tIs (.int .i64 (f.lv))), (33, pOwn b2 0), (31, tIs (.bool (decide (f.lv < g.lv)))), (30, tIs (.int .i64 (g.lv))), (29, pOwn b3 0), (28, tIs (.int .i64 (f.lv))), (27, pOwn b2 0), (25, tIs (.bool (zeroP f))), (24, tV encP f), (5, tIs (.bool false)), (4, pOwn b4 0), (3, pOwn b3 0), (2, pOwn b2 0), (0, tV encP f), (1, tV encP g)]) (H' := [⟨b85, 28, cRow encP (f.cs) (f.cs.length)⟩, ⟨b4, 28, cTs zP⟩, ⟨b3, 28, cTs [tIs (.int .i64 (g.lv)), tIs (.bool (g.c.neg)), tSl encD (g.c.abs), tSl encP (g.cs)]⟩, ⟨b2, 28, cTs [tIs (.int .i64 (f.lv)), tIs (.bool (f.c.neg)), tSl encD (f.c.abs), tSl encP (f.cs)]⟩]) (fun _ _ h => h) (JQ.then_normal (JC.seq (JC.g (J.M rfl rfl ?_))))
     refine J.o (ot_len_own (.t rfl) sl26 rfl) rfl (J.M rfl rfl ?_)
     refine J.o (ot_len (.t rfl) sl26 rfl) rfl ?_
     refine J.o (ot_lss (.t rfl) (.t rfl)) rfl (J.e ?_)
     refine JC.cond (.t rfl) (fun hc6 => ?_) (fun hc6 => ?_)
     ·try simp only [bsx] at hc6
      have hs92 := hc6
      have hsh : f.cs.length < g.cs.length := by omega
      refine (JC.g ?_)
      refine J.o (ot_eqt (T' := tV encP (Pol.mk 0 (Z.mk false ([])) ([]))) (ot_build (Ts := zP) pl28 (fun _ => ⟨rfl, rfl, rfl, rfl, slP_nil _ _, rfl, slP_nil _ _, rfl, trivial⟩) (.nil) rfl) (tV_F' (polT_eq _))) rfl ?_
      refine J.store (.t rfl) (.eq (.t rfl) (tV_F (Ts := zP) (polT_eq _))) (.there .here) sz28 (st_agg (Ts' := zP) (o := 0) rfl) ?_
      refine J.a .is rfl (J.e (JC.ret (JQ.then_ret ?_)))
      exact JQ.ret2 rfl (.agg (.t rfl) (.tail _ (.head _)) ag28 (agg_eq (T := tV encP (Pol.mk 0 (Z.mk false ([])) ([]))) (T' := tV encP ((exactF k f g).getD p0)) (by rw [hm, exactF_short hfz hs31 hs35 hs53 hsh]; rfl) (cTs_ldV (g := polT) (y := (Pol.mk 0 (Z.mk false ([])) ([]))) (polT_eq (Pol.mk 0 (Z.mk false ([])) ([]))).symm rfl))) (.tmp (.eq (.t rfl) (by rw [hm, exactF_short hfz hs31 hs35 hs53 hsh]; rfl)))
     ·try simp only [bsx] at hc6
      have hs92 := hc6
      have hsh : ¬ f.cs.length < g.cs.length := by omega
      have hex := exactF_long (k := m) hfz hs31 hs35 hs53 hsh
      have hLB : LB l E g.cs := ⟨hgs, sg.sub, by omega, e3⟩
      have hd : LD m l D E u B (f.cs.length - g.cs.length + 1) f.cs g.cs := ⟨hLB, hlm, by omega, hb.1, hb.2.1, by omega, Nat.lt_of_le_of_lt hnf nf, by omega⟩
      have hgl : zeroP (atP g.cs (g.cs.length - 1)) = false := e3
      have hgm := atP_mem (cs := g.cs) (i := g.cs.length - 1) (by omega)
      refine JC.skip (JQ.then_normal (JC.g (J.M rfl rfl ?_)))
      refine J.o (ot_len_own (.t rfl) sl26 rfl) rfl (J.M rfl rfl ?_)
      refine J.o (ot_len (.t rfl) sl26 rfl) rfl ?_
      refine J.o (ot_sub (.t rfl) (.t rfl) (w64 (by omega) (by omega))) rfl ?_
      refine J.o (ot_add (.t rfl) .is (w64 (by omega) (by omega))) rfl ?_
      refine J.make (E := encP) (z := p0) (n := (f.cs.length - g.cs.length + 1)) sl26 (.eq (.t rfl) (by congr 2; omega)) (.eq (.t rfl) (by congr 2; omega)) zr28 (fun _ => encP_zero) (by decide) (by omega) (by omega) (ltN rfl) fun b100 => (J.A rfl rfl (J.e (JC.seq (JC.g (J.M rfl rfl ?_)))))
      refine J.o (ot_len_own (.t rfl) sl26 rfl) rfl ?_
      refine J.o (ot_sub (.t rfl) .is (w64 (by omega) (by omega))) rfl (J.A rfl rfl (J.e (JC.block ?_)))
      refine JC.loop3 (α := Nat) (β := List Pol) (γ := List Pol) (fun s A O => [(4, pOwn b4 0), (8, tIs (.int .i64 (f.lv))), (14, sIs b85 0 (f.cs.length) (f.cs.length)), (15, tSl encP (g.cs)), (16, sIs b100 0 (f.cs.length - g.cs.length + 1) (f.cs.length - g.cs.length + 1)), (17, tIs (.int .i64 ((s : Int) - 1)))]) (fun s A O => [⟨b100, 28, cRow encP O (f.cs.length - g.cs.length + 1)⟩, ⟨b85, 28, cRow encP A (f.cs.length)⟩, ⟨b4, 28, cTs zP⟩, ⟨b3, 28, cTs [tIs (.int .i64 (g.lv)), tIs (.bool (g.c.neg)), tSl encD (g.c.abs), tSl encP (g.cs)]⟩, ⟨b2, 28, cTs [tIs (.int .i64 (f.lv)), tIs (.bool (f.c.neg)), tSl encD (f.c.abs), tSl encP (f.cs)]⟩]) (fun s A O => LI l D E (nrmL f.cs) (KM m D E u) (f.cs.length - g.cs.length + 1) s g.cs A O ∧ longF (exactF m) g.cs s A O = longF (exactF m) g.cs (f.cs.length - g.cs.length + 1) f.cs (List.replicate (f.cs.length - g.cs.length + 1) p0)) (fun s A O => s) (f.cs.length - g.cs.length + 1) f.cs (List.replicate (f.cs.length - g.cs.length + 1) p0) ⟨LI.first (by omega) (by omega) hcs sf.sub (Nat.le_refl _), rfl⟩ ?lsub1 ?round1
      case lsub1 => exact sub_trans (sub_heap (.keep (fun _ _ h => by first | exact h | simpa using h) (.k (.k (.k (.k .nil)))))) (sub_l ⟨.t rfl, .t rfl, .t rfl, .t rfl, .t rfl, .t rfl, trivial⟩)
      intro s A O hinv
      obtain ⟨hL, hv⟩ := hinv
      have hLA := hL.lenA
      have hLO := hL.lenO
      have hLe := hL.le
      refine JC.seq (JC.g (J.M rfl rfl ?_))
      refine J.o (ot_geq (.t rfl) .is) rfl (J.e ?_)
      refine JC.cond (.t rfl) (fun hc7 => ?_) (fun hc7 => ?_)
      ·try simp only [bsx] at hc7
       have hs105 := hc7
       obtain ⟨t, ht⟩ : ∃ t, s = t + 1 := ⟨s - 1, by omega⟩
       have hs1 : s - 1 = t := by omega
       have hLt : LI l D E (nrmL f.cs) (KM m D E u) (f.cs.length - g.cs.length + 1) (s - 1 + 1) g.cs A O := by rw [show s - 1 + 1 = s by omega]; exact hL
       have hta := hLt.top hd
       have hmt := atP_mem hta
       have hpt := hLt.el hd hmt
       refine JC.skip (JQ.then_normal (JC.seq (JC.block (JC.seq ?_))))
       refine JC.weak (Γ' := [(105, tIs (.bool (decide (0 ≤ ((s : Int) - 1))))), (104, tIs (.int .i64 ((s : Int) - 1))), (4, pOwn b4 0), (8, tIs (.int .i64 (f.lv))), (14, sIs b85 0 (f.cs.length) (f.cs.length)), (15, tSl encP (g.cs)), (16, sIs b100 0 (f.cs.length - g.cs.length + 1) (f.cs.length - g.cs.length + 1)), (17, tIs (.int .i64 ((s : Int) - 1)))]) (H' := [⟨b100, 28, cRow encP O (f.cs.length - g.cs.length + 1)⟩, ⟨b85, 28, cRow encP A (f.cs.length)⟩, ⟨b4, 28, cTs zP⟩, ⟨b3, 28, cTs [tIs (.int .i64 (g.lv)), tIs (.bool (g.c.neg)), tSl encD (g.c.abs), tSl encP (g.cs)]⟩, ⟨b2, 28, cTs [tIs (.int .i64 (f.lv)), tIs (.bool (f.c.neg)), tSl encD (f.c.abs), tSl encP (f.cs)]⟩]) (sub_trans (sub_heap (.k (.k (.k (.k (.k .nil)))))) (sub_l ⟨.t rfl, .t rfl, .t rfl, .t rfl, .t rfl, .t rfl, .t rfl, .t rfl, trivial⟩)) ?_
       refine JC.drawP (Ts := [sIs b85 0 (f.cs.length) (f.cs.length), tIs (.int .i64 ((s : Int) - 1)), tSl encP (g.cs), tIs (.int .i64 (((g.cs).length : Int))), tIs (.int .i64 (((s : Int) - 1) + ((g.cs).length : Int))), tIs (.int .i64 ((((s : Int) - 1) + ((g.cs).length : Int)) - 1)), pOwn b85 (0 + (s - 1 + g.cs.length - 1) * 4), tV encP (atP A (s - 1 + g.cs.length - 1)), tSl encP (g.cs), tSl encP (g.cs), tIs (.int .i64 (((g.cs).length : Int))), tIs (.int .i64 (((g.cs).length : Int) - 1)), tPtr (cEnc encP (atP g.cs (g.cs.length - 1))), tV encP (atP g.cs (g.cs.length - 1)), tTup [tV encP ((exactF m (atP A (s - 1 + g.cs.length - 1)) (atP g.cs (g.cs.length - 1))).getD p0), tIs (.bool ((exactF m (atP A (s - 1 + g.cs.length - 1)) (atP g.cs (g.cs.length - 1))).isSome))], tTup [tV encP ((exactF m (atP A (s - 1 + g.cs.length - 1)) (atP g.cs (g.cs.length - 1))).getD p0), tIs (.bool ((exactF m (atP A (s - 1 + g.cs.length - 1)) (atP g.cs (g.cs.length - 1))).isSome))], tV encP ((exactF m (atP A (s - 1 + g.cs.length - 1)) (atP g.cs (g.cs.length - 1))).getD p0), tIs (.bool ((exactF m (atP A (s - 1 + g.cs.length - 1)) (atP g.cs (g.cs.length - 1))).isSome)), tAny, tAny, tAny]) (un := (fun i => [18, 19].contains i)) mo (by kernel_rfl) ?_
       refine RP.step (al := (fun i => [0, 1, 2, 3, 4, 5, 6, 7, 8, 9, 10, 11, 12, 13, 14, 15, 16, 17].contains i)) (Γn := [(125, tIs (.bool ((exactF m (atP A (s - 1 + g.cs.length - 1)) (atP g.cs (g.cs.length - 1))).isSome))), (124, tV encP ((exactF m (atP A (s - 1 + g.cs.length - 1)) (atP g.cs (g.cs.length - 1))).getD p0)), (108, tTup [tV encP ((exactF m (atP A (s - 1 + g.cs.length - 1)) (atP g.cs (g.cs.length - 1))).getD p0), tIs (.bool ((exactF m (atP A (s - 1 + g.cs.length - 1)) (atP g.cs (g.cs.length - 1))).isSome))]), (123, tTup [tV encP ((exactF m (atP A (s - 1 + g.cs.length - 1)) (atP g.cs (g.cs.length - 1))).getD p0), tIs (.bool ((exactF m (atP A (s - 1 + g.cs.length - 1)) (atP g.cs (g.cs.length - 1))).isSome))]), (122, tV encP (atP g.cs (g.cs.length - 1))), (121, tPtr (cEnc encP (atP g.cs (g.cs.length - 1)))), (120, tIs (.int .i64 (((g.cs).length : Int) - 1))), (119, tIs (.int .i64 (((g.cs).length : Int)))), (118, tSl encP (g.cs)), (117, tSl encP (g.cs)), (116, tV encP (atP A (s - 1 + g.cs.length - 1))), (115, pOwn b85 (0 + (s - 1 + g.cs.length - 1) * 4)), (114, tIs (.int .i64 ((((s : Int) - 1) + ((g.cs).length : Int)) - 1))), (113, tIs (.int .i64 (((s : Int) - 1) + ((g.cs).length : Int)))), (112, tIs (.int .i64 (((g.cs).length : Int)))), (111, tSl encP (g.cs)), (110, tIs (.int .i64 ((s : Int) - 1))), (109, sIs b85 0 (f.cs.length) (f.cs.length)), (105, tIs (.bool (decide (0 ≤ ((s : Int) - 1))))), (104, tIs (.int .i64 ((s : Int) - 1))), (4, pOwn b4 0), (8, tIs (.int .i64 (f.lv))), (14, sIs b85 0 (f.cs.length) (f.cs.length)), (15, tSl encP (g.cs)), (16, sIs b100 0 (f.cs.length - g.cs.length + 1) (f.cs.length - g.cs.length + 1)), (17, tIs (.int .i64 ((s : Int) - 1)))]) (Γ' := ?pg1) 18 (by kernel_rfl) (by kernel_rfl) ?tp1 ?nx1
       case tp1 =>
        refine TP.op (ot_move (.t rfl)) rfl (ltN rfl) rfl rfl ?_
        refine TP.op (ot_move (.t rfl)) rfl (ltN rfl) rfl rfl ?_
        refine TP.op (ot_move (.t rfl)) rfl (ltN rfl) rfl rfl ?_
        refine TP.op (ot_len (.t rfl) sl26 rfl) rfl (ltN rfl) rfl rfl ?_
        refine TP.op (ot_add (.t rfl) (.t rfl) (w64 (by omega) (by omega))) rfl (ltN rfl) rfl rfl ?_
        refine TP.op (ot_sub (.t rfl) .is (w64 (by omega) (by omega))) rfl (ltN rfl) rfl rfl ?_
        refine TP.op (ot_eqt (T' := pOwn b85 (0 + (s - 1 + g.cs.length - 1) * 4)) (oix (.t rfl) (.t rfl) sl26 (by omega) (by omega)) (own_off2 (by omega))) rfl (ltN rfl) rfl rfl ?_
        refine TP.op (oa (.t rfl) (.tail _ (.head _)) ag28 (row_agg rfl (atP_some (by omega)))) rfl (ltN rfl) rfl rfl ?_
        refine TP.op (ot_move (.t rfl)) rfl (ltN rfl) rfl rfl ?_
        refine TP.op (ot_move (.t rfl)) rfl (ltN rfl) rfl rfl ?_
        refine TP.op (ot_len (.t rfl) sl26 rfl) rfl (ltN rfl) rfl rfl ?_
        refine TP.op (ot_sub (.t rfl) .is (w64 (by omega) (by omega))) rfl (ltN rfl) rfl rfl ?_
        refine TP.op (ixo (z := atP g.cs (g.cs.length - 1)) (.t rfl) (.t rfl) sl26 (by omega) (atP_at (by omega) (by omega))) rfl (ltN rfl) rfl rfl ?_
        refine TP.op (lda (.t rfl) ag28 ldp_whole) rfl (ltN rfl) rfl rfl ?_
        refine TP.op (oc fn74 (ih m (by omega) (atP A (s - 1 + g.cs.length - 1)) (atP g.cs (g.cs.length - 1)) (by omega) ((hL.can _ hmt).mono hlm) ((hgs _ hgm).mono hlm) hgl hpt.sz (sg.sub _ hgm) (Nat.le_trans (Nat.add_le_add_right (nrmL_sub hgm) 2) ng) hpt.nr rm1.2.2.2) (.cons (.t rfl) (.cons (.t rfl) .nil))) rfl (ltN rfl) rfl rfl ?_
        refine TP.op (ot_move (.t rfl)) rfl (ltN rfl) rfl rfl ?_
        refine TP.op (ot_extract (.t rfl) rfl) rfl (ltN rfl) rfl rfl ?_
        refine TP.op (ot_extract (.t rfl) rfl) rfl (ltN rfl) rfl rfl ?_
        refine TP.at rfl rfl ?_
        refine TP.skip0 rfl rfl rfl ?_
        refine TP.skip rfl rfl rfl ?_
        exact TP.nil
       case nx1 =>
       refine OneStep.mk (ι := Nat) (Hb := fun κ => [⟨κ, 28, cTs zP⟩, ⟨b100, 28, cRow encP O (f.cs.length - g.cs.length + 1)⟩, ⟨b85, 28, cRow encP A (f.cs.length)⟩, ⟨b4, 28, cTs zP⟩, ⟨b3, 28, cTs [tIs (.int .i64 (g.lv)), tIs (.bool (g.c.neg)), tSl encD (g.c.abs), tSl encP (g.cs)]⟩, ⟨b2, 28, cTs [tIs (.int .i64 (f.lv)), tIs (.bool (f.c.neg)), tSl encD (f.c.abs), tSl encP (f.cs)]⟩]) (Tb := fun κ => [sIs b85 0 (f.cs.length) (f.cs.length), tIs (.int .i64 ((s : Int) - 1)), tSl encP (g.cs), tIs (.int .i64 (((g.cs).length : Int))), tIs (.int .i64 (((s : Int) - 1) + ((g.cs).length : Int))), tIs (.int .i64 ((((s : Int) - 1) + ((g.cs).length : Int)) - 1)), pOwn b85 (0 + (s - 1 + g.cs.length - 1) * 4), tV encP (atP A (s - 1 + g.cs.length - 1)), tSl encP (g.cs), tSl encP (g.cs), tIs (.int .i64 (((g.cs).length : Int))), tIs (.int .i64 (((g.cs).length : Int) - 1)), tPtr (cEnc encP (atP g.cs (g.cs.length - 1))), tV encP (atP g.cs (g.cs.length - 1)), tTup [tV encP ((exactF m (atP A (s - 1 + g.cs.length - 1)) (atP g.cs (g.cs.length - 1))).getD p0), tIs (.bool ((exactF m (atP A (s - 1 + g.cs.length - 1)) (atP g.cs (g.cs.length - 1))).isSome))], tTup [tV encP ((exactF m (atP A (s - 1 + g.cs.length - 1)) (atP g.cs (g.cs.length - 1))).getD p0), tIs (.bool ((exactF m (atP A (s - 1 + g.cs.length - 1)) (atP g.cs (g.cs.length - 1))).isSome))], tV encP ((exactF m (atP A (s - 1 + g.cs.length - 1)) (atP g.cs (g.cs.length - 1))).getD p0), tIs (.bool ((exactF m (atP A (s - 1 + g.cs.length - 1)) (atP g.cs (g.cs.length - 1))).isSome)), pOwn κ 0, tAny, tAny]) (fun i => [18].contains i) (fun i => [19].contains i) rfl rfl (fun _ => ⟨.inr rfl, ⟨.inr rfl, ⟨.inr rfl, ⟨.inr rfl, ⟨.inr rfl, ⟨.inr rfl, ⟨.inr rfl, ⟨.inr rfl, ⟨.inr rfl, ⟨.inr rfl, ⟨.inr rfl, ⟨.inr rfl, ⟨.inr rfl, ⟨.inr rfl, ⟨.inr rfl, ⟨.inr rfl, ⟨.inr rfl, ⟨.inr rfl, ⟨.inl rfl, ⟨.inl rfl, ⟨.inl rfl, trivial⟩⟩⟩⟩⟩⟩⟩⟩⟩⟩⟩⟩⟩⟩⟩⟩⟩⟩⟩⟩⟩) (by kernel_rfl) ?op1_18 ?mx1_18
       case op1_18 =>
        intro Γx hx
        refine J.alloc (R := cTs zP) zr28 (fun _ => ⟨rfl, rfl, rfl, rfl, slP_nil _ _, rfl, slP_nil _ _, rfl, trivial⟩) (ltN rfl) fun b18 => ?_
        exact J.midP (Hb := fun κ => [⟨κ, 28, cTs zP⟩, ⟨b100, 28, cRow encP O (f.cs.length - g.cs.length + 1)⟩, ⟨b85, 28, cRow encP A (f.cs.length)⟩, ⟨b4, 28, cTs zP⟩, ⟨b3, 28, cTs [tIs (.int .i64 (g.lv)), tIs (.bool (g.c.neg)), tSl encD (g.c.abs), tSl encP (g.cs)]⟩, ⟨b2, 28, cTs [tIs (.int .i64 (f.lv)), tIs (.bool (f.c.neg)), tSl encD (f.c.abs), tSl encP (f.cs)]⟩]) (Tb := fun κ => [sIs b85 0 (f.cs.length) (f.cs.length), tIs (.int .i64 ((s : Int) - 1)), tSl encP (g.cs), tIs (.int .i64 (((g.cs).length : Int))), tIs (.int .i64 (((s : Int) - 1) + ((g.cs).length : Int))), tIs (.int .i64 ((((s : Int) - 1) + ((g.cs).length : Int)) - 1)), pOwn b85 (0 + (s - 1 + g.cs.length - 1) * 4), tV encP (atP A (s - 1 + g.cs.length - 1)), tSl encP (g.cs), tSl encP (g.cs), tIs (.int .i64 (((g.cs).length : Int))), tIs (.int .i64 (((g.cs).length : Int) - 1)), tPtr (cEnc encP (atP g.cs (g.cs.length - 1))), tV encP (atP g.cs (g.cs.length - 1)), tTup [tV encP ((exactF m (atP A (s - 1 + g.cs.length - 1)) (atP g.cs (g.cs.length - 1))).getD p0), tIs (.bool ((exactF m (atP A (s - 1 + g.cs.length - 1)) (atP g.cs (g.cs.length - 1))).isSome))], tTup [tV encP ((exactF m (atP A (s - 1 + g.cs.length - 1)) (atP g.cs (g.cs.length - 1))).getD p0), tIs (.bool ((exactF m (atP A (s - 1 + g.cs.length - 1)) (atP g.cs (g.cs.length - 1))).isSome))], tV encP ((exactF m (atP A (s - 1 + g.cs.length - 1)) (atP g.cs (g.cs.length - 1))).getD p0), tIs (.bool ((exactF m (atP A (s - 1 + g.cs.length - 1)) (atP g.cs (g.cs.length - 1))).isSome)), pOwn κ 0, tAny, tAny]) (n := 18) b18 rfl
       case mx1_18 =>
        intro b18
        refine RP.step (al := (fun i => [0, 1, 2, 3, 4, 5, 6, 7, 8, 9, 10, 11, 12, 13, 14, 15, 16, 17].contains i)) (Γn := [(18, pOwn b18 0), (125, tIs (.bool ((exactF m (atP A (s - 1 + g.cs.length - 1)) (atP g.cs (g.cs.length - 1))).isSome))), (124, tV encP ((exactF m (atP A (s - 1 + g.cs.length - 1)) (atP g.cs (g.cs.length - 1))).getD p0)), (108, tTup [tV encP ((exactF m (atP A (s - 1 + g.cs.length - 1)) (atP g.cs (g.cs.length - 1))).getD p0), tIs (.bool ((exactF m (atP A (s - 1 + g.cs.length - 1)) (atP g.cs (g.cs.length - 1))).isSome))]), (123, tTup [tV encP ((exactF m (atP A (s - 1 + g.cs.length - 1)) (atP g.cs (g.cs.length - 1))).getD p0), tIs (.bool ((exactF m (atP A (s - 1 + g.cs.length - 1)) (atP g.cs (g.cs.length - 1))).isSome))]), (122, tV encP (atP g.cs (g.cs.length - 1))), (121, tPtr (cEnc encP (atP g.cs (g.cs.length - 1)))), (120, tIs (.int .i64 (((g.cs).length : Int) - 1))), (119, tIs (.int .i64 (((g.cs).length : Int)))), (118, tSl encP (g.cs)), (117, tSl encP (g.cs)), (116, tV encP (atP A (s - 1 + g.cs.length - 1))), (115, pOwn b85 (0 + (s - 1 + g.cs.length - 1) * 4)), (114, tIs (.int .i64 ((((s : Int) - 1) + ((g.cs).length : Int)) - 1))), (113, tIs (.int .i64 (((s : Int) - 1) + ((g.cs).length : Int)))), (112, tIs (.int .i64 (((g.cs).length : Int)))), (111, tSl encP (g.cs)), (110, tIs (.int .i64 ((s : Int) - 1))), (109, sIs b85 0 (f.cs.length) (f.cs.length)), (105, tIs (.bool (decide (0 ≤ ((s : Int) - 1))))), (104, tIs (.int .i64 ((s : Int) - 1))), (4, pOwn b4 0), (8, tIs (.int .i64 (f.lv))), (14, sIs b85 0 (f.cs.length) (f.cs.length)), (15, tSl encP (g.cs)), (16, sIs b100 0 (f.cs.length - g.cs.length + 1) (f.cs.length - g.cs.length + 1)), (17, tIs (.int .i64 ((s : Int) - 1)))]) (Γ' := ?pg2) 19 (by kernel_rfl) (by kernel_rfl) ?tp2 ?nx2
        case tp2 =>
         refine TP.op (ot_move (.t rfl)) rfl (ltN rfl) rfl rfl ?_
         refine TP.op (ot_move (.t rfl)) rfl (ltN rfl) rfl rfl ?_
         refine TP.op (ot_move (.t rfl)) rfl (ltN rfl) rfl rfl ?_
         refine TP.op (ot_len (.t rfl) sl26 rfl) rfl (ltN rfl) rfl rfl ?_
         refine TP.op (ot_add (.t rfl) (.t rfl) (w64 (by omega) (by omega))) rfl (ltN rfl) rfl rfl ?_
         refine TP.op (ot_sub (.t rfl) .is (w64 (by omega) (by omega))) rfl (ltN rfl) rfl rfl ?_
         refine TP.op (ot_eqt (T' := pOwn b85 (0 + (s - 1 + g.cs.length - 1) * 4)) (oix (.t rfl) (.t rfl) sl26 (by omega) (by omega)) (own_off2 (by omega))) rfl (ltN rfl) rfl rfl ?_
         refine TP.op (oa (.t rfl) (.tail _ (.tail _ (.head _))) ag28 (row_agg rfl (atP_some (by omega)))) rfl (ltN rfl) rfl rfl ?_
         refine TP.op (ot_move (.t rfl)) rfl (ltN rfl) rfl rfl ?_
         refine TP.op (ot_move (.t rfl)) rfl (ltN rfl) rfl rfl ?_
         refine TP.op (ot_len (.t rfl) sl26 rfl) rfl (ltN rfl) rfl rfl ?_
         refine TP.op (ot_sub (.t rfl) .is (w64 (by omega) (by omega))) rfl (ltN rfl) rfl rfl ?_
         refine TP.op (ixo (z := atP g.cs (g.cs.length - 1)) (.t rfl) (.t rfl) sl26 (by omega) (atP_at (by omega) (by omega))) rfl (ltN rfl) rfl rfl ?_
         refine TP.op (lda (.t rfl) ag28 ldp_whole) rfl (ltN rfl) rfl rfl ?_
         refine TP.op (oc fn74 (ih m (by omega) (atP A (s - 1 + g.cs.length - 1)) (atP g.cs (g.cs.length - 1)) (by omega) ((hL.can _ hmt).mono hlm) ((hgs _ hgm).mono hlm) hgl hpt.sz (sg.sub _ hgm) (Nat.le_trans (Nat.add_le_add_right (nrmL_sub hgm) 2) ng) hpt.nr rm1.2.2.2) (.cons (.t rfl) (.cons (.t rfl) .nil))) rfl (ltN rfl) rfl rfl ?_
         refine TP.op (ot_move (.t rfl)) rfl (ltN rfl) rfl rfl ?_
         refine TP.op (ot_extract (.t rfl) rfl) rfl (ltN rfl) rfl rfl ?_
         refine TP.op (ot_extract (.t rfl) rfl) rfl (ltN rfl) rfl rfl ?_
         refine TP.skip rfl rfl rfl ?_
         refine TP.at0 rfl rfl ?_
         refine TP.skip rfl rfl rfl ?_
         exact TP.nil
        case nx2 =>
        refine OneStep.mk (ι := Unit) (Hb := fun κ => [⟨b18, 28, cTs [tIs (.int .i64 (((exactF m (atP A (s - 1 + g.cs.length - 1)) (atP g.cs (g.cs.length - 1))).getD p0).lv)), tIs (.bool ((((exactF m (atP A (s - 1 + g.cs.length - 1)) (atP g.cs (g.cs.length - 1))).getD p0).c).neg)), tSl encD ((((exactF m (atP A (s - 1 + g.cs.length - 1)) (atP g.cs (g.cs.length - 1))).getD p0).c).abs), tSl encP (((exactF m (atP A (s - 1 + g.cs.length - 1)) (atP g.cs (g.cs.length - 1))).getD p0).cs)]⟩, ⟨b100, 28, cRow encP O (f.cs.length - g.cs.length + 1)⟩, ⟨b85, 28, cRow encP A (f.cs.length)⟩, ⟨b4, 28, cTs zP⟩, ⟨b3, 28, cTs [tIs (.int .i64 (g.lv)), tIs (.bool (g.c.neg)), tSl encD (g.c.abs), tSl encP (g.cs)]⟩, ⟨b2, 28, cTs [tIs (.int .i64 (f.lv)), tIs (.bool (f.c.neg)), tSl encD (f.c.abs), tSl encP (f.cs)]⟩]) (Tb := fun κ => [sIs b85 0 (f.cs.length) (f.cs.length), tIs (.int .i64 ((s : Int) - 1)), tSl encP (g.cs), tIs (.int .i64 (((g.cs).length : Int))), tIs (.int .i64 (((s : Int) - 1) + ((g.cs).length : Int))), tIs (.int .i64 ((((s : Int) - 1) + ((g.cs).length : Int)) - 1)), pOwn b85 (0 + (s - 1 + g.cs.length - 1) * 4), tV encP (atP A (s - 1 + g.cs.length - 1)), tSl encP (g.cs), tSl encP (g.cs), tIs (.int .i64 (((g.cs).length : Int))), tIs (.int .i64 (((g.cs).length : Int) - 1)), tPtr (cEnc encP (atP g.cs (g.cs.length - 1))), tV encP (atP g.cs (g.cs.length - 1)), tTup [tV encP ((exactF m (atP A (s - 1 + g.cs.length - 1)) (atP g.cs (g.cs.length - 1))).getD p0), tIs (.bool ((exactF m (atP A (s - 1 + g.cs.length - 1)) (atP g.cs (g.cs.length - 1))).isSome))], tTup [tV encP ((exactF m (atP A (s - 1 + g.cs.length - 1)) (atP g.cs (g.cs.length - 1))).getD p0), tIs (.bool ((exactF m (atP A (s - 1 + g.cs.length - 1)) (atP g.cs (g.cs.length - 1))).isSome))], tV encP ((exactF m (atP A (s - 1 + g.cs.length - 1)) (atP g.cs (g.cs.length - 1))).getD p0), tIs (.bool ((exactF m (atP A (s - 1 + g.cs.length - 1)) (atP g.cs (g.cs.length - 1))).isSome)), pOwn b18 0, tAny, tIs (.bool ((exactF m (atP A (s - 1 + g.cs.length - 1)) (atP g.cs (g.cs.length - 1))).isSome))]) (fun i => [0, 1, 2, 3, 4, 5, 6, 7, 8, 9, 10, 11, 12, 13, 14, 15, 16, 18, 19].contains i) (fun _ => false) rfl rfl (fun _ => ⟨.inr rfl, ⟨.inr rfl, ⟨.inr rfl, ⟨.inr rfl, ⟨.inr rfl, ⟨.inr rfl, ⟨.inr rfl, ⟨.inr rfl, ⟨.inr rfl, ⟨.inr rfl, ⟨.inr rfl, ⟨.inr rfl, ⟨.inr rfl, ⟨.inr rfl, ⟨.inr rfl, ⟨.inr rfl, ⟨.inr rfl, ⟨.inr rfl, ⟨.inr rfl, ⟨.inl rfl, ⟨.inl rfl, trivial⟩⟩⟩⟩⟩⟩⟩⟩⟩⟩⟩⟩⟩⟩⟩⟩⟩⟩⟩⟩⟩) (by kernel_rfl) ?op2_19 ?mx2_19
        case op2_19 =>
         intro Γx hx
         refine J.store (.move hx (.t rfl) (by kernel_rfl)) (.eq (.move hx (.t rfl) (by kernel_rfl)) (tV_F (Ts := [tIs (.int .i64 (((exactF m (atP A (s - 1 + g.cs.length - 1)) (atP g.cs (g.cs.length - 1))).getD p0).lv)), tIs (.bool ((((exactF m (atP A (s - 1 + g.cs.length - 1)) (atP g.cs (g.cs.length - 1))).getD p0).c).neg)), tSl encD ((((exactF m (atP A (s - 1 + g.cs.length - 1)) (atP g.cs (g.cs.length - 1))).getD p0).c).abs), tSl encP (((exactF m (atP A (s - 1 + g.cs.length - 1)) (atP g.cs (g.cs.length - 1))).getD p0).cs)]) (polT_eq _))) .here sz28 (st_agg (Ts' := [tIs (.int .i64 (((exactF m (atP A (s - 1 + g.cs.length - 1)) (atP g.cs (g.cs.length - 1))).getD p0).lv)), tIs (.bool ((((exactF m (atP A (s - 1 + g.cs.length - 1)) (atP g.cs (g.cs.length - 1))).getD p0).c).neg)), tSl encD ((((exactF m (atP A (s - 1 + g.cs.length - 1)) (atP g.cs (g.cs.length - 1))).getD p0).c).abs), tSl encP (((exactF m (atP A (s - 1 + g.cs.length - 1)) (atP g.cs (g.cs.length - 1))).getD p0).cs)]) (o := 0) rfl) ?_
         exact J.midP (Hb := fun κ => [⟨b18, 28, cTs [tIs (.int .i64 (((exactF m (atP A (s - 1 + g.cs.length - 1)) (atP g.cs (g.cs.length - 1))).getD p0).lv)), tIs (.bool ((((exactF m (atP A (s - 1 + g.cs.length - 1)) (atP g.cs (g.cs.length - 1))).getD p0).c).neg)), tSl encD ((((exactF m (atP A (s - 1 + g.cs.length - 1)) (atP g.cs (g.cs.length - 1))).getD p0).c).abs), tSl encP (((exactF m (atP A (s - 1 + g.cs.length - 1)) (atP g.cs (g.cs.length - 1))).getD p0).cs)]⟩, ⟨b100, 28, cRow encP O (f.cs.length - g.cs.length + 1)⟩, ⟨b85, 28, cRow encP A (f.cs.length)⟩, ⟨b4, 28, cTs zP⟩, ⟨b3, 28, cTs [tIs (.int .i64 (g.lv)), tIs (.bool (g.c.neg)), tSl encD (g.c.abs), tSl encP (g.cs)]⟩, ⟨b2, 28, cTs [tIs (.int .i64 (f.lv)), tIs (.bool (f.c.neg)), tSl encD (f.c.abs), tSl encP (f.cs)]⟩]) (Tb := fun κ => [sIs b85 0 (f.cs.length) (f.cs.length), tIs (.int .i64 ((s : Int) - 1)), tSl encP (g.cs), tIs (.int .i64 (((g.cs).length : Int))), tIs (.int .i64 (((s : Int) - 1) + ((g.cs).length : Int))), tIs (.int .i64 ((((s : Int) - 1) + ((g.cs).length : Int)) - 1)), pOwn b85 (0 + (s - 1 + g.cs.length - 1) * 4), tV encP (atP A (s - 1 + g.cs.length - 1)), tSl encP (g.cs), tSl encP (g.cs), tIs (.int .i64 (((g.cs).length : Int))), tIs (.int .i64 (((g.cs).length : Int) - 1)), tPtr (cEnc encP (atP g.cs (g.cs.length - 1))), tV encP (atP g.cs (g.cs.length - 1)), tTup [tV encP ((exactF m (atP A (s - 1 + g.cs.length - 1)) (atP g.cs (g.cs.length - 1))).getD p0), tIs (.bool ((exactF m (atP A (s - 1 + g.cs.length - 1)) (atP g.cs (g.cs.length - 1))).isSome))], tTup [tV encP ((exactF m (atP A (s - 1 + g.cs.length - 1)) (atP g.cs (g.cs.length - 1))).getD p0), tIs (.bool ((exactF m (atP A (s - 1 + g.cs.length - 1)) (atP g.cs (g.cs.length - 1))).isSome))], tV encP ((exactF m (atP A (s - 1 + g.cs.length - 1)) (atP g.cs (g.cs.length - 1))).getD p0), tIs (.bool ((exactF m (atP A (s - 1 + g.cs.length - 1)) (atP g.cs (g.cs.length - 1))).isSome)), pOwn b18 0, tAny, tIs (.bool ((exactF m (atP A (s - 1 + g.cs.length - 1)) (atP g.cs (g.cs.length - 1))).isSome))]) (n := 19) () rfl
        case mx2_19 =>
         intro _
         refine RP.last (al := (fun i => [17, 20].contains i)) (Γn := []) (Γ' := [(19, tIs (.bool ((exactF m (atP A (s - 1 + g.cs.length - 1)) (atP g.cs (g.cs.length - 1))).isSome))), (18, pOwn b18 0), (125, tIs (.bool ((exactF m (atP A (s - 1 + g.cs.length - 1)) (atP g.cs (g.cs.length - 1))).isSome))), (124, tV encP ((exactF m (atP A (s - 1 + g.cs.length - 1)) (atP g.cs (g.cs.length - 1))).getD p0)), (108, tTup [tV encP ((exactF m (atP A (s - 1 + g.cs.length - 1)) (atP g.cs (g.cs.length - 1))).getD p0), tIs (.bool ((exactF m (atP A (s - 1 + g.cs.length - 1)) (atP g.cs (g.cs.length - 1))).isSome))]), (123, tTup [tV encP ((exactF m (atP A (s - 1 + g.cs.length - 1)) (atP g.cs (g.cs.length - 1))).getD p0), tIs (.bool ((exactF m (atP A (s - 1 + g.cs.length - 1)) (atP g.cs (g.cs.length - 1))).isSome))]), (122, tV encP (atP g.cs (g.cs.length - 1))), (121, tPtr (cEnc encP (atP g.cs (g.cs.length - 1)))), (120, tIs (.int .i64 (((g.cs).length : Int) - 1))), (119, tIs (.int .i64 (((g.cs).length : Int)))), (118, tSl encP (g.cs)), (117, tSl encP (g.cs)), (116, tV encP (atP A (s - 1 + g.cs.length - 1))), (115, pOwn b85 (0 + (s - 1 + g.cs.length - 1) * 4)), (114, tIs (.int .i64 ((((s : Int) - 1) + ((g.cs).length : Int)) - 1))), (113, tIs (.int .i64 (((s : Int) - 1) + ((g.cs).length : Int)))), (112, tIs (.int .i64 (((g.cs).length : Int)))), (111, tSl encP (g.cs)), (110, tIs (.int .i64 ((s : Int) - 1))), (109, sIs b85 0 (f.cs.length) (f.cs.length)), (105, tIs (.bool (decide (0 ≤ ((s : Int) - 1))))), (104, tIs (.int .i64 ((s : Int) - 1))), (4, pOwn b4 0), (8, tIs (.int .i64 (f.lv))), (14, sIs b85 0 (f.cs.length) (f.cs.length)), (15, tSl encP (g.cs)), (16, sIs b100 0 (f.cs.length - g.cs.length + 1) (f.cs.length - g.cs.length + 1)), (17, tIs (.int .i64 ((s : Int) - 1)))]) (by kernel_rfl) (by kernel_rfl) ?tp3 ?_
         case tp3 =>
          refine TP.skip rfl rfl rfl ?_
          refine TP.skip rfl rfl rfl ?_
          refine TP.skip rfl rfl rfl ?_
          refine TP.skip rfl rfl rfl ?_
          refine TP.skip rfl rfl rfl ?_
          refine TP.skip rfl rfl rfl ?_
          refine TP.skip rfl rfl rfl ?_
          refine TP.skip rfl rfl rfl ?_
          refine TP.skip rfl rfl rfl ?_
          refine TP.skip rfl rfl rfl ?_
          refine TP.skip rfl rfl rfl ?_
          refine TP.skip rfl rfl rfl ?_
          refine TP.skip rfl rfl rfl ?_
          refine TP.skip rfl rfl rfl ?_
          refine TP.skip rfl rfl rfl ?_
          refine TP.skip rfl rfl rfl ?_
          refine TP.skip rfl rfl rfl ?_
          refine TP.op (ot_extract (.t rfl) rfl) rfl (ltN rfl) rfl rfl ?_
          refine TP.skip rfl rfl rfl ?_
          refine TP.skip0 rfl rfl rfl ?_
          refine TP.op (ot_assign (.t rfl)) rfl (ltN rfl) rfl rfl ?_
          exact TP.nil
         refine JQ.then_normal (JC.seq (JC.g (J.M rfl rfl ?_)))
         refine J.o (ot_not (.t rfl)) rfl (J.e ?_)
         refine JC.cond (.t rfl) (fun hc8 => ?_) (fun hc8 => ?_)
         ·try simp only [bsx] at hc8
          have hs127 := hc8
          have hno := none_of (o := exactF m (atP A (s - 1 + g.cs.length - 1)) (atP g.cs (g.cs.length - 1))) (by simpa using hs127)
          have hex0 : exactF (m + 1) f g = none := by rw [hex, ← hv, longF_none (t := s - 1) (by omega) hno]
          refine (JC.g ?_)
          refine J.o (ot_eqt (T' := tV encP (Pol.mk 0 (Z.mk false ([])) ([]))) (ot_build (Ts := zP) pl28 (fun _ => ⟨rfl, rfl, rfl, rfl, slP_nil _ _, rfl, slP_nil _ _, rfl, trivial⟩) (.nil) rfl) (tV_F' (polT_eq _))) rfl ?_
          refine J.store (.t rfl) (.eq (.t rfl) (tV_F (Ts := zP) (polT_eq _))) (.there (.there (.there .here))) sz28 (st_agg (Ts' := zP) (o := 0) rfl) ?_
          refine J.a .is rfl (J.e (JC.ret (JQ.then_ret (JQ.block_ret (JQ.then_ret (JQ.then_ret (JQ.block_ret (JQ.then_ret ?_))))))))
          exact JQ.ret2 rfl (.agg (.t rfl) (.tail _ (.tail _ (.tail _ (.head _)))) ag28 (agg_eq (T := tV encP (Pol.mk 0 (Z.mk false ([])) ([]))) (T' := tV encP ((exactF k f g).getD p0)) (by rw [hm, hex0]; rfl) (cTs_ldV (g := polT) (y := (Pol.mk 0 (Z.mk false ([])) ([]))) (polT_eq (Pol.mk 0 (Z.mk false ([])) ([]))).symm rfl))) (.tmp (.eq (.t rfl) (by rw [hm, hex0]; rfl)))
         ·try simp only [bsx] at hc8
          have hs127 := hc8
          have hok : (exactF m (atP A (s - 1 + g.cs.length - 1)) (atP g.cs (g.cs.length - 1))).isSome = true := by simpa using hs127
          have hsome := some_of hok
          have hQ := hLt.quot hd hsome
          refine JC.skip (JQ.then_normal (JC.g (J.M rfl rfl (J.M rfl rfl ?_))))
          refine J.o (oa (.t rfl) (.head _) ag28 (cTs_ldV (g := polT) (y := ((exactF m (atP A (s - 1 + g.cs.length - 1)) (atP g.cs (g.cs.length - 1))).getD p0)) (polT_eq ((exactF m (atP A (s - 1 + g.cs.length - 1)) (atP g.cs (g.cs.length - 1))).getD p0)).symm rfl)) rfl ?_
          refine J.o (ot_eqt (T' := pOwn b100 (0 + (s - 1) * 4)) (oix (.t rfl) (.t rfl) sl26 (by omega) (by omega)) (own_off2 (by omega))) rfl ?_
          refine J.store (.t rfl) (.t rfl) (.there .here) sz28 (row_set (by omega)) (J.e (JC.g (J.M rfl rfl ?_)))
          refine J.o (ot_len (.t rfl) sl26 rfl) rfl ?_
          refine J.m .is rfl (J.e (JC.block ?_))
          refine JC.loop (ι := Nat) (fun i => [(4, pOwn b4 0), (8, tIs (.int .i64 (f.lv))), (14, sIs b85 0 (f.cs.length) (f.cs.length)), (15, tSl encP (g.cs)), (16, sIs b100 0 (f.cs.length - g.cs.length + 1) (f.cs.length - g.cs.length + 1)), (17, tIs (.int .i64 ((s : Int) - 1))), (18, pOwn b18 0), (19, tIs (.bool ((exactF m (atP A (s - 1 + g.cs.length - 1)) (atP g.cs (g.cs.length - 1))).isSome))), (104, tIs (.int .i64 ((s : Int) - 1))), (105, tIs (.bool (decide (0 ≤ ((s : Int) - 1))))), (108, tTup [tV encP ((exactF m (atP A (s - 1 + g.cs.length - 1)) (atP g.cs (g.cs.length - 1))).getD p0), tIs (.bool ((exactF m (atP A (s - 1 + g.cs.length - 1)) (atP g.cs (g.cs.length - 1))).isSome))]), (109, sIs b85 0 (f.cs.length) (f.cs.length)), (110, tIs (.int .i64 ((s : Int) - 1))), (111, tSl encP (g.cs)), (112, tIs (.int .i64 (((g.cs).length : Int)))), (113, tIs (.int .i64 (((s : Int) - 1) + ((g.cs).length : Int)))), (114, tIs (.int .i64 ((((s : Int) - 1) + ((g.cs).length : Int)) - 1))), (115, pOwn b85 (0 + (s - 1 + g.cs.length - 1) * 4)), (116, tV encP (atP A (s - 1 + g.cs.length - 1))), (117, tSl encP (g.cs)), (118, tSl encP (g.cs)), (119, tIs (.int .i64 (((g.cs).length : Int)))), (120, tIs (.int .i64 (((g.cs).length : Int) - 1))), (121, tPtr (cEnc encP (atP g.cs (g.cs.length - 1)))), (122, tV encP (atP g.cs (g.cs.length - 1))), (123, tTup [tV encP ((exactF m (atP A (s - 1 + g.cs.length - 1)) (atP g.cs (g.cs.length - 1))).getD p0), tIs (.bool ((exactF m (atP A (s - 1 + g.cs.length - 1)) (atP g.cs (g.cs.length - 1))).isSome))]), (124, tV encP ((exactF m (atP A (s - 1 + g.cs.length - 1)) (atP g.cs (g.cs.length - 1))).getD p0)), (125, tIs (.bool ((exactF m (atP A (s - 1 + g.cs.length - 1)) (atP g.cs (g.cs.length - 1))).isSome))), (126, tIs (.bool ((exactF m (atP A (s - 1 + g.cs.length - 1)) (atP g.cs (g.cs.length - 1))).isSome))), (127, tIs (.bool (!((exactF m (atP A (s - 1 + g.cs.length - 1)) (atP g.cs (g.cs.length - 1))).isSome)))), (129, sIs b100 0 (f.cs.length - g.cs.length + 1) (f.cs.length - g.cs.length + 1)), (130, tIs (.int .i64 ((s : Int) - 1))), (131, tV encP ((exactF m (atP A (s - 1 + g.cs.length - 1)) (atP g.cs (g.cs.length - 1))).getD p0)), (132, pOwn b100 (0 + (s - 1) * 4)), (133, tSl encP (g.cs)), (134, tIs (.int .i64 (((g.cs).length : Int)))), (135, tIs (.int .i64 (i : Int)))]) (fun i => [⟨b18, 28, cTs [tIs (.int .i64 (((exactF m (atP A (s - 1 + g.cs.length - 1)) (atP g.cs (g.cs.length - 1))).getD p0).lv)), tIs (.bool ((((exactF m (atP A (s - 1 + g.cs.length - 1)) (atP g.cs (g.cs.length - 1))).getD p0).c).neg)), tSl encD ((((exactF m (atP A (s - 1 + g.cs.length - 1)) (atP g.cs (g.cs.length - 1))).getD p0).c).abs), tSl encP (((exactF m (atP A (s - 1 + g.cs.length - 1)) (atP g.cs (g.cs.length - 1))).getD p0).cs)]⟩, ⟨b100, 28, cRow encP ((O).set (s - 1) ((exactF m (atP A (s - 1 + g.cs.length - 1)) (atP g.cs (g.cs.length - 1))).getD p0)) (f.cs.length - g.cs.length + 1)⟩, ⟨b85, 28, cRow encP ((subI g.cs ((exactF m (atP A (s - 1 + g.cs.length - 1)) (atP g.cs (g.cs.length - 1))).getD p0) (s - 1) i A)) (f.cs.length)⟩, ⟨b4, 28, cTs zP⟩, ⟨b3, 28, cTs [tIs (.int .i64 (g.lv)), tIs (.bool (g.c.neg)), tSl encD (g.c.abs), tSl encP (g.cs)]⟩, ⟨b2, 28, cTs [tIs (.int .i64 (f.lv)), tIs (.bool (f.c.neg)), tSl encD (f.c.abs), tSl encP (f.cs)]⟩]) (fun i => i ≤ g.cs.length) (fun i => g.cs.length - i) 0 (by omega) ?lsub2 ?round2
          case lsub2 => exact sub_trans (sub_heap (.k (.k (.keep (cRow_eq rfl) (.k (.k (.k .nil))))))) (sub_l ⟨.t rfl, .t rfl, .t rfl, .t rfl, .t rfl, .t rfl, .t rfl, .t rfl, .t rfl, .t rfl, .t rfl, .t rfl, .t rfl, .t rfl, .t rfl, .t rfl, .t rfl, .t rfl, .t rfl, .t rfl, .t rfl, .t rfl, .t rfl, .t rfl, .t rfl, .t rfl, .t rfl, .t rfl, .t rfl, .t rfl, .t rfl, .t rfl, .t rfl, .t rfl, .t rfl, .t rfl, .eq (.t rfl) (by first | rfl | (congr 3; omega) | (congr 2; omega)), trivial⟩)
          intro i hinv
          have hsl := subI_len (b := g.cs) (q := ((exactF m (atP A (s - 1 + g.cs.length - 1)) (atP g.cs (g.cs.length - 1))).getD p0)) (s := s - 1) (A := A) i
          refine (JC.g ?_)
          refine J.o (ot_lss (.t rfl) (.t rfl)) rfl (J.e (JC.seq ?_))
          refine JC.cond (.t rfl) (fun hc9 => ?_) (fun hc9 => ?_)
          ·try simp only [bsx] at hc9
           have hs136 := hc9
           have hxm := hQ.sub i (by omega) _ (atP_mem (cs := (subI g.cs ((exactF m (atP A (s - 1 + g.cs.length - 1)) (atP g.cs (g.cs.length - 1))).getD p0) (s - 1) i A)) (i := s - 1 + i) (by omega))
           have hcm := atP_mem (cs := g.cs) (i := i) (by omega)
           have hpc := pg.kid hcm
           have hmq := (hQ.pg.mul hpc (by omega) (by omega))
           have hgm2 := rm1.2.1
           refine JC.skip (JQ.then_normal (JC.seq (JC.block (JC.g (J.M rfl rfl ?_)))))
           refine J.o (ixo (z := atP g.cs i) (.t rfl) (.t rfl) sl26 (by omega) (atP_at (by omega) (by omega))) rfl ?_
           refine J.o (lda (.t rfl) ag28 ldp_whole) rfl ?_
           refine J.alloc (R := cTs zP) zr28 (fun _ => ⟨rfl, rfl, rfl, rfl, slP_nil _ _, rfl, slP_nil _ _, rfl, trivial⟩) (ltN rfl) fun b21 => (J.A rfl rfl ?_)
           refine J.store (.t rfl) (.eq (.t rfl) (tV_F (Ts := [tIs (.int .i64 ((atP g.cs i).lv)), tIs (.bool (((atP g.cs i).c).neg)), tSl encD (((atP g.cs i).c).abs), tSl encP ((atP g.cs i).cs)]) (polT_eq _))) .here sz28 (st_agg (Ts' := [tIs (.int .i64 ((atP g.cs i).lv)), tIs (.bool (((atP g.cs i).c).neg)), tSl encD (((atP g.cs i).c).abs), tSl encP ((atP g.cs i).cs)]) (o := 0) rfl) (J.e ?_)
           refine JC.drawAt (Γ' := ?g3) 15 mo (by kernel_rfl) ?tw3 ?k3
           case tw3 =>
            refine TW.M rfl rfl (TW.M rfl rfl (TW.M rfl rfl ?_))
            refine TW.o (ot_add (.t rfl) (.t rfl) (w64 (by omega) (by omega))) rfl (TW.M rfl rfl (TW.M rfl rfl (TW.M rfl rfl ?_)))
            refine TW.o (ot_add (.t rfl) (.t rfl) (w64 (by omega) (by omega))) rfl ?_
            refine TW.o (ot_eqt (T' := pOwn b85 (0 + (s - 1 + i) * 4)) (oix (.t rfl) (.t rfl) sl26 (by omega) (by omega)) (own_off2 (by omega))) rfl ?_
            refine TW.o (oa (.t rfl) (.tail _ (.tail _ (.tail _ (.head _)))) ag28 (row_agg rfl (atP_some (by omega)))) rfl ?_
            refine TW.o (oa (.t rfl) (.tail _ (.head _)) ag28 (cTs_ldV (g := polT) (y := ((exactF m (atP A (s - 1 + g.cs.length - 1)) (atP g.cs (g.cs.length - 1))).getD p0)) (polT_eq ((exactF m (atP A (s - 1 + g.cs.length - 1)) (atP g.cs (g.cs.length - 1))).getD p0)).symm rfl)) rfl ?_
            refine TW.o (oa (.t rfl) (.head _) ag28 (cTs_ldV (g := polT) (y := (atP g.cs i)) (polT_eq (atP g.cs i)).symm rfl)) rfl ?_
            refine TW.o (oc fn29 (mulK_c ((exactF m (atP A (s - 1 + g.cs.length - 1)) (atP g.cs (g.cs.length - 1))).getD p0) (atP g.cs i) hQ.pg hpc ⟨⟨by omega, by omega, by omega⟩, by omega⟩) (.cons (.t rfl) (.cons (.t rfl) .nil))) rfl ?_
            refine TW.o (oc fn68 (subK_c (atP (subI g.cs ((exactF m (atP A (s - 1 + g.cs.length - 1)) (atP g.cs (g.cs.length - 1))).getD p0) (s - 1) i A) (s - 1 + i)) (mulF 4 ((exactF m (atP A (s - 1 + g.cs.length - 1)) (atP g.cs (g.cs.length - 1))).getD p0) (atP g.cs i)) (hxm.2.mono (D' := D + D * E + E) (B' := B + gM (m + 1) D E u + u) (by omega) (by omega)) hmq ⟨by omega, by omega⟩) (.cons (.t rfl) (.cons (.t rfl) .nil))) rfl ?_
            refine TW.o (ot_eqt (T' := pOwn b85 (0 + (s - 1 + i) * 4)) (oix (.t rfl) (.t rfl) sl26 (by omega) (by omega)) (own_off2 (by omega))) rfl ?_
            exact TW.nil
           refine J.store (.t rfl) (.t rfl) (.there (.there (.there .here))) sz28 (row_set (by omega)) (J.nil (JQ.block_normal (JQ.then_normal (JC.region ?_))))
           refine J.o (ot_add (.t rfl) .is (w64 (by omega) (by omega))) rfl (J.M rfl rfl (J.nil ?_))
           exact JQ.round (i + 1) (by omega) (by omega) (sub_trans (sub_heap (.drop (.k (.k (.keep (cRow_eq rfl) (.k (.k (.k .nil)))))))) (sub_l ⟨.t rfl, .t rfl, .t rfl, .t rfl, .t rfl, .t rfl, .t rfl, .t rfl, .t rfl, .t rfl, .t rfl, .t rfl, .t rfl, .t rfl, .t rfl, .t rfl, .t rfl, .t rfl, .t rfl, .t rfl, .t rfl, .t rfl, .t rfl, .t rfl, .t rfl, .t rfl, .t rfl, .t rfl, .t rfl, .t rfl, .t rfl, .t rfl, .t rfl, .t rfl, .t rfl, .t rfl, .eq (.t rfl) (by first | rfl | (congr 3; omega) | (congr 2; omega)), trivial⟩))
          ·try simp only [bsx] at hc9
           have hs136 := hc9
           have hib : i = g.cs.length := by omega
           refine JC.exit (JQ.then_exit (JQ.then_exit (JQ.block_exit (JQ.block_normal (JQ.then_normal (JC.region (J.M rfl rfl ?_)))))))
           refine J.o (ot_sub (.t rfl) .is (w64 (by omega) (by omega))) rfl (J.A rfl rfl (J.nil ?_))
           exact JQ.round3 (i := s) (i2 := A) (i3 := O) (s - 1) (subI g.cs ((exactF m (atP A (s - 1 + g.cs.length - 1)) (atP g.cs (g.cs.length - 1))).getD p0) (s - 1) g.cs.length A) (O.set (s - 1) ((exactF m (atP A (s - 1 + g.cs.length - 1)) (atP g.cs (g.cs.length - 1))).getD p0)) ⟨hQ.next, by rw [← hv]; exact (longF_step (by omega) hsome).symm⟩ (by omega) (sub_trans (sub_heap (.drop (.keep (fun _ _ h => by first | exact h | simpa using h) (.keep (cRow_eq (by rw [hib])) (.k (.k (.k .nil))))))) (sub_l ⟨.t rfl, .t rfl, .t rfl, .t rfl, .t rfl, .eq (.t rfl) (by first | rfl | (congr 3; omega) | (congr 2; omega)), trivial⟩))
      ·try simp only [bsx] at hc7
       have hs105 := hc7
       have hs0 : s = 0 := by omega
       subst hs0
       rw [← hv, longF] at hex
       have hex : exactF (m + 1) f g = if A.all zeroP then some (joinP f.lv O) else none := hex
       refine JC.exit (JQ.then_exit (JQ.then_exit (JQ.block_exit (JQ.then_normal (JC.seq (JC.g (J.M rfl rfl ?_)))))))
       refine J.o (ot_len_own (.t rfl) sl26 rfl) rfl ?_
       refine J.m .is rfl (J.e (JC.block ?_))
       refine JC.loop (ι := Nat) (fun i => [(4, pOwn b4 0), (8, tIs (.int .i64 (f.lv))), (16, sIs b100 0 (f.cs.length - g.cs.length + 1) (f.cs.length - g.cs.length + 1)), (156, sIs b85 0 (f.cs.length) (f.cs.length)), (157, tIs (.int .i64 (((f.cs.length : Nat) : Int)))), (158, tIs (.int .i64 (i : Int)))]) (fun i => [⟨b100, 28, cRow encP O (f.cs.length - g.cs.length + 1)⟩, ⟨b85, 28, cRow encP A (f.cs.length)⟩, ⟨b4, 28, cTs zP⟩, ⟨b3, 28, cTs [tIs (.int .i64 (g.lv)), tIs (.bool (g.c.neg)), tSl encD (g.c.abs), tSl encP (g.cs)]⟩, ⟨b2, 28, cTs [tIs (.int .i64 (f.lv)), tIs (.bool (f.c.neg)), tSl encD (f.c.abs), tSl encP (f.cs)]⟩]) (fun i => i ≤ A.length ∧ (A.take i).all zeroP = true) (fun i => A.length - i) 0 ⟨by omega, by simp⟩ ?lsub3 ?round3
       case lsub3 => exact sub_trans (sub_heap (.k (.k (.k (.k (.k .nil)))))) (sub_l ⟨.t rfl, .t rfl, .t rfl, .t rfl, .t rfl, .eq (.t rfl) (by first | rfl | (congr 3; omega) | (congr 2; omega)), trivial⟩)
       intro i hinv
       obtain ⟨hi, hall⟩ := hinv
       refine (JC.g ?_)
       refine J.o (ot_lss (.t rfl) (.t rfl)) rfl (J.e (JC.seq ?_))
       refine JC.cond (.t rfl) (fun hc10 => ?_) (fun hc10 => ?_)
       ·try simp only [bsx] at hc10
        have hs159 := hc10
        have hel := hL.el hd (atP_mem (cs := A) (i := i) (by omega))
        have hDE := rm1.2.2.2.base
        refine JC.skip (JQ.then_normal (JC.seq (JC.block (JC.g ?_))))
        refine J.o (ot_eqt (T' := pOwn b85 (0 + i * 4)) (oix (.t rfl) (.t rfl) sl26 (by omega) (by omega)) (own_off2 (by omega))) rfl ?_
        refine J.o (oa (.t rfl) (.tail _ (.head _)) ag28 (row_agg rfl (atP_some (by omega)))) rfl ?_
        refine J.alloc (R := cTs zP) zr28 (fun _ => ⟨rfl, rfl, rfl, rfl, slP_nil _ _, rfl, slP_nil _ _, rfl, trivial⟩) (ltN rfl) fun b23 => ?_
        refine J.store (.t rfl) (.eq (.t rfl) (tV_F (Ts := [tIs (.int .i64 ((atP A i).lv)), tIs (.bool (((atP A i).c).neg)), tSl encD (((atP A i).c).abs), tSl encP ((atP A i).cs)]) (polT_eq _))) .here sz28 (st_agg (Ts' := [tIs (.int .i64 ((atP A i).lv)), tIs (.bool (((atP A i).c).neg)), tSl encD (((atP A i).c).abs), tSl encP ((atP A i).cs)]) (o := 0) rfl) (J.e (JC.g ?_))
        refine J.o (oa (.t rfl) (.head _) ag28 (cTs_ldV (g := polT) (y := (atP A i)) (polT_eq (atP A i)).symm rfl)) rfl ?_
        refine J.o (oc fn30 (isZeroK_c (atP A i) hel ⟨by omega, by have := rm1.2.1; omega⟩) (.cons (.t rfl) .nil)) rfl ?_
        refine J.o (ot_not (.t rfl)) rfl (J.e ?_)
        refine JC.cond (.t rfl) (fun hc11 => ?_) (fun hc11 => ?_)
        ·try simp only [bsx] at hc11
         have hs164 := hc11
         refine (JC.g ?_)
         refine J.o (ot_eqt (T' := tV encP (Pol.mk 0 (Z.mk false ([])) ([]))) (ot_build (Ts := zP) pl28 (fun _ => ⟨rfl, rfl, rfl, rfl, slP_nil _ _, rfl, slP_nil _ _, rfl, trivial⟩) (.nil) rfl) (tV_F' (polT_eq _))) rfl ?_
         refine J.store (.t rfl) (.eq (.t rfl) (tV_F (Ts := zP) (polT_eq _))) (.there (.there (.there .here))) sz28 (st_agg (Ts' := zP) (o := 0) rfl) ?_
         refine J.a .is rfl (J.e (JC.ret (JQ.block_ret (JQ.then_ret (JQ.then_ret (JQ.block_ret (JQ.then_ret ?_)))))))
         exact JQ.ret2 rfl (.agg (.t rfl) (.tail _ (.tail _ (.tail _ (.head _)))) ag28 (agg_eq (T := tV encP (Pol.mk 0 (Z.mk false ([])) ([]))) (T' := tV encP ((exactF k f g).getD p0)) (by rw [hm, hex, if_neg (all_no (atP_mem (cs := A) (i := i) (by omega)) (by simpa using hs164))]; rfl) (cTs_ldV (g := polT) (y := (Pol.mk 0 (Z.mk false ([])) ([]))) (polT_eq (Pol.mk 0 (Z.mk false ([])) ([]))).symm rfl))) (.tmp (.eq (.t rfl) (by rw [hm, hex, if_neg (all_no (atP_mem (cs := A) (i := i) (by omega)) (by simpa using hs164))]; rfl)))
        ·try simp only [bsx] at hc11
         have hs164 := hc11
         refine JC.skip (JQ.block_normal (JQ.then_normal (JC.region ?_)))
         refine J.o (ot_add (.t rfl) .is (w64 (by omega) (by omega))) rfl (J.M rfl rfl (J.nil ?_))
         exact JQ.round (i + 1) ⟨by omega, all_take (by omega) hall (by simpa using hs164)⟩ (by omega) (sub_trans (sub_heap (.drop (.k (.k (.k (.k (.k .nil))))))) (sub_l ⟨.t rfl, .t rfl, .t rfl, .t rfl, .t rfl, .eq (.t rfl) (by first | rfl | (congr 3; omega) | (congr 2; omega)), trivial⟩))
       ·try simp only [bsx] at hc10
        have hs159 := hc10
        have hz2 : A.all zeroP = true := by rw [show i = A.length by omega, List.take_length] at hall; exact hall
        have hex1 : exactF (m + 1) f g = some (joinP f.lv O) := by rw [hex]; show (if A.all zeroP then _ else _) = _; rw [if_pos hz2]
        have hsm := hL.small hd
        have hgm2 := rm1.2.1
        have hDE := rm1.2.2.2.base
        have hszX := hL.szX hd
        refine JC.exit (JQ.then_exit (JQ.then_exit (JQ.block_exit (JQ.then_normal (JC.seq ?_)))))
        refine JC.weak (sub_freeze0 (E := encP) (xs := O) (n := (f.cs.length - g.cs.length + 1)) (c := (f.cs.length - g.cs.length + 1)) [16] ⟨rfl, trivial⟩ .here (by omega) (by omega)) (JC.region (J.M rfl rfl (J.M rfl rfl ?_)))
        refine J.o (oc fn91 (joinK_c O l f.lv hl (by omega) hL.canO (fun z hz => (hL.szO z hz).mono hszX) (by rw [hLO]; exact hd.hn) (Nat.lt_of_le_of_lt (Nat.le_add_left _ _) hsm) ⟨by omega, by omega, by omega⟩ (cnt_room hlm rm1.2.2.1)) (.cons (.t rfl) (.cons (.t rfl) .nil))) rfl ?_
        refine J.store (.t rfl) (.eq (.t rfl) (tV_F (Ts := [tIs (.int .i64 ((joinP f.lv O).lv)), tIs (.bool (((joinP f.lv O).c).neg)), tSl encD (((joinP f.lv O).c).abs), tSl encP ((joinP f.lv O).cs)]) (polT_eq _))) (.there .here) sz28 (st_agg (Ts' := [tIs (.int .i64 ((joinP f.lv O).lv)), tIs (.bool (((joinP f.lv O).c).neg)), tSl encD (((joinP f.lv O).c).abs), tSl encP ((joinP f.lv O).cs)]) (o := 0) rfl) ?_
        refine J.a .is rfl (J.e (JC.ret ?_))
        exact JQ.ret2 rfl (.agg (.t rfl) (.tail _ (.head _)) ag28 (agg_eq (T := tV encP (joinP f.lv O)) (T' := tV encP ((exactF k f g).getD p0)) (by rw [hm, hex1]; rfl) (cTs_ldV (g := polT) (y := (joinP f.lv O)) (polT_eq (joinP f.lv O)).symm rfl))) (.tmp (.eq (.t rfl) (by rw [hm, hex1]; rfl)))

theorem zeros_c {D B : Nat} (g : Pol) (hp : Pg D B g) (hb : D ≤ 4294967296 ∧ B ≤ 90000000000) : Ctr Try.prog 73 [tSl encP ([g])] (tIs (.int .i64 (if zeroP g = true then 2 else 0 : Int))) := by
 have h1 : ([g] : List Pol).length = 1 := rfl
 refine Ctr.of Try.func73 rfl Try.ntmps73 (Nat.le_of_ble_eq_true rfl) fun w0 M0 => (JC.g ?_)
 refine J.a .is rfl (J.e (JC.seq (JC.g (J.M rfl rfl ?_))))
 refine J.o (ot_len (.t rfl) sl26 rfl) rfl ?_
 refine J.m .is rfl (J.e (JC.block ?_))
 refine JC.loop (ι := Nat) (fun i => [(5, tSl encP ([g])), (6, tIs (.int .i64 ((([g]).length : Int)))), (7, tIs (.int .i64 (i : Int)))]) (fun i => []) (fun i => i ≤ 1 ∧ (1 ≤ i → zeroP g = false)) (fun i => 1 - i) 0 ⟨by omega, fun h => by omega⟩ ?lsub0 ?round0
 case lsub0 => exact sub_trans (sub_heap .nil) (sub_l ⟨.t rfl, .t rfl, .eq (.t rfl) (by first | rfl | (congr 3; omega) | (congr 2; omega)), trivial⟩)
 intro i hinv
 obtain ⟨hi, hz⟩ := hinv
 refine (JC.g ?_)
 refine J.o (ot_lss (.t rfl) (.t rfl)) rfl (J.e (JC.seq ?_))
 refine JC.cond (.t rfl) (fun hc0 => ?_) (fun hc0 => ?_)
 ·try simp only [bsx] at hc0
  have hs8 := hc0
  refine JC.skip (JQ.then_normal (JC.seq (JC.block (JC.g ?_))))
  refine J.o (ixo (z := g) (.t rfl) (.t rfl) sl26 (by omega) (by rw [show (i : Int).toNat = 0 by omega]; rfl)) rfl ?_
  refine J.o (lda (.t rfl) ag28 ldp_whole) rfl ?_
  refine J.alloc (R := cTs zP) zr28 (fun _ => ⟨rfl, rfl, rfl, rfl, slP_nil _ _, rfl, slP_nil _ _, rfl, trivial⟩) (ltN rfl) fun b4 => ?_
  refine J.store (.t rfl) (.eq (.t rfl) (tV_F (Ts := [tIs (.int .i64 (g.lv)), tIs (.bool (g.c.neg)), tSl encD (g.c.abs), tSl encP (g.cs)]) (polT_eq _))) .here sz28 (st_agg (Ts' := [tIs (.int .i64 (g.lv)), tIs (.bool (g.c.neg)), tSl encD (g.c.abs), tSl encP (g.cs)]) (o := 0) rfl) (J.e (JC.g ?_))
  refine J.o (oa (.t rfl) (.head _) ag28 (cTs_ldV (g := polT) (y := g) (polT_eq g).symm rfl)) rfl ?_
  refine J.o (oc fn30 (isZeroK_c g hp hb) (.cons (.t rfl) .nil)) rfl (J.e ?_)
  refine JC.cond (.t rfl) (fun hc1 => ?_) (fun hc1 => ?_)
  ·try simp only [bsx] at hc1
   have hs12 := hc1
   refine (JC.g ?_)
   refine J.a .is rfl (J.e (JC.ret (JQ.block_ret (JQ.then_ret (JQ.then_ret (JQ.block_ret (JQ.then_ret ?_)))))))
   exact JQ.ret1 rfl (.tmp (.eq (.t rfl) (by rw [if_pos (by simpa using hs12)])))
  ·try simp only [bsx] at hc1
   have hs12 := hc1
   refine JC.skip (JQ.block_normal (JQ.then_normal (JC.region ?_)))
   refine J.o (ot_add (.t rfl) .is (w64 (by omega) (by omega))) rfl (J.M rfl rfl (J.nil ?_))
   exact JQ.round (i + 1) ⟨by omega, fun _ => by simpa using hs12⟩ (by omega) (sub_trans (sub_heap (.drop .nil)) (sub_l ⟨.t rfl, .t rfl, .eq (.t rfl) (by first | rfl | (congr 3; omega) | (congr 2; omega)), trivial⟩))
 ·try simp only [bsx] at hc0
  have hs8 := hc0
  refine JC.exit (JQ.then_exit (JQ.then_exit (JQ.block_exit (JQ.then_normal (JC.g ?_)))))
  refine J.a .is rfl (J.e (JC.ret ?_))
  exact JQ.ret1 rfl (.tmp (.eq (.t rfl) (by rw [if_neg (by rw [hz (by omega)]; decide)])))

theorem pExact_c {D E u B : Nat} (f g : Pol) (pf : Pg D B f) (pg : Pg E u g) (ng : nrm g + 2 ≤ B32 ^ u) (rm : Rm 4 D E u B) : Ctr Try.prog 28 [tV encP f, tV encP g] (tTup [tV encP (exQ f g), tIs (.int .i64 (exE f g))]) := by
 have hb := rm.base
 refine Ctr.of Try.func28 rfl Try.ntmps28 (Nat.le_of_ble_eq_true rfl) fun w0 M0 => (JC.g ?_)
 refine J.boxF (Ts := [tIs (.int .i64 (f.lv)), tIs (.bool (f.c.neg)), tSl encD (f.c.abs), tSl encP (f.cs)]) (.t rfl) (polT_eq _) (ltN rfl) fun b2 => ?_
 refine J.boxF (Ts := [tIs (.int .i64 (g.lv)), tIs (.bool (g.c.neg)), tSl encD (g.c.abs), tSl encP (g.cs)]) (.t rfl) (polT_eq _) (ltN rfl) fun b3 => ?_
 refine J.alloc (R := cTs zP) zr28 (fun _ => ⟨rfl, rfl, rfl, rfl, slP_nil _ _, rfl, slP_nil _ _, rfl, trivial⟩) (ltN rfl) fun b4 => ?_
 refine J.a .is rfl (J.e (JC.seq (JC.g ?_)))
 refine J.o (oa (.t rfl) (.tail _ (.head _)) ag28 (cTs_ldV (g := polT) (y := g) (polT_eq g).symm rfl)) rfl ?_
 refine J.o (ot_buildSlice (E := encP) (zs := [g]) sl26 (.cons (.t rfl) .nil) rfl zr28 rfl (by decide) (by decide)) rfl ?_
 refine J.o (oc fn73 (zeros_c g pg ⟨by omega, by omega⟩) (.cons (.t rfl) .nil)) rfl (J.A rfl rfl (J.e (JC.g (J.M rfl rfl ?_))))
 refine J.o (ot_neq (.t rfl) .is) rfl (J.e ?_)
 refine JC.cond (.t rfl) (fun hc0 => ?_) (fun hc0 => ?_)
 ·try simp only [bsx] at hc0
  have hs15 := hc0
  have hz : zeroP g = true := by cases hz : zeroP g with | true => rfl | false => rw [hz] at hs15; simp at hs15
  refine (JC.g ?_)
  refine J.o (ot_eqt (T' := tV encP (Pol.mk 0 (Z.mk false ([])) ([]))) (ot_build (Ts := zP) pl28 (fun _ => ⟨rfl, rfl, rfl, rfl, slP_nil _ _, rfl, slP_nil _ _, rfl, trivial⟩) (.nil) rfl) (tV_F' (polT_eq _))) rfl (J.M rfl rfl ?_)
  refine J.store (.t rfl) (.eq (.t rfl) (tV_F (Ts := zP) (polT_eq _))) .here sz28 (st_agg (Ts' := zP) (o := 0) rfl) (J.A rfl rfl (J.e (JC.ret (JQ.then_ret ?_))))
  exact JQ.ret2 rfl (.agg (.t rfl) (.head _) ag28 (agg_eq (T := tV encP (Pol.mk 0 (Z.mk false ([])) ([]))) (T' := tV encP (exQ f g)) (by rw [exQ, if_pos hz]; rfl) (cTs_ldV (g := polT) (y := (Pol.mk 0 (Z.mk false ([])) ([]))) (polT_eq (Pol.mk 0 (Z.mk false ([])) ([]))).symm rfl))) (.tmp (.eq (.t rfl) (by rw [exE, if_pos hz, if_pos hz])))
 ·try simp only [bsx] at hc0
  have hs15 := hc0
  have hz : zeroP g = false := by cases hz : zeroP g with | false => rfl | true => rw [hz] at hs15; simp at hs15
  refine JC.skip (JQ.then_normal (JC.seq ?_))
  refine JC.weak (Γ' := [(5, tIs (.int .i64 0)), (4, pOwn b4 0), (3, pOwn b3 0), (2, pOwn b2 0)]) (H' := [⟨b4, 28, cTs zP⟩, ⟨b3, 28, cTs [tIs (.int .i64 (g.lv)), tIs (.bool (g.c.neg)), tSl encD (g.c.abs), tSl encP (g.cs)]⟩, ⟨b2, 28, cTs [tIs (.int .i64 (f.lv)), tIs (.bool (f.c.neg)), tSl encD (f.c.abs), tSl encP (f.cs)]⟩]) (sub_trans (sub_heap (.k (.k (.k .nil)))) (sub_l ⟨.t rfl, .t rfl, .t rfl, .t rfl, trivial⟩)) ?_
  refine JC.drawP (Ts := [tV encP f, tV encP f, tV encP g, tV encP g, tAny, tAny, tAny, tAny]) (un := (fun i => [4, 5, 6, 7].contains i)) mo (by kernel_rfl) ?_
  suffices both : ∀ b7 b8, RP _ _ _ _ [⟨b8, 28, cTs zP⟩, ⟨b7, 28, cTs zP⟩, ⟨b4, 28, cTs zP⟩, ⟨b3, 28, cTs [tIs (.int .i64 (g.lv)), tIs (.bool (g.c.neg)), tSl encD (g.c.abs), tSl encP (g.cs)]⟩, ⟨b2, 28, cTs [tIs (.int .i64 (f.lv)), tIs (.bool (f.c.neg)), tSl encD (f.c.abs), tSl encP (f.cs)]⟩] [tV encP f, tV encP f, tV encP g, tV encP g, pOwn b7 0, pOwn b8 0, tAny, tAny] (fun i => [4, 5].contains i) (fun i => [6, 7].contains i) by
   refine RP.two (al := (fun i => [0, 1, 2, 3].contains i)) (Γn := [(21, tV encP g), (20, tV encP g), (19, tV encP f), (18, tV encP f), (5, tIs (.int .i64 0)), (4, pOwn b4 0), (3, pOwn b3 0), (2, pOwn b2 0)]) (Γ' := ?pg1) 4 5 (by kernel_rfl) (by kernel_rfl) ?tp1 ?nx1 ?ny1
   case tp1 =>
    refine TP.op (oa (.t rfl) (.tail _ (.tail _ (.head _))) ag28 (cTs_ldV (g := polT) (y := f) (polT_eq f).symm rfl)) rfl (ltN rfl) rfl rfl ?_
    refine TP.op (oc fn45 (normK_c f pf ⟨by omega, by omega⟩) (.cons (.t rfl) .nil)) rfl (ltN rfl) rfl rfl ?_
    refine TP.op (oa (.t rfl) (.tail _ (.head _)) ag28 (cTs_ldV (g := polT) (y := g) (polT_eq g).symm rfl)) rfl (ltN rfl) rfl rfl ?_
    refine TP.op (oc fn45 (normK_c g pg ⟨by omega, by omega⟩) (.cons (.t rfl) .nil)) rfl (ltN rfl) rfl rfl ?_
    refine TP.at rfl rfl ?_
    refine TP.skip rfl rfl rfl ?_
    refine TP.skip0 rfl rfl rfl ?_
    refine TP.skip0 rfl rfl rfl ?_
    exact TP.nil
   case nx1 =>
    refine OneStep.mk (ι := Nat) (Hb := fun κ => [⟨κ, 28, cTs zP⟩, ⟨b4, 28, cTs zP⟩, ⟨b3, 28, cTs [tIs (.int .i64 (g.lv)), tIs (.bool (g.c.neg)), tSl encD (g.c.abs), tSl encP (g.cs)]⟩, ⟨b2, 28, cTs [tIs (.int .i64 (f.lv)), tIs (.bool (f.c.neg)), tSl encD (f.c.abs), tSl encP (f.cs)]⟩]) (Tb := fun κ => [tV encP f, tV encP f, tV encP g, tV encP g, pOwn κ 0, tAny, tAny, tAny]) (fun i => [4].contains i) (fun i => [5, 6, 7].contains i) rfl rfl (fun _ => ⟨.inr rfl, ⟨.inr rfl, ⟨.inr rfl, ⟨.inr rfl, ⟨.inl rfl, ⟨.inl rfl, ⟨.inl rfl, ⟨.inl rfl, trivial⟩⟩⟩⟩⟩⟩⟩⟩) (by kernel_rfl) ?op1_4 ?mx1_4
    case op1_4 =>
     intro Γx hx
     refine J.alloc (R := cTs zP) zr28 (fun _ => ⟨rfl, rfl, rfl, rfl, slP_nil _ _, rfl, slP_nil _ _, rfl, trivial⟩) (ltN rfl) fun b7 => ?_
     exact J.midP (Hb := fun κ => [⟨κ, 28, cTs zP⟩, ⟨b4, 28, cTs zP⟩, ⟨b3, 28, cTs [tIs (.int .i64 (g.lv)), tIs (.bool (g.c.neg)), tSl encD (g.c.abs), tSl encP (g.cs)]⟩, ⟨b2, 28, cTs [tIs (.int .i64 (f.lv)), tIs (.bool (f.c.neg)), tSl encD (f.c.abs), tSl encP (f.cs)]⟩]) (Tb := fun κ => [tV encP f, tV encP f, tV encP g, tV encP g, pOwn κ 0, tAny, tAny, tAny]) (n := 4) b7 rfl
    case mx1_4 =>
     intro b7
     refine RP.step (al := (fun i => [0, 1, 2, 3].contains i)) (Γn := [(7, pOwn b7 0), (21, tV encP g), (20, tV encP g), (19, tV encP f), (18, tV encP f), (5, tIs (.int .i64 0)), (4, pOwn b4 0), (3, pOwn b3 0), (2, pOwn b2 0)]) (Γ' := ?pg2) 5 (by kernel_rfl) (by kernel_rfl) ?tp2 ?nx2
     case tp2 =>
      refine TP.op (oa (.t rfl) (.tail _ (.tail _ (.tail _ (.head _)))) ag28 (cTs_ldV (g := polT) (y := f) (polT_eq f).symm rfl)) rfl (ltN rfl) rfl rfl ?_
      refine TP.op (oc fn45 (normK_c f pf ⟨by omega, by omega⟩) (.cons (.t rfl) .nil)) rfl (ltN rfl) rfl rfl ?_
      refine TP.op (oa (.t rfl) (.tail _ (.tail _ (.head _))) ag28 (cTs_ldV (g := polT) (y := g) (polT_eq g).symm rfl)) rfl (ltN rfl) rfl rfl ?_
      refine TP.op (oc fn45 (normK_c g pg ⟨by omega, by omega⟩) (.cons (.t rfl) .nil)) rfl (ltN rfl) rfl rfl ?_
      refine TP.skip rfl rfl rfl ?_
      refine TP.at rfl rfl ?_
      refine TP.skip0 rfl rfl rfl ?_
      refine TP.skip0 rfl rfl rfl ?_
      exact TP.nil
     case nx2 =>
     refine OneStep.mk (ι := Nat) (Hb := fun κ => [⟨κ, 28, cTs zP⟩, ⟨b7, 28, cTs zP⟩, ⟨b4, 28, cTs zP⟩, ⟨b3, 28, cTs [tIs (.int .i64 (g.lv)), tIs (.bool (g.c.neg)), tSl encD (g.c.abs), tSl encP (g.cs)]⟩, ⟨b2, 28, cTs [tIs (.int .i64 (f.lv)), tIs (.bool (f.c.neg)), tSl encD (f.c.abs), tSl encP (f.cs)]⟩]) (Tb := fun κ => [tV encP f, tV encP f, tV encP g, tV encP g, pOwn b7 0, pOwn κ 0, tAny, tAny]) (fun i => [4, 5].contains i) (fun i => [6, 7].contains i) rfl rfl (fun _ => ⟨.inr rfl, ⟨.inr rfl, ⟨.inr rfl, ⟨.inr rfl, ⟨.inr rfl, ⟨.inl rfl, ⟨.inl rfl, ⟨.inl rfl, trivial⟩⟩⟩⟩⟩⟩⟩⟩) (by kernel_rfl) ?op2_5 ?mx2_5
     case op2_5 =>
      intro Γx hx
      refine J.alloc (R := cTs zP) zr28 (fun _ => ⟨rfl, rfl, rfl, rfl, slP_nil _ _, rfl, slP_nil _ _, rfl, trivial⟩) (ltN rfl) fun b8 => ?_
      exact J.midP (Hb := fun κ => [⟨κ, 28, cTs zP⟩, ⟨b7, 28, cTs zP⟩, ⟨b4, 28, cTs zP⟩, ⟨b3, 28, cTs [tIs (.int .i64 (g.lv)), tIs (.bool (g.c.neg)), tSl encD (g.c.abs), tSl encP (g.cs)]⟩, ⟨b2, 28, cTs [tIs (.int .i64 (f.lv)), tIs (.bool (f.c.neg)), tSl encD (f.c.abs), tSl encP (f.cs)]⟩]) (Tb := fun κ => [tV encP f, tV encP f, tV encP g, tV encP g, pOwn b7 0, pOwn κ 0, tAny, tAny]) (n := 5) b8 rfl
     case mx2_5 =>
      intro b8
      exact both b7 b8
   case ny1 =>
    refine OneStep.mk (ι := Nat) (Hb := fun κ => [⟨κ, 28, cTs zP⟩, ⟨b4, 28, cTs zP⟩, ⟨b3, 28, cTs [tIs (.int .i64 (g.lv)), tIs (.bool (g.c.neg)), tSl encD (g.c.abs), tSl encP (g.cs)]⟩, ⟨b2, 28, cTs [tIs (.int .i64 (f.lv)), tIs (.bool (f.c.neg)), tSl encD (f.c.abs), tSl encP (f.cs)]⟩]) (Tb := fun κ => [tV encP f, tV encP f, tV encP g, tV encP g, tAny, pOwn κ 0, tAny, tAny]) (fun i => [5].contains i) (fun i => [4, 6, 7].contains i) rfl rfl (fun _ => ⟨.inr rfl, ⟨.inr rfl, ⟨.inr rfl, ⟨.inr rfl, ⟨.inl rfl, ⟨.inl rfl, ⟨.inl rfl, ⟨.inl rfl, trivial⟩⟩⟩⟩⟩⟩⟩⟩) (by kernel_rfl) ?op1_5 ?mx1_5
    case op1_5 =>
     intro Γx hx
     refine J.alloc (R := cTs zP) zr28 (fun _ => ⟨rfl, rfl, rfl, rfl, slP_nil _ _, rfl, slP_nil _ _, rfl, trivial⟩) (ltN rfl) fun b8 => ?_
     exact J.midP (Hb := fun κ => [⟨κ, 28, cTs zP⟩, ⟨b4, 28, cTs zP⟩, ⟨b3, 28, cTs [tIs (.int .i64 (g.lv)), tIs (.bool (g.c.neg)), tSl encD (g.c.abs), tSl encP (g.cs)]⟩, ⟨b2, 28, cTs [tIs (.int .i64 (f.lv)), tIs (.bool (f.c.neg)), tSl encD (f.c.abs), tSl encP (f.cs)]⟩]) (Tb := fun κ => [tV encP f, tV encP f, tV encP g, tV encP g, tAny, pOwn κ 0, tAny, tAny]) (n := 5) b8 rfl
    case mx1_5 =>
     intro b8
     refine RP.step (al := (fun i => [0, 1, 2, 3].contains i)) (Γn := [(21, tV encP g), (20, tV encP g), (19, tV encP f), (18, tV encP f), (5, tIs (.int .i64 0)), (4, pOwn b4 0), (3, pOwn b3 0), (2, pOwn b2 0)]) (Γ' := ?pg3) 4 (by kernel_rfl) (by kernel_rfl) ?tp3 ?nx3
     case tp3 =>
      refine TP.op (oa (.t rfl) (.tail _ (.tail _ (.tail _ (.head _)))) ag28 (cTs_ldV (g := polT) (y := f) (polT_eq f).symm rfl)) rfl (ltN rfl) rfl rfl ?_
      refine TP.op (oc fn45 (normK_c f pf ⟨by omega, by omega⟩) (.cons (.t rfl) .nil)) rfl (ltN rfl) rfl rfl ?_
      refine TP.op (oa (.t rfl) (.tail _ (.tail _ (.head _))) ag28 (cTs_ldV (g := polT) (y := g) (polT_eq g).symm rfl)) rfl (ltN rfl) rfl rfl ?_
      refine TP.op (oc fn45 (normK_c g pg ⟨by omega, by omega⟩) (.cons (.t rfl) .nil)) rfl (ltN rfl) rfl rfl ?_
      refine TP.at rfl rfl ?_
      refine TP.skip rfl rfl rfl ?_
      refine TP.skip0 rfl rfl rfl ?_
      refine TP.skip0 rfl rfl rfl ?_
      exact TP.nil
     case nx3 =>
     refine OneStep.mk (ι := Nat) (Hb := fun κ => [⟨b8, 28, cTs zP⟩, ⟨κ, 28, cTs zP⟩, ⟨b4, 28, cTs zP⟩, ⟨b3, 28, cTs [tIs (.int .i64 (g.lv)), tIs (.bool (g.c.neg)), tSl encD (g.c.abs), tSl encP (g.cs)]⟩, ⟨b2, 28, cTs [tIs (.int .i64 (f.lv)), tIs (.bool (f.c.neg)), tSl encD (f.c.abs), tSl encP (f.cs)]⟩]) (Tb := fun κ => [tV encP f, tV encP f, tV encP g, tV encP g, pOwn κ 0, pOwn b8 0, tAny, tAny]) (fun i => [4, 5].contains i) (fun i => [6, 7].contains i) rfl rfl (fun _ => ⟨.inr rfl, ⟨.inr rfl, ⟨.inr rfl, ⟨.inr rfl, ⟨.inl rfl, ⟨.inr rfl, ⟨.inl rfl, ⟨.inl rfl, trivial⟩⟩⟩⟩⟩⟩⟩⟩) (by kernel_rfl) ?op3_4 ?mx3_4
     case op3_4 =>
      intro Γx hx
      refine J.alloc (R := cTs zP) zr28 (fun _ => ⟨rfl, rfl, rfl, rfl, slP_nil _ _, rfl, slP_nil _ _, rfl, trivial⟩) (ltN rfl) fun b7 => ?_
      refine fun a w hs => J.midP (Hb := fun κ => [⟨b8, 28, cTs zP⟩, ⟨κ, 28, cTs zP⟩, ⟨b4, 28, cTs zP⟩, ⟨b3, 28, cTs [tIs (.int .i64 (g.lv)), tIs (.bool (g.c.neg)), tSl encD (g.c.abs), tSl encP (g.cs)]⟩, ⟨b2, 28, cTs [tIs (.int .i64 (f.lv)), tIs (.bool (f.c.neg)), tSl encD (f.c.abs), tSl encP (f.cs)]⟩]) (Tb := fun κ => [tV encP f, tV encP f, tV encP g, tV encP g, pOwn κ 0, pOwn b8 0, tAny, tAny]) (n := 4) b7 rfl a w hs.swap
     case mx3_4 =>
      intro b7
      exact both b7 b8
  intro b7 b8
  refine RP.step (al := (fun i => [0, 1, 2, 3].contains i)) (Γn := [(8, pOwn b8 0), (7, pOwn b7 0), (21, tV encP g), (20, tV encP g), (19, tV encP f), (18, tV encP f), (5, tIs (.int .i64 0)), (4, pOwn b4 0), (3, pOwn b3 0), (2, pOwn b2 0)]) (Γ' := ?pg4) 6 (by kernel_rfl) (by kernel_rfl) ?tp4 ?nx4
  case tp4 =>
   refine TP.op (oa (.t rfl) (.tail _ (.tail _ (.tail _ (.tail _ (.head _))))) ag28 (cTs_ldV (g := polT) (y := f) (polT_eq f).symm rfl)) rfl (ltN rfl) rfl rfl ?_
   refine TP.op (oc fn45 (normK_c f pf ⟨by omega, by omega⟩) (.cons (.t rfl) .nil)) rfl (ltN rfl) rfl rfl ?_
   refine TP.op (oa (.t rfl) (.tail _ (.tail _ (.tail _ (.head _)))) ag28 (cTs_ldV (g := polT) (y := g) (polT_eq g).symm rfl)) rfl (ltN rfl) rfl rfl ?_
   refine TP.op (oc fn45 (normK_c g pg ⟨by omega, by omega⟩) (.cons (.t rfl) .nil)) rfl (ltN rfl) rfl rfl ?_
   refine TP.skip rfl rfl rfl ?_
   refine TP.skip rfl rfl rfl ?_
   refine TP.at0 rfl rfl ?_
   refine TP.skip0 rfl rfl rfl ?_
   exact TP.nil
  case nx4 =>
  refine OneStep.mk (ι := Unit) (Hb := fun κ => [⟨b8, 28, cTs zP⟩, ⟨b7, 28, cTs [tIs (.int .i64 (f.lv)), tIs (.bool (f.c.neg)), tSl encD (f.c.abs), tSl encP (f.cs)]⟩, ⟨b4, 28, cTs zP⟩, ⟨b3, 28, cTs [tIs (.int .i64 (g.lv)), tIs (.bool (g.c.neg)), tSl encD (g.c.abs), tSl encP (g.cs)]⟩, ⟨b2, 28, cTs [tIs (.int .i64 (f.lv)), tIs (.bool (f.c.neg)), tSl encD (f.c.abs), tSl encP (f.cs)]⟩]) (Tb := fun κ => [tV encP f, tV encP f, tV encP g, tV encP g, pOwn b7 0, pOwn b8 0, tAny, tAny]) (fun i => [0, 1, 2, 3, 4, 5, 6].contains i) (fun i => [7].contains i) rfl rfl (fun _ => ⟨.inr rfl, ⟨.inr rfl, ⟨.inr rfl, ⟨.inr rfl, ⟨.inr rfl, ⟨.inr rfl, ⟨.inl rfl, ⟨.inl rfl, trivial⟩⟩⟩⟩⟩⟩⟩⟩) (by kernel_rfl) ?op4_6 ?mx4_6
  case op4_6 =>
   intro Γx hx
   refine J.store (.move hx (.t rfl) (by kernel_rfl)) (.eq (.move hx (.t rfl) (by kernel_rfl)) (tV_F (Ts := [tIs (.int .i64 (f.lv)), tIs (.bool (f.c.neg)), tSl encD (f.c.abs), tSl encP (f.cs)]) (polT_eq _))) (.there .here) sz28 (st_agg (Ts' := [tIs (.int .i64 (f.lv)), tIs (.bool (f.c.neg)), tSl encD (f.c.abs), tSl encP (f.cs)]) (o := 0) rfl) ?_
   exact J.midP (Hb := fun κ => [⟨b8, 28, cTs zP⟩, ⟨b7, 28, cTs [tIs (.int .i64 (f.lv)), tIs (.bool (f.c.neg)), tSl encD (f.c.abs), tSl encP (f.cs)]⟩, ⟨b4, 28, cTs zP⟩, ⟨b3, 28, cTs [tIs (.int .i64 (g.lv)), tIs (.bool (g.c.neg)), tSl encD (g.c.abs), tSl encP (g.cs)]⟩, ⟨b2, 28, cTs [tIs (.int .i64 (f.lv)), tIs (.bool (f.c.neg)), tSl encD (f.c.abs), tSl encP (f.cs)]⟩]) (Tb := fun κ => [tV encP f, tV encP f, tV encP g, tV encP g, pOwn b7 0, pOwn b8 0, tAny, tAny]) (n := 6) () rfl
  case mx4_6 =>
   intro _
   refine RP.step (al := (fun _ => false)) (Γn := [(8, pOwn b8 0), (7, pOwn b7 0), (21, tV encP g), (20, tV encP g), (19, tV encP f), (18, tV encP f), (5, tIs (.int .i64 0)), (4, pOwn b4 0), (3, pOwn b3 0), (2, pOwn b2 0)]) (Γ' := ?pg5) 7 (by kernel_rfl) (by kernel_rfl) ?tp5 ?nx5
   case tp5 =>
    refine TP.skip rfl rfl rfl ?_
    refine TP.skip rfl rfl rfl ?_
    refine TP.skip rfl rfl rfl ?_
    refine TP.skip rfl rfl rfl ?_
    refine TP.skip rfl rfl rfl ?_
    refine TP.skip rfl rfl rfl ?_
    refine TP.skip0 rfl rfl rfl ?_
    refine TP.at0 rfl rfl ?_
    exact TP.nil
   case nx5 =>
   refine OneStep.mk (ι := Unit) (Hb := fun κ => [⟨b8, 28, cTs [tIs (.int .i64 (g.lv)), tIs (.bool (g.c.neg)), tSl encD (g.c.abs), tSl encP (g.cs)]⟩, ⟨b7, 28, cTs [tIs (.int .i64 (f.lv)), tIs (.bool (f.c.neg)), tSl encD (f.c.abs), tSl encP (f.cs)]⟩, ⟨b4, 28, cTs zP⟩, ⟨b3, 28, cTs [tIs (.int .i64 (g.lv)), tIs (.bool (g.c.neg)), tSl encD (g.c.abs), tSl encP (g.cs)]⟩, ⟨b2, 28, cTs [tIs (.int .i64 (f.lv)), tIs (.bool (f.c.neg)), tSl encD (f.c.abs), tSl encP (f.cs)]⟩]) (Tb := fun κ => [tV encP f, tV encP f, tV encP g, tV encP g, pOwn b7 0, pOwn b8 0, tAny, tAny]) (fun i => [0, 1, 2, 3, 4, 5, 6, 7].contains i) (fun _ => false) rfl rfl (fun _ => ⟨.inr rfl, ⟨.inr rfl, ⟨.inr rfl, ⟨.inr rfl, ⟨.inr rfl, ⟨.inr rfl, ⟨.inr rfl, ⟨.inl rfl, trivial⟩⟩⟩⟩⟩⟩⟩⟩) (by kernel_rfl) ?op5_7 ?mx5_7
   case op5_7 =>
    intro Γx hx
    refine J.store (.move hx (.t rfl) (by kernel_rfl)) (.eq (.move hx (.t rfl) (by kernel_rfl)) (tV_F (Ts := [tIs (.int .i64 (g.lv)), tIs (.bool (g.c.neg)), tSl encD (g.c.abs), tSl encP (g.cs)]) (polT_eq _))) .here sz28 (st_agg (Ts' := [tIs (.int .i64 (g.lv)), tIs (.bool (g.c.neg)), tSl encD (g.c.abs), tSl encP (g.cs)]) (o := 0) rfl) ?_
    exact J.midP (Hb := fun κ => [⟨b8, 28, cTs [tIs (.int .i64 (g.lv)), tIs (.bool (g.c.neg)), tSl encD (g.c.abs), tSl encP (g.cs)]⟩, ⟨b7, 28, cTs [tIs (.int .i64 (f.lv)), tIs (.bool (f.c.neg)), tSl encD (f.c.abs), tSl encP (f.cs)]⟩, ⟨b4, 28, cTs zP⟩, ⟨b3, 28, cTs [tIs (.int .i64 (g.lv)), tIs (.bool (g.c.neg)), tSl encD (g.c.abs), tSl encP (g.cs)]⟩, ⟨b2, 28, cTs [tIs (.int .i64 (f.lv)), tIs (.bool (f.c.neg)), tSl encD (f.c.abs), tSl encP (f.cs)]⟩]) (Tb := fun κ => [tV encP f, tV encP f, tV encP g, tV encP g, pOwn b7 0, pOwn b8 0, tAny, tAny]) (n := 7) () rfl
   case mx5_7 =>
    intro _
    refine RP.last (al := (fun _ => false)) (Γn := []) (Γ' := [(8, pOwn b8 0), (7, pOwn b7 0), (21, tV encP g), (20, tV encP g), (19, tV encP f), (18, tV encP f), (5, tIs (.int .i64 0)), (4, pOwn b4 0), (3, pOwn b3 0), (2, pOwn b2 0)]) (by kernel_rfl) (by kernel_rfl) ?tp6 ?_
    case tp6 =>
     refine TP.skip rfl rfl rfl ?_
     refine TP.skip rfl rfl rfl ?_
     refine TP.skip rfl rfl rfl ?_
     refine TP.skip rfl rfl rfl ?_
     refine TP.skip rfl rfl rfl ?_
     refine TP.skip rfl rfl rfl ?_
     refine TP.skip0 rfl rfl rfl ?_
     refine TP.skip0 rfl rfl rfl ?_
     exact TP.nil
    refine JQ.then_normal (JC.g ?_)
    refine J.o (oa (.t rfl) (.tail _ (.head _)) ag28 (cTs_ldV (g := polT) (y := f) (polT_eq f).symm rfl)) rfl ?_
    refine J.o (oa (.t rfl) (.head _) ag28 (cTs_ldV (g := polT) (y := g) (polT_eq g).symm rfl)) rfl ?_
    refine J.o (oc fn74 (pexact_c 4 f g (Nat.le_refl 4) pf.can pg.can hz pf.sz pg.sz ng pf.nr rm) (.cons (.t rfl) (.cons (.t rfl) .nil))) rfl (J.M rfl rfl ?_)
    refine J.o (ot_extract (.t rfl) rfl) rfl ?_
    refine J.o (ot_extract (.t rfl) rfl) rfl ?_
    refine J.alloc (R := cTs zP) zr28 (fun _ => ⟨rfl, rfl, rfl, rfl, slP_nil _ _, rfl, slP_nil _ _, rfl, trivial⟩) (ltN rfl) fun b9 => ?_
    refine J.store (.t rfl) (.eq (.t rfl) (tV_F (Ts := [tIs (.int .i64 (((exactF 4 f g).getD p0).lv)), tIs (.bool ((((exactF 4 f g).getD p0).c).neg)), tSl encD ((((exactF 4 f g).getD p0).c).abs), tSl encP (((exactF 4 f g).getD p0).cs)]) (polT_eq _))) .here sz28 (st_agg (Ts' := [tIs (.int .i64 (((exactF 4 f g).getD p0).lv)), tIs (.bool ((((exactF 4 f g).getD p0).c).neg)), tSl encD ((((exactF 4 f g).getD p0).c).abs), tSl encP (((exactF 4 f g).getD p0).cs)]) (o := 0) rfl) (J.A rfl rfl (J.e (JC.seq (JC.g (J.M rfl rfl ?_)))))
    refine J.o (ot_not (.t rfl)) rfl (J.e ?_)
    refine JC.cond (.t rfl) (fun hc1 => ?_) (fun hc1 => ?_)
    ·try simp only [bsx] at hc1
     have hs29 := hc1
     have hno : (exactF 4 f g).isSome = false := by simpa using hs29
     refine (JC.g ?_)
     refine J.o (ot_eqt (T' := tV encP (Pol.mk 0 (Z.mk false ([])) ([]))) (ot_build (Ts := zP) pl28 (fun _ => ⟨rfl, rfl, rfl, rfl, slP_nil _ _, rfl, slP_nil _ _, rfl, trivial⟩) (.nil) rfl) (tV_F' (polT_eq _))) rfl ?_
     refine J.store (.t rfl) (.eq (.t rfl) (tV_F (Ts := zP) (polT_eq _))) (.there (.there (.there .here))) sz28 (st_agg (Ts' := zP) (o := 0) rfl) ?_
     refine J.a .is rfl (J.e (JC.ret (JQ.then_ret ?_)))
     exact JQ.ret2 rfl (.agg (.t rfl) (.tail _ (.tail _ (.tail _ (.head _)))) ag28 (agg_eq (T := tV encP (Pol.mk 0 (Z.mk false ([])) ([]))) (T' := tV encP (exQ f g)) (by rw [exQ, if_neg (by rw [hz]; decide), none_of hno]; rfl) (cTs_ldV (g := polT) (y := (Pol.mk 0 (Z.mk false ([])) ([]))) (polT_eq (Pol.mk 0 (Z.mk false ([])) ([]))).symm rfl))) (.tmp (.eq (.t rfl) (by rw [exE, if_neg (by rw [hz]; decide), hno]; rfl)))
    ·try simp only [bsx] at hc1
     have hs29 := hc1
     have hok : (exactF 4 f g).isSome = true := by simpa using hs29
     refine JC.skip (JQ.then_normal (JC.g ?_))
     refine J.o (oa (.t rfl) (.head _) ag28 (cTs_ldV (g := polT) (y := ((exactF 4 f g).getD p0)) (polT_eq ((exactF 4 f g).getD p0)).symm rfl)) rfl ?_
     refine J.store (.t rfl) (.eq (.t rfl) (tV_F (Ts := [tIs (.int .i64 (((exactF 4 f g).getD p0).lv)), tIs (.bool ((((exactF 4 f g).getD p0).c).neg)), tSl encD ((((exactF 4 f g).getD p0).c).abs), tSl encP (((exactF 4 f g).getD p0).cs)]) (polT_eq _))) (.there (.there (.there .here))) sz28 (st_agg (Ts' := [tIs (.int .i64 (((exactF 4 f g).getD p0).lv)), tIs (.bool ((((exactF 4 f g).getD p0).c).neg)), tSl encD ((((exactF 4 f g).getD p0).c).abs), tSl encP (((exactF 4 f g).getD p0).cs)]) (o := 0) rfl) ?_
     refine J.a .is rfl (J.e (JC.ret ?_))
     exact JQ.ret2 rfl (.agg (.t rfl) (.tail _ (.tail _ (.tail _ (.head _)))) ag28 (agg_eq (T := tV encP ((exactF 4 f g).getD p0)) (T' := tV encP (exQ f g)) (by rw [exQ, if_neg (by rw [hz]; decide)]) (cTs_ldV (g := polT) (y := ((exactF 4 f g).getD p0)) (polT_eq ((exactF 4 f g).getD p0)).symm rfl))) (.tmp (.eq (.t rfl) (by rw [exE, if_neg (by rw [hz]; decide), hok]; rfl)))

theorem divides_c {D E u B : Nat} (g f : Pol) (pf : Pg D B f) (pg : Pg E u g) (ng : nrm g + 2 ≤ B32 ^ u) (rm : Rm 4 D E u B) (hE : (E + 1) ^ 4 ≤ 1000000000) : Ctr Try.prog 33 [tV encP g, tV encP f] (tIs (.bool (dvP g f))) := by
 have hb := rm.base
 refine Ctr.of Try.func33 rfl Try.ntmps33 (Nat.le_of_ble_eq_true rfl) fun w0 M0 => (JC.g ?_)
 refine J.boxF (Ts := [tIs (.int .i64 (g.lv)), tIs (.bool (g.c.neg)), tSl encD (g.c.abs), tSl encP (g.cs)]) (.t rfl) (polT_eq _) (ltN rfl) fun b2 => ?_
 refine J.boxF (Ts := [tIs (.int .i64 (f.lv)), tIs (.bool (f.c.neg)), tSl encD (f.c.abs), tSl encP (f.cs)]) (.t rfl) (polT_eq _) (ltN rfl) fun b3 => ?_
 refine J.a .is rfl (J.e (JC.seq (JC.g ?_)))
 refine J.o (oa (.t rfl) (.tail _ (.head _)) ag28 (cTs_ldV (g := polT) (y := g) (polT_eq g).symm rfl)) rfl ?_
 refine J.o (oc fn30 (isZeroK_c g pg ⟨by omega, by omega⟩) (.cons (.t rfl) .nil)) rfl (J.e ?_)
 refine JC.cond (.t rfl) (fun hc0 => ?_) (fun hc0 => ?_)
 ·try simp only [bsx] at hc0
  have hs8 := hc0
  refine (JC.g ?_)
  refine J.o (oa (.t rfl) (.head _) ag28 (cTs_ldV (g := polT) (y := f) (polT_eq f).symm rfl)) rfl ?_
  refine J.o (oc fn30 (isZeroK_c f pf ⟨by omega, by omega⟩) (.cons (.t rfl) .nil)) rfl (J.A rfl rfl (J.e (JC.ret (JQ.then_ret ?_))))
  exact JQ.ret1 rfl (.tmp (.eq (.t rfl) (by rw [dvP, if_pos (by simpa using hs8)])))
 ·try simp only [bsx] at hc0
  have hs8 := hc0
  have hz : zeroP g = false := by simpa using hs8
  have hq := pg.msign hb.2.1 hz
  have hmz := msign_ne pg.can hz
  refine JC.skip (JQ.then_normal (JC.seq ?_))
  refine JC.weak (Γ' := [(4, tIs (.bool false)), (3, pOwn b3 0), (2, pOwn b2 0)]) (H' := [⟨b3, 28, cTs [tIs (.int .i64 (f.lv)), tIs (.bool (f.c.neg)), tSl encD (f.c.abs), tSl encP (f.cs)]⟩, ⟨b2, 28, cTs [tIs (.int .i64 (g.lv)), tIs (.bool (g.c.neg)), tSl encD (g.c.abs), tSl encP (g.cs)]⟩]) (sub_trans (sub_heap (.k (.k .nil))) (sub_l ⟨.t rfl, .t rfl, .t rfl, trivial⟩)) ?_
  refine JC.drawP (Ts := [tV encP f, tV encP g, tV encP (msign g), tTup [tV encP (exQ f (msign g)), tIs (.int .i64 (exE f (msign g)))], tTup [tV encP (exQ f (msign g)), tIs (.int .i64 (exE f (msign g)))], tV encP (exQ f (msign g)), tIs (.int .i64 (exE f (msign g))), tAny, tAny, tAny]) (un := (fun i => [7, 8].contains i)) mo (by kernel_rfl) ?_
  refine RP.step (al := (fun i => [0, 1, 2, 3, 4, 5, 6].contains i)) (Γn := [(17, tIs (.int .i64 (exE f (msign g)))), (16, tV encP (exQ f (msign g))), (11, tTup [tV encP (exQ f (msign g)), tIs (.int .i64 (exE f (msign g)))]), (15, tTup [tV encP (exQ f (msign g)), tIs (.int .i64 (exE f (msign g)))]), (14, tV encP (msign g)), (13, tV encP g), (12, tV encP f), (4, tIs (.bool false)), (3, pOwn b3 0), (2, pOwn b2 0)]) (Γ' := ?pg1) 7 (by kernel_rfl) (by kernel_rfl) ?tp1 ?nx1
  case tp1 =>
   refine TP.op (oa (.t rfl) (.head _) ag28 (cTs_ldV (g := polT) (y := f) (polT_eq f).symm rfl)) rfl (ltN rfl) rfl rfl ?_
   refine TP.op (oa (.t rfl) (.tail _ (.head _)) ag28 (cTs_ldV (g := polT) (y := g) (polT_eq g).symm rfl)) rfl (ltN rfl) rfl rfl ?_
   refine TP.op (oc fn21 (msign_c g (pg.fit (by omega)) pg.nr (pg.cnt_le hE) (by omega) (pg.terms_le hb.2.1 hE) (by rw [norm_can pg.can]; exact ne_zeroP hz)) (.cons (.t rfl) .nil)) rfl (ltN rfl) rfl rfl ?_
   refine TP.op (oc fn28 (pExact_c f (msign g) pf hq (Nat.le_trans (Nat.add_le_add_right (nrm_msign' pg.can hz) 2) ng) rm) (.cons (.t rfl) (.cons (.t rfl) .nil))) rfl (ltN rfl) rfl rfl ?_
   refine TP.op (ot_move (.t rfl)) rfl (ltN rfl) rfl rfl ?_
   refine TP.op (ot_extract (.t rfl) rfl) rfl (ltN rfl) rfl rfl ?_
   refine TP.op (ot_extract (.t rfl) rfl) rfl (ltN rfl) rfl rfl ?_
   refine TP.at rfl rfl ?_
   refine TP.skip0 rfl rfl rfl ?_
   refine TP.skip rfl rfl rfl ?_
   exact TP.nil
  case nx1 =>
  refine OneStep.mk (ι := Nat) (Hb := fun κ => [⟨κ, 28, cTs zP⟩, ⟨b3, 28, cTs [tIs (.int .i64 (f.lv)), tIs (.bool (f.c.neg)), tSl encD (f.c.abs), tSl encP (f.cs)]⟩, ⟨b2, 28, cTs [tIs (.int .i64 (g.lv)), tIs (.bool (g.c.neg)), tSl encD (g.c.abs), tSl encP (g.cs)]⟩]) (Tb := fun κ => [tV encP f, tV encP g, tV encP (msign g), tTup [tV encP (exQ f (msign g)), tIs (.int .i64 (exE f (msign g)))], tTup [tV encP (exQ f (msign g)), tIs (.int .i64 (exE f (msign g)))], tV encP (exQ f (msign g)), tIs (.int .i64 (exE f (msign g))), pOwn κ 0, tAny, tAny]) (fun i => [7].contains i) (fun i => [8].contains i) rfl rfl (fun _ => ⟨.inr rfl, ⟨.inr rfl, ⟨.inr rfl, ⟨.inr rfl, ⟨.inr rfl, ⟨.inr rfl, ⟨.inr rfl, ⟨.inl rfl, ⟨.inl rfl, ⟨.inl rfl, trivial⟩⟩⟩⟩⟩⟩⟩⟩⟩⟩) (by kernel_rfl) ?op1_7 ?mx1_7
  case op1_7 =>
   intro Γx hx
   refine J.alloc (R := cTs zP) zr28 (fun _ => ⟨rfl, rfl, rfl, rfl, slP_nil _ _, rfl, slP_nil _ _, rfl, trivial⟩) (ltN rfl) fun b5 => ?_
   exact J.midP (Hb := fun κ => [⟨κ, 28, cTs zP⟩, ⟨b3, 28, cTs [tIs (.int .i64 (f.lv)), tIs (.bool (f.c.neg)), tSl encD (f.c.abs), tSl encP (f.cs)]⟩, ⟨b2, 28, cTs [tIs (.int .i64 (g.lv)), tIs (.bool (g.c.neg)), tSl encD (g.c.abs), tSl encP (g.cs)]⟩]) (Tb := fun κ => [tV encP f, tV encP g, tV encP (msign g), tTup [tV encP (exQ f (msign g)), tIs (.int .i64 (exE f (msign g)))], tTup [tV encP (exQ f (msign g)), tIs (.int .i64 (exE f (msign g)))], tV encP (exQ f (msign g)), tIs (.int .i64 (exE f (msign g))), pOwn κ 0, tAny, tAny]) (n := 7) b5 rfl
  case mx1_7 =>
   intro b5
   refine RP.step (al := (fun i => [0, 1, 2, 3, 4, 5, 6].contains i)) (Γn := [(5, pOwn b5 0), (17, tIs (.int .i64 (exE f (msign g)))), (16, tV encP (exQ f (msign g))), (11, tTup [tV encP (exQ f (msign g)), tIs (.int .i64 (exE f (msign g)))]), (15, tTup [tV encP (exQ f (msign g)), tIs (.int .i64 (exE f (msign g)))]), (14, tV encP (msign g)), (13, tV encP g), (12, tV encP f), (4, tIs (.bool false)), (3, pOwn b3 0), (2, pOwn b2 0)]) (Γ' := ?pg2) 8 (by kernel_rfl) (by kernel_rfl) ?tp2 ?nx2
   case tp2 =>
    refine TP.op (oa (.t rfl) (.tail _ (.head _)) ag28 (cTs_ldV (g := polT) (y := f) (polT_eq f).symm rfl)) rfl (ltN rfl) rfl rfl ?_
    refine TP.op (oa (.t rfl) (.tail _ (.tail _ (.head _))) ag28 (cTs_ldV (g := polT) (y := g) (polT_eq g).symm rfl)) rfl (ltN rfl) rfl rfl ?_
    refine TP.op (oc fn21 (msign_c g (pg.fit (by omega)) pg.nr (pg.cnt_le hE) (by omega) (pg.terms_le hb.2.1 hE) (by rw [norm_can pg.can]; exact ne_zeroP hz)) (.cons (.t rfl) .nil)) rfl (ltN rfl) rfl rfl ?_
    refine TP.op (oc fn28 (pExact_c f (msign g) pf hq (Nat.le_trans (Nat.add_le_add_right (nrm_msign' pg.can hz) 2) ng) rm) (.cons (.t rfl) (.cons (.t rfl) .nil))) rfl (ltN rfl) rfl rfl ?_
    refine TP.op (ot_move (.t rfl)) rfl (ltN rfl) rfl rfl ?_
    refine TP.op (ot_extract (.t rfl) rfl) rfl (ltN rfl) rfl rfl ?_
    refine TP.op (ot_extract (.t rfl) rfl) rfl (ltN rfl) rfl rfl ?_
    refine TP.skip rfl rfl rfl ?_
    refine TP.at0 rfl rfl ?_
    refine TP.skip rfl rfl rfl ?_
    exact TP.nil
   case nx2 =>
   refine OneStep.mk (ι := Unit) (Hb := fun κ => [⟨b5, 28, cTs [tIs (.int .i64 ((exQ f (msign g)).lv)), tIs (.bool (((exQ f (msign g)).c).neg)), tSl encD (((exQ f (msign g)).c).abs), tSl encP ((exQ f (msign g)).cs)]⟩, ⟨b3, 28, cTs [tIs (.int .i64 (f.lv)), tIs (.bool (f.c.neg)), tSl encD (f.c.abs), tSl encP (f.cs)]⟩, ⟨b2, 28, cTs [tIs (.int .i64 (g.lv)), tIs (.bool (g.c.neg)), tSl encD (g.c.abs), tSl encP (g.cs)]⟩]) (Tb := fun κ => [tV encP f, tV encP g, tV encP (msign g), tTup [tV encP (exQ f (msign g)), tIs (.int .i64 (exE f (msign g)))], tTup [tV encP (exQ f (msign g)), tIs (.int .i64 (exE f (msign g)))], tV encP (exQ f (msign g)), tIs (.int .i64 (exE f (msign g))), pOwn b5 0, tAny, tIs (.int .i64 (exE f (msign g)))]) (fun i => [0, 1, 2, 3, 4, 5, 7, 8].contains i) (fun _ => false) rfl rfl (fun _ => ⟨.inr rfl, ⟨.inr rfl, ⟨.inr rfl, ⟨.inr rfl, ⟨.inr rfl, ⟨.inr rfl, ⟨.inr rfl, ⟨.inr rfl, ⟨.inl rfl, ⟨.inl rfl, trivial⟩⟩⟩⟩⟩⟩⟩⟩⟩⟩) (by kernel_rfl) ?op2_8 ?mx2_8
   case op2_8 =>
    intro Γx hx
    refine J.store (.move hx (.t rfl) (by kernel_rfl)) (.eq (.move hx (.t rfl) (by kernel_rfl)) (tV_F (Ts := [tIs (.int .i64 ((exQ f (msign g)).lv)), tIs (.bool (((exQ f (msign g)).c).neg)), tSl encD (((exQ f (msign g)).c).abs), tSl encP ((exQ f (msign g)).cs)]) (polT_eq _))) .here sz28 (st_agg (Ts' := [tIs (.int .i64 ((exQ f (msign g)).lv)), tIs (.bool (((exQ f (msign g)).c).neg)), tSl encD (((exQ f (msign g)).c).abs), tSl encP ((exQ f (msign g)).cs)]) (o := 0) rfl) ?_
    exact J.midP (Hb := fun κ => [⟨b5, 28, cTs [tIs (.int .i64 ((exQ f (msign g)).lv)), tIs (.bool (((exQ f (msign g)).c).neg)), tSl encD (((exQ f (msign g)).c).abs), tSl encP ((exQ f (msign g)).cs)]⟩, ⟨b3, 28, cTs [tIs (.int .i64 (f.lv)), tIs (.bool (f.c.neg)), tSl encD (f.c.abs), tSl encP (f.cs)]⟩, ⟨b2, 28, cTs [tIs (.int .i64 (g.lv)), tIs (.bool (g.c.neg)), tSl encD (g.c.abs), tSl encP (g.cs)]⟩]) (Tb := fun κ => [tV encP f, tV encP g, tV encP (msign g), tTup [tV encP (exQ f (msign g)), tIs (.int .i64 (exE f (msign g)))], tTup [tV encP (exQ f (msign g)), tIs (.int .i64 (exE f (msign g)))], tV encP (exQ f (msign g)), tIs (.int .i64 (exE f (msign g))), pOwn b5 0, tAny, tIs (.int .i64 (exE f (msign g)))]) (n := 8) () rfl
   case mx2_8 =>
    intro _
    refine RP.last (al := (fun i => [6, 9].contains i)) (Γn := []) (Γ' := [(6, tIs (.int .i64 (exE f (msign g)))), (5, pOwn b5 0), (17, tIs (.int .i64 (exE f (msign g)))), (16, tV encP (exQ f (msign g))), (11, tTup [tV encP (exQ f (msign g)), tIs (.int .i64 (exE f (msign g)))]), (15, tTup [tV encP (exQ f (msign g)), tIs (.int .i64 (exE f (msign g)))]), (14, tV encP (msign g)), (13, tV encP g), (12, tV encP f), (4, tIs (.bool false)), (3, pOwn b3 0), (2, pOwn b2 0)]) (by kernel_rfl) (by kernel_rfl) ?tp3 ?_
    case tp3 =>
     refine TP.skip rfl rfl rfl ?_
     refine TP.skip rfl rfl rfl ?_
     refine TP.skip rfl rfl rfl ?_
     refine TP.skip rfl rfl rfl ?_
     refine TP.skip rfl rfl rfl ?_
     refine TP.skip rfl rfl rfl ?_
     refine TP.op (ot_extract (.t rfl) rfl) rfl (ltN rfl) rfl rfl ?_
     refine TP.skip rfl rfl rfl ?_
     refine TP.skip0 rfl rfl rfl ?_
     refine TP.op (ot_assign (.t rfl)) rfl (ltN rfl) rfl rfl ?_
     exact TP.nil
    refine JQ.then_normal (JC.g (J.M rfl rfl ?_))
    refine J.o (ot_eql (.t rfl) .is) rfl (J.A rfl rfl (J.e (JC.ret ?_)))
    exact JQ.ret1 rfl (.tmp (.eq (.t rfl) (by rw [dvP, if_neg (by rw [hz]; decide), exE, if_neg (by rw [hmz]; decide), opt_dec])))

theorem few20_c (ts : List Tm) (n d m : Int) (hn : n ≤ 1000000) : Ctr Try.prog 70 [tSl encTm ts, tIs (.int .i64 n), tIs (.int .i64 d), tIs (.int .i64 m)] (tIs (.bool (fewS ts n d m))) := by
 refine Ctr.of Try.func70 rfl Try.ntmps70 (Nat.le_of_ble_eq_true rfl) fun w0 M0 => (JC.g ?_)
 refine J.a .is rfl (J.e (JC.seq (JC.g (J.M rfl rfl ?_))))
 refine J.o (ot_len (.t rfl) sl54 rfl) rfl (J.M rfl rfl ?_)
 refine J.o (ot_gtr (.t rfl) (.t rfl)) rfl (J.e ?_)
 refine JC.cond (.t rfl) (fun hc0 => ?_) (fun hc0 => ?_)
 ·try simp only [bsx] at hc0
  have hs14 := hc0
  refine (JC.g ?_)
  refine J.a .is rfl (J.e (JC.ret (JQ.then_ret ?_)))
  exact JQ.ret1 rfl (.tmp (.eq (.t rfl) (by rw [fewS_long (by omega)])))
 ·try simp only [bsx] at hc0
  have hs14 := hc0
  refine JC.skip (JQ.then_normal (JC.seq (JC.g ?_)))
  refine J.a .is rfl (J.e (JC.block ?_))
  refine JC.loop (ι := Nat) (fun i => [(0, tSl encTm ts), (2, tIs (.int .i64 d)), (3, tIs (.int .i64 m)), (9, tIs (.int .i64 (i : Int)))]) (fun i => []) (fun i => i ≤ ts.length ∧ (ts.take i).all (fewT d m) = true) (fun i => ts.length - i) 0 ⟨by omega, by simp⟩ ?lsub0 ?round0
  case lsub0 => exact sub_trans (sub_heap .nil) (sub_l ⟨.t rfl, .t rfl, .t rfl, .eq (.t rfl) (by first | rfl | (congr 3; omega) | (congr 2; omega)), trivial⟩)
  intro i hinv
  obtain ⟨hi, hall⟩ := hinv
  refine JC.seq (JC.g (J.M rfl rfl (J.M rfl rfl ?_)))
  refine J.o (ot_len (.t rfl) sl54 rfl) rfl ?_
  refine J.o (ot_lss (.t rfl) (.t rfl)) rfl (J.e ?_)
  refine JC.cond (.t rfl) (fun hc1 => ?_) (fun hc1 => ?_)
  ·try simp only [bsx] at hc1
   have hs18 := hc1
   refine JC.skip (JQ.then_normal (JC.seq (JC.block (JC.seq (JC.g (J.M rfl rfl (J.M rfl rfl ?_)))))))
   refine J.o (ixo (z := atT ts i) (.t rfl) (.t rfl) sl54 (by omega) (atT_at rfl (by omega))) rfl ?_
   refine J.o (ofp (.t rfl) fd97_0 (fun _ _ h => h)) rfl ?_
   refine J.o (ofp (R' := cDrop (cEnc encTm (atT ts i)) 1) (.t rfl) fd25_1 (fun _ _ h => cDrop_mk h)) rfl ?_
   refine J.o (ld (.t rfl) sc23 (ldF rfl)) rfl ?_
   refine J.o (ot_len (.t rfl) sl23 rfl) rfl (J.M rfl rfl ?_)
   refine J.o (ot_gtr (.t rfl) (.t rfl)) rfl (J.e ?_)
   refine JC.cond (.t rfl) (fun hc2 => ?_) (fun hc2 => ?_)
   ·try simp only [bsx] at hc2
    have hs29 := hc2
    refine (JC.g ?_)
    refine J.a .is rfl (J.e (JC.ret (JQ.then_ret (JQ.block_ret (JQ.then_ret (JQ.then_ret (JQ.block_ret (JQ.then_ret ?_))))))))
    exact JQ.ret1 rfl (.tmp (.eq (.t rfl) (by rw [fewS_no (atT_mem (i := i) (by omega)) (fewT_len (by omega))])))
   ·try simp only [bsx] at hc2
    have hs29 := hc2
    refine JC.skip (JQ.then_normal (JC.g ?_))
    refine J.a .is rfl (J.e (JC.block ?_))
    refine JC.loop (ι := Nat) (fun k => [(0, tSl encTm ts), (2, tIs (.int .i64 d)), (3, tIs (.int .i64 m)), (9, tIs (.int .i64 (i : Int))), (10, tIs (.int .i64 (k : Int))), (15, tIs (.int .i64 (i : Int))), (16, tSl encTm ts), (17, tIs (.int .i64 (((ts).length : Int)))), (18, tIs (.bool (decide ((i : Int) < ((ts).length : Int))))), (21, tSl encTm ts), (22, tIs (.int .i64 (i : Int))), (23, tPtr (cEnc encTm (atT ts i))), (24, tPtr (cEnc encTm (atT ts i))), (25, tPtr (cDrop (cEnc encTm (atT ts i)) 1)), (26, tSl encD (((atT ts i).coef).abs)), (27, tIs (.int .i64 (((((atT ts i).coef).abs).length : Int)))), (28, tIs (.int .i64 d)), (29, tIs (.bool (decide (d < ((((atT ts i).coef).abs).length : Int)))))]) (fun k => []) (fun k => k ≤ 4 ∧ ∀ q, q < k → (atT ts i).exp.at q ≤ m ∧ -1000 ≤ (atT ts i).exp.at q) (fun k => 4 - k) 0 ⟨by omega, fun q hq => by omega⟩ ?lsub1 ?round1
    case lsub1 => exact sub_trans (sub_heap .nil) (sub_l ⟨.t rfl, .t rfl, .t rfl, .t rfl, .eq (.t rfl) (by first | rfl | (congr 3; omega) | (congr 2; omega)), .t rfl, .t rfl, .t rfl, .t rfl, .t rfl, .t rfl, .t rfl, .t rfl, .t rfl, .t rfl, .t rfl, .t rfl, .t rfl, trivial⟩)
    intro k hinv
    obtain ⟨hk, hks⟩ := hinv
    refine JC.seq (JC.g (J.M rfl rfl ?_))
    refine J.o (ot_lss (.t rfl) .is) rfl (J.e ?_)
    refine JC.cond (.t rfl) (fun hc3 => ?_) (fun hc3 => ?_)
    ·try simp only [bsx] at hc3
     have hs31 := hc3
     refine JC.skip (JQ.then_normal (JC.seq (JC.block (JC.g (J.M rfl rfl (J.M rfl rfl (J.M rfl rfl ?_)))))))
     refine J.o (ixo (z := atT ts i) (.t rfl) (.t rfl) sl54 (by omega) (atT_at rfl (by omega))) rfl ?_
     refine J.o (ofp (R' := cDrop (cEnc encTm (atT ts i)) 2) (.t rfl) fd97_1 (fun _ _ h => cDrop_mk h)) rfl ?_
     refine J.o (ot_indexAddrP (T := tIs (.int .i64 ((atT ts i).exp.at k))) (.t rfl) (.t rfl) ar4_95 (by omega) (by omega) (tm_at (i := k) (by omega) (by omega))) rfl ?_
     refine J.o (ld (.t rfl) sc3 cOne_ld) rfl (J.M rfl rfl ?_)
     refine J.o (ot_gtr (.t rfl) (.t rfl)) rfl (J.M rfl rfl ?_)
     refine J.opg rfl rfl rfl (ltN rfl) (fun hg => ot_move (.t rfl)) rfl (ltN rfl) ?_
     refine J.opg rfl rfl rfl (ltN rfl) (fun hg => ot_move (.t rfl)) rfl (ltN rfl) ?_
     refine J.opg rfl rfl rfl (ltN rfl) (fun hg => ot_move (.t rfl)) rfl (ltN rfl) ?_
     refine J.opg rfl rfl rfl (ltN rfl) (fun hg => (by have hg' := hg; (try simp only [bsx] at hg'); exact ixo (z := atT ts i) (.iff hg (.t rfl)) (.iff hg (.t rfl)) sl54 (by omega) (atT_at rfl (by omega)))) rfl (ltN rfl) ?_
     refine J.opg rfl rfl rfl (ltN rfl) (fun hg => ofp (R' := cDrop (cEnc encTm (atT ts i)) 2) (.iff hg (.t rfl)) fd97_1 (fun _ _ h => cDrop_mk h)) rfl (ltN rfl) ?_
     refine J.opg rfl rfl rfl (ltN rfl) (fun hg => (by have hg' := hg; (try simp only [bsx] at hg'); exact ot_indexAddrP (T := tIs (.int .i64 ((atT ts i).exp.at k))) (.iff hg (.t rfl)) (.iff hg (.t rfl)) ar4_95 (by omega) (by omega) (tm_at (i := k) (by omega) (by omega)))) rfl (ltN rfl) ?_
     refine J.opg rfl rfl rfl (ltN rfl) (fun hg => ld (.iff hg (.t rfl)) sc3 cOne_ld) rfl (ltN rfl) ?_
     refine J.opg rfl rfl rfl (ltN rfl) (fun hg => ot_lss (.iff hg (.t rfl)) .is) rfl (ltN rfl) ?_
     refine J.o (ot_or2 (.t rfl) .is (.t rfl)) rfl (J.e ?_)
     refine JC.cond (.t rfl) (fun hc4 => ?_) (fun hc4 => ?_)
     ·try simp only [bsx] at hc4
      have hs52 := hc4
      refine (JC.g ?_)
      refine J.a .is rfl (J.e (JC.ret (JQ.block_ret (JQ.then_ret (JQ.then_ret (JQ.block_ret (JQ.block_ret (JQ.then_ret (JQ.then_ret (JQ.block_ret (JQ.then_ret ?_)))))))))))
      exact JQ.ret1 rfl (.tmp (.eq (.t rfl) (by rw [fewS_no (atT_mem (i := i) (by omega)) (fewT_exp (k := k) (by omega) (by omega))])))
     ·try simp only [bsx] at hc4
      have hs52 := hc4
      refine JC.skip (JQ.block_normal (JQ.then_normal (JC.region (J.M rfl rfl ?_))))
      refine J.o (ot_add (.t rfl) .is (w64 (by omega) (by omega))) rfl (J.A rfl rfl (J.nil ?_))
      exact JQ.round (k + 1) ⟨by omega, fun q hq => by rcases Nat.lt_or_ge q k with h | h; exact hks q h; rw [show q = k by omega]; omega⟩ (by omega) (sub_trans (sub_heap .nil) (sub_l ⟨.t rfl, .t rfl, .t rfl, .t rfl, .eq (.t rfl) (by first | rfl | (congr 3; omega) | (congr 2; omega)), .t rfl, .t rfl, .t rfl, .t rfl, .t rfl, .t rfl, .t rfl, .t rfl, .t rfl, .t rfl, .t rfl, .t rfl, .t rfl, trivial⟩))
    ·try simp only [bsx] at hc3
     have hs31 := hc3
     refine JC.exit (JQ.then_exit (JQ.then_exit (JQ.block_exit (JQ.block_normal (JQ.then_normal (JC.region (J.M rfl rfl ?_)))))))
     refine J.o (ot_add (.t rfl) .is (w64 (by omega) (by omega))) rfl (J.A rfl rfl (J.nil ?_))
     exact JQ.round (i + 1) ⟨by omega, allT_take (by omega) hall (fewT_yes (by omega) (fun q hq => hks q (by omega)))⟩ (by omega) (sub_trans (sub_heap .nil) (sub_l ⟨.t rfl, .t rfl, .t rfl, .eq (.t rfl) (by first | rfl | (congr 3; omega) | (congr 2; omega)), trivial⟩))
  ·try simp only [bsx] at hc1
   have hs18 := hc1
   refine JC.exit (JQ.then_exit (JQ.then_exit (JQ.block_exit (JQ.then_normal (JC.g ?_)))))
   refine J.a .is rfl (J.e (JC.ret ?_))
   exact JQ.ret1 rfl (.tmp (.eq (.t rfl) (by unfold fewS; rw [decide_eq_true (by omega)]; rw [show i = ts.length by omega, List.take_length] at hall; rw [hall]; rfl)))

theorem few24_c (ts : List Tm) (n m : Int) (hn : n ≤ 1000000) : Ctr Try.prog 26 [tSl encTm ts, tIs (.int .i64 n), tIs (.int .i64 m)] (tIs (.bool (fewS ts n 4 m))) := by
 refine Ctr.of Try.func26 rfl Try.ntmps26 (Nat.le_of_ble_eq_true rfl) fun w0 M0 => (JC.g ?_)
 refine J.a .is rfl (J.e (JC.g (J.M rfl rfl (J.M rfl rfl (J.M rfl rfl ?_)))))
 refine J.o (oc fn70 (few20_c ts n 4 m (by omega)) (.cons (.t rfl) (.cons (.t rfl) (.cons .is (.cons (.t rfl) .nil))))) rfl (J.A rfl rfl (J.e (JC.ret ?_)))
 exact JQ.ret1 rfl (.tmp (.t rfl))

theorem refCan_c {k B : Nat} (p : Pol) (b : Int) (cp : CanP k p) (hb : (k : Int) < b) (hf : Fit B p) (hB : B ≤ 1000000000000) : Ctr Try.prog 78 [tV encP p, tIs (.int .i64 b)] (tIs (.bool true)) := by
 induction p using Pol.ind generalizing b k
 rename_i p ih
 have hc := hf.c
 have hcs := hf.cs
 have hlv := cp.lev.lv
 obtain ⟨c1, c2⟩ := canC cp
 refine Ctr.of Try.func78 rfl Try.ntmps78 (Nat.le_of_ble_eq_true rfl) fun w0 M0 => (JC.g ?_)
 refine J.boxF (Ts := [tIs (.int .i64 (p.lv)), tIs (.bool (p.c.neg)), tSl encD (p.c.abs), tSl encP (p.cs)]) (.t rfl) (polT_eq _) (ltN rfl) fun b2 => ?_
 refine J.a .is rfl (J.e (JC.g ?_))
 refine J.o (ofa (.t rfl) fd28_1) rfl ?_
 refine J.o (ofa (.t rfl) fd25_1) rfl ?_
 refine J.o (ol (.t rfl) (.head _) sc23 (cTs_ld rfl)) rfl ?_
 refine J.o (ot_len (.t rfl) sl23 rfl) rfl (J.A rfl rfl (J.e (JC.seq (JC.g (J.M rfl rfl ?_)))))
 refine J.o (ot_gtr (.t rfl) .is) rfl (J.M rfl rfl ?_)
 refine J.opg rfl rfl rfl (ltN rfl) (fun hg => ofa (.t rfl) fd28_1) rfl (ltN rfl) ?_
 refine J.opg rfl rfl rfl (ltN rfl) (fun hg => ofa (.iff hg (.t rfl)) fd25_1) rfl (ltN rfl) ?_
 refine J.opg rfl rfl rfl (ltN rfl) (fun hg => ol (.iff hg (.t rfl)) (.head _) sc23 (cTs_ld rfl)) rfl (ltN rfl) ?_
 refine J.opg rfl rfl rfl (ltN rfl) (fun hg => ot_move (.t rfl)) rfl (ltN rfl) ?_
 refine J.opg rfl rfl rfl (ltN rfl) (fun hg => (by have hg' := hg; (try simp only [bsx] at hg'); exact ot_sub (.iff hg (.t rfl)) .is (w64 (by omega) (by omega)))) rfl (ltN rfl) ?_
 refine J.opg rfl rfl rfl (ltN rfl) (fun hg => (by have hg' := hg; (try simp only [bsx] at hg'); exact ixo (z := p.c.abs.getD (p.c.abs.length - 1) 0) (.iff hg (.t rfl)) (.iff hg (.t rfl)) sl23 (by omega) (digAt (by omega) (by omega)))) rfl (ltN rfl) ?_
 refine J.opg rfl rfl rfl (ltN rfl) (fun hg => ld (.iff hg (.t rfl)) sc128 encD_ld) rfl (ltN rfl) ?_
 refine J.opg rfl rfl rfl (ltN rfl) (fun hg => ot_eql (.iff hg (.t rfl)) .is) rfl (ltN rfl) ?_
 refine J.o (ot_and2 (.t rfl) (.t rfl) .is) rfl (J.M rfl rfl ?_)
 refine J.opg rfl rfl rfl (ltN rfl) (fun hg => ot_move (.t rfl)) rfl (ltN rfl) ?_
 refine J.opg rfl rfl rfl (ltN rfl) (fun hg => ot_eql (.iff hg (.t rfl)) .is) rfl (ltN rfl) ?_
 refine J.opg rfl rfl rfl (ltN rfl) (fun hg => ot_move (.iff hg (.t rfl))) rfl (ltN rfl) ?_
 refine J.opgg rfl rfl rfl (ltN rfl) (fun hg => ofa (.t rfl) fd28_1) rfl (ltN rfl) ?_
 refine J.opgg rfl rfl rfl (ltN rfl) (fun hg => ofa (.iff hg (.t rfl)) fd25_0) rfl (ltN rfl) ?_
 refine J.opgg rfl rfl rfl (ltN rfl) (fun hg => ol (.iff hg (.t rfl)) (.head _) sc4 (cTs_ld rfl)) rfl (ltN rfl) ?_
 refine J.opg rfl rfl rfl (ltN rfl) (fun hg => ot_and2 (.iff hg (.t rfl)) (.iffr hg (.t rfl)) .is) rfl (ltN rfl) ?_
 refine J.o (ot_or2 (.t rfl) .is (.t rfl)) rfl (J.e ?_)
 refine JC.cond_false (.eq (.t rfl) (by by_cases q : 0 < p.c.abs.length; (rw [decide_eq_true (show (0 : Int) < (p.c.abs.length : Int) by omega), decide_eq_false (show ¬ ((p.c.abs.getD (p.c.abs.length - 1) 0 : Nat) : Int) = 0 by have := c1 q; omega), decide_eq_false (show ¬ (p.c.abs.length : Int) = 0 by omega)]; rfl); (rw [c2 (by omega), decide_eq_false (show ¬ (0 : Int) < (p.c.abs.length : Int) by omega)]; simp))) (JC.skip (JQ.then_normal (JC.seq (JC.g ?_))))
 refine J.o (ofa (.t rfl) fd28_0) rfl ?_
 refine J.o (ol (.t rfl) (.head _) sc3 (cTs_ld rfl)) rfl ?_
 refine J.o (ot_eql (.t rfl) .is) rfl (J.e ?_)
 refine JC.cond (.t rfl) (fun hc1 => ?_) (fun hc1 => ?_)
 ·try simp only [bsx] at hc1
  have hs35 := hc1
  refine (JC.g ?_)
  refine J.o (ofa (.t rfl) fd28_2) rfl ?_
  refine J.o (ol (.t rfl) (.head _) sc26 (cTs_ld rfl)) rfl ?_
  refine J.o (ot_len (.t rfl) sl26 rfl) rfl ?_
  refine J.o (ot_eql (.t rfl) .is) rfl (J.A rfl rfl (J.e (JC.ret (JQ.then_ret ?_))))
  exact JQ.ret1 rfl (.tmp (.eq (.t rfl) (by rw [canC_cs cp hs35]; rfl)))
 ·try simp only [bsx] at hc1
  have hs35 := hc1
  obtain ⟨l, hl⟩ : ∃ l : Nat, p.lv = ((l + 1 : Nat) : Int) := ⟨p.lv.toNat - 1, by omega⟩
  have hk := cp.sub_can hl
  obtain ⟨e2, e3, _, _⟩ := cp.ends hs35
  have hc0 := canC_node cp hs35
  refine JC.skip (JQ.then_normal (JC.seq (JC.g ?_)))
  refine J.o (ofa (.t rfl) fd28_0) rfl ?_
  refine J.o (ol (.t rfl) (.head _) sc3 (cTs_ld rfl)) rfl ?_
  refine J.o (ot_lss (.t rfl) .is) rfl (J.M rfl rfl ?_)
  refine J.opg rfl rfl rfl (ltN rfl) (fun hg => ofa (.t rfl) fd28_0) rfl (ltN rfl) ?_
  refine J.opg rfl rfl rfl (ltN rfl) (fun hg => ol (.iff hg (.t rfl)) (.head _) sc3 (cTs_ld rfl)) rfl (ltN rfl) ?_
  refine J.opg rfl rfl rfl (ltN rfl) (fun hg => ot_move (.t rfl)) rfl (ltN rfl) ?_
  refine J.opg rfl rfl rfl (ltN rfl) (fun hg => ot_geq (.iff hg (.t rfl)) (.iff hg (.t rfl))) rfl (ltN rfl) ?_
  refine J.o (ot_or2 (.t rfl) .is (.t rfl)) rfl (J.M rfl rfl ?_)
  refine J.opg rfl rfl rfl (ltN rfl) (fun hg => ot_move (.t rfl)) rfl (ltN rfl) ?_
  refine J.opg rfl rfl rfl (ltN rfl) (fun hg => ot_gtr (.iff hg (.t rfl)) .is) rfl (ltN rfl) ?_
  refine J.o (ot_or2 (.t rfl) .is (.t rfl)) rfl (J.M rfl rfl ?_)
  refine J.opg rfl rfl rfl (ltN rfl) (fun hg => ofa (.t rfl) fd28_2) rfl (ltN rfl) ?_
  refine J.opg rfl rfl rfl (ltN rfl) (fun hg => ol (.iff hg (.t rfl)) (.head _) sc26 (cTs_ld rfl)) rfl (ltN rfl) ?_
  refine J.opg rfl rfl rfl (ltN rfl) (fun hg => ot_len (.iff hg (.t rfl)) sl26 rfl) rfl (ltN rfl) ?_
  refine J.opg rfl rfl rfl (ltN rfl) (fun hg => ot_lss (.iff hg (.t rfl)) .is) rfl (ltN rfl) ?_
  refine J.o (ot_or2 (.t rfl) .is (.t rfl)) rfl (J.e ?_)
  refine JC.cond_false (.eq (.t rfl) (by rw [hc0, decide_eq_false (show ¬ p.lv < 0 by omega), decide_eq_false (show ¬ b ≤ p.lv by omega), decide_eq_false (show ¬ (p.cs.length : Int) < 2 by omega)]; rfl)) (JC.skip (JQ.then_normal (JC.seq (JC.g ?_))))
  refine J.a .is rfl (J.e (JC.block ?_))
  refine JC.loop (ι := Nat) (fun i => [(2, pOwn b2 0), (6, tIs (.int .i64 (i : Int)))]) (fun i => [⟨b2, 28, cTs [tIs (.int .i64 (p.lv)), tIs (.bool (p.c.neg)), tSl encD (p.c.abs), tSl encP (p.cs)]⟩]) (fun i => i ≤ p.cs.length) (fun i => p.cs.length - i) 0 (by omega) ?lsub0 ?round0
  case lsub0 => exact sub_trans (sub_heap (.k .nil)) (sub_l ⟨.t rfl, .eq (.t rfl) (by first | rfl | (congr 3; omega) | (congr 2; omega)), trivial⟩)
  intro i hinv
  refine JC.seq (JC.g (J.M rfl rfl ?_))
  refine J.o (ofa (.t rfl) fd28_2) rfl ?_
  refine J.o (ol (.t rfl) (.head _) sc26 (cTs_ld rfl)) rfl ?_
  refine J.o (ot_len (.t rfl) sl26 rfl) rfl ?_
  refine J.o (ot_lss (.t rfl) (.t rfl)) rfl (J.e ?_)
  refine JC.cond (.t rfl) (fun hc3 => ?_) (fun hc3 => ?_)
  ·try simp only [bsx] at hc3
   have hs63 := hc3
   refine JC.skip (JQ.then_normal (JC.seq (JC.block (JC.seq ?_))))
   refine JC.draw (Γ' := ?g1) mo (by kernel_rfl) ?tw1 ?k1
   case tw1 =>
    refine TW.o (ofa (.t rfl) fd28_2) rfl ?_
    refine TW.o (ol (.t rfl) (.head _) sc26 (cTs_ld rfl)) rfl (TW.M rfl rfl ?_)
    refine TW.o (ixo (z := atP p.cs i) (.t rfl) (.t rfl) sl26 (by omega) (atP_at (by omega) (by omega))) rfl ?_
    refine TW.o (lda (.t rfl) ag28 ldp_whole) rfl ?_
    refine TW.o (ofa (.t rfl) fd28_0) rfl ?_
    refine TW.o (ol (.t rfl) (.head _) sc3 (cTs_ld rfl)) rfl ?_
    refine TW.o (oc fn78 (ih (atP p.cs i) (atP_mem (by omega)) p.lv (hk _ (atP_mem (by omega))) (by omega) (hf.at (by omega))) (.cons (.t rfl) (.cons (.t rfl) .nil))) rfl ?_
    refine TW.o (ot_not (.t rfl)) rfl ?_
    exact TW.nil
   refine JQ.then_normal ?_
   refine JC.cond_false (.eq (.t rfl) (by rfl)) (JC.skip (JQ.block_normal (JQ.then_normal (JC.region (J.M rfl rfl ?_)))))
   refine J.o (ot_add (.t rfl) .is (w64 (by omega) (by omega))) rfl (J.A rfl rfl (J.nil ?_))
   exact JQ.round (i + 1) (by omega) (by omega) (sub_trans (sub_heap (.k .nil)) (sub_l ⟨.t rfl, .eq (.t rfl) (by first | rfl | (congr 3; omega) | (congr 2; omega)), trivial⟩))
  ·try simp only [bsx] at hc3
   have hs63 := hc3
   refine JC.exit (JQ.then_exit (JQ.then_exit (JQ.block_exit (JQ.then_normal (JC.g ?_)))))
   refine J.o (ofa (.t rfl) fd28_2) rfl ?_
   refine J.o (ol (.t rfl) (.head _) sc26 (cTs_ld rfl)) rfl ?_
   refine J.o (ofa (.t rfl) fd28_2) rfl ?_
   refine J.o (ol (.t rfl) (.head _) sc26 (cTs_ld rfl)) rfl ?_
   refine J.o (ot_len (.t rfl) sl26 rfl) rfl ?_
   refine J.o (ot_sub (.t rfl) .is (w64 (by omega) (by omega))) rfl ?_
   refine J.o (ixo (z := atP p.cs (p.cs.length - 1)) (.t rfl) (.t rfl) sl26 (by omega) (atP_at (by omega) (by omega))) rfl ?_
   refine J.o (lda (.t rfl) ag28 ldp_whole) rfl ?_
   refine J.alloc (R := cTs zP) zr28 (fun _ => ⟨rfl, rfl, rfl, rfl, slP_nil _ _, rfl, slP_nil _ _, rfl, trivial⟩) (ltN rfl) fun b7 => ?_
   refine J.store (.t rfl) (.eq (.t rfl) (tV_F (Ts := [tIs (.int .i64 ((atP p.cs (p.cs.length - 1)).lv)), tIs (.bool (((atP p.cs (p.cs.length - 1)).c).neg)), tSl encD (((atP p.cs (p.cs.length - 1)).c).abs), tSl encP ((atP p.cs (p.cs.length - 1)).cs)]) (polT_eq _))) .here sz28 (st_agg (Ts' := [tIs (.int .i64 ((atP p.cs (p.cs.length - 1)).lv)), tIs (.bool (((atP p.cs (p.cs.length - 1)).c).neg)), tSl encD (((atP p.cs (p.cs.length - 1)).c).abs), tSl encP ((atP p.cs (p.cs.length - 1)).cs)]) (o := 0) rfl) (J.e (JC.g ?_))
   refine J.o (ofa (.t rfl) fd28_0) rfl ?_
   refine J.o (ol (.t rfl) (.head _) sc3 (cTs_ld rfl)) rfl ?_
   refine J.o (ot_gtr (.t rfl) .is) rfl (J.M rfl rfl ?_)
   refine J.opg rfl rfl rfl (ltN rfl) (fun hg => ofa (.t rfl) fd28_1) rfl (ltN rfl) ?_
   refine J.opg rfl rfl rfl (ltN rfl) (fun hg => ofa (.iff hg (.t rfl)) fd25_1) rfl (ltN rfl) ?_
   refine J.opg rfl rfl rfl (ltN rfl) (fun hg => ol (.iff hg (.t rfl)) (.head _) sc23 (cTs_ld rfl)) rfl (ltN rfl) ?_
   refine J.opg rfl rfl rfl (ltN rfl) (fun hg => ot_len (.iff hg (.t rfl)) sl23 rfl) rfl (ltN rfl) ?_
   refine J.opg rfl rfl rfl (ltN rfl) (fun hg => ot_gtr (.iff hg (.t rfl)) .is) rfl (ltN rfl) ?_
   refine J.o (ot_or2 (.t rfl) .is (.t rfl)) rfl (J.A rfl rfl (J.e (JC.ret ?_)))
   exact JQ.ret1 rfl (.tmp (.eq (.t rfl) (by rcases canC_last (hk _ (atP_mem (by omega))) e3 with h | h; (rw [decide_eq_true h]; rfl); (rw [show decide ((0 : Int) < ((atP p.cs (p.cs.length - 1)).c.abs.length : Int)) = true from decide_eq_true (by omega)]; simp))))

theorem canon24_c {D B : Nat} (p : Pol) (hp : Pg D B p) (hb : D ≤ 4294967296 ∧ B ≤ 90000000000) : Ctr Try.prog 32 [tV encP p] (tIs (.bool true)) := by
 refine Ctr.of Try.func32 rfl Try.ntmps32 (Nat.le_of_ble_eq_true rfl) fun w0 M0 => (JC.g ?_)
 refine J.boxF (Ts := [tIs (.int .i64 (p.lv)), tIs (.bool (p.c.neg)), tSl encD (p.c.abs), tSl encP (p.cs)]) (.t rfl) (polT_eq _) (ltN rfl) fun b1 => ?_
 refine J.a .is rfl (J.e (JC.g ?_))
 refine J.o (oa (.t rfl) (.head _) ag28 (cTs_ldV (g := polT) (y := p) (polT_eq p).symm rfl)) rfl ?_
 refine J.o (oc fn78 (refCan_c p 5 hp.can (by decide) (hp.fit hb.1) (by omega)) (.cons (.t rfl) (.cons .is .nil))) rfl (J.A rfl rfl (J.e (JC.ret ?_)))
 exact JQ.ret1 rfl (.tmp (.t rfl))

theorem pow_c {D B : Nat} (p : Pol) (n : Int) (N : Nat) (hp : Pg D B p) (hn : n = (N : Int)) (hN : N < 64) (hD : 1 ≤ D) (hb : 2 + 2 * (D * N) ≤ 4294967296 ∧ 2 + 2 * (B * N) ≤ 40000000000 ∧ D ≤ 4294967296 ∧ B ≤ 40000000000) : Ctr Try.prog 69 [tV encP p, tIs (.int .i64 n)] (tV encP (powP p N)) := by
 have hpw := fun a (h : a ≤ N) => powP_pg hp hD a
 have hsz := fun a (h : a ≤ N) => (show D * a ≤ D * N ∧ B * a ≤ B * N from ⟨Nat.mul_le_mul_left _ h, Nat.mul_le_mul_left _ h⟩)
 refine Ctr.of Try.func69 rfl Try.ntmps69 (Nat.le_of_ble_eq_true rfl) fun w0 M0 => (JC.g ?_)
 refine J.boxF (Ts := [tIs (.int .i64 (p.lv)), tIs (.bool (p.c.neg)), tSl encD (p.c.abs), tSl encP (p.cs)]) (.t rfl) (polT_eq _) (ltN rfl) fun b2 => ?_
 refine J.alloc (R := cTs zP) zr28 (fun _ => ⟨rfl, rfl, rfl, rfl, slP_nil _ _, rfl, slP_nil _ _, rfl, trivial⟩) (ltN rfl) fun b4 => (J.e (JC.g ?_))
 refine J.o (oc fn37 (intOf_c 1 (by omega)) (.cons .is .nil)) rfl ?_
 refine J.o (ot_eqt (T' := tV encP (powP p 0)) (oc fn36 (constK_c (ofI 1) (by rw [ofI1_len]; omega)) (.cons (.t rfl) .nil)) (by rw [zval_ofI]; rfl)) rfl ?_
 refine J.alloc (R := cTs zP) zr28 (fun _ => ⟨rfl, rfl, rfl, rfl, slP_nil _ _, rfl, slP_nil _ _, rfl, trivial⟩) (ltN rfl) fun b5 => ?_
 refine J.store (.t rfl) (.eq (.t rfl) (tV_F (Ts := [tIs (.int .i64 ((powP p 0).lv)), tIs (.bool (((powP p 0).c).neg)), tSl encD (((powP p 0).c).abs), tSl encP ((powP p 0).cs)]) (polT_eq _))) .here sz28 (st_agg (Ts' := [tIs (.int .i64 ((powP p 0).lv)), tIs (.bool (((powP p 0).c).neg)), tSl encD (((powP p 0).c).abs), tSl encP ((powP p 0).cs)]) (o := 0) rfl) (J.e (JC.seq (JC.g ?_)))
 refine J.o (oa (.t rfl) (.tail _ (.tail _ (.head _))) ag28 (cTs_ldV (g := polT) (y := p) (polT_eq p).symm rfl)) rfl ?_
 refine J.o (oc fn45 (normK_c p hp ⟨by omega, by omega⟩) (.cons (.t rfl) .nil)) rfl ?_
 refine J.alloc (R := cTs zP) zr28 (fun _ => ⟨rfl, rfl, rfl, rfl, slP_nil _ _, rfl, slP_nil _ _, rfl, trivial⟩) (ltN rfl) fun b6 => ?_
 refine J.store (.t rfl) (.eq (.t rfl) (tV_F (Ts := [tIs (.int .i64 (p.lv)), tIs (.bool (p.c.neg)), tSl encD (p.c.abs), tSl encP (p.cs)]) (polT_eq _))) .here sz28 (st_agg (Ts' := [tIs (.int .i64 (p.lv)), tIs (.bool (p.c.neg)), tSl encD (p.c.abs), tSl encP (p.cs)]) (o := 0) rfl) (J.e (JC.block ?_))
 refine JC.loop4 (α := Nat) (β := Nat) (γ := Nat) (δ := Nat) (fun a b m c => [(1, tIs (.int .i64 (m : Int))), (4, pOwn b4 0), (5, pOwn b5 0), (6, pOwn c 0)]) (fun a b m c => [⟨c, 28, cTs [tIs (.int .i64 ((powP p b).lv)), tIs (.bool (((powP p b).c).neg)), tSl encD (((powP p b).c).abs), tSl encP ((powP p b).cs)]⟩, ⟨b5, 28, cTs [tIs (.int .i64 ((powP p a).lv)), tIs (.bool (((powP p a).c).neg)), tSl encD (((powP p a).c).abs), tSl encP ((powP p a).cs)]⟩, ⟨b4, 28, cTs zP⟩, ⟨b2, 28, cTs [tIs (.int .i64 (p.lv)), tIs (.bool (p.c.neg)), tSl encD (p.c.abs), tSl encP (p.cs)]⟩]) (fun a b m c => a + b * m = N ∧ 1 ≤ b) (fun a b m c => m) 0 1 N b6 ⟨by omega, by omega⟩ ?lsub0 ?round0
 case lsub0 => exact sub_trans (sub_heap (.keep (by rw [powP_one hp.can]; exact fun _ _ h => h) (.k (.k (.k .nil))))) (sub_l ⟨.eq (.t rfl) (by rw [hn]), .t rfl, .t rfl, .t rfl, trivial⟩)
 intro a b m c hinv
 obtain ⟨hab, hb1⟩ := hinv
 refine JC.seq (JC.g (J.M rfl rfl ?_))
 refine J.o (ot_gtr (.t rfl) .is) rfl (J.e ?_)
 refine JC.cond (.t rfl) (fun hc0 => ?_) (fun hc0 => ?_)
 ·try simp only [bsx] at hc0
  have hs12 := hc0
  have hm1 : 1 ≤ m := by omega
  have hbm : b * 1 ≤ b * m := Nat.mul_le_mul_left _ hm1
  have hmb : 1 * m ≤ b * m := Nat.mul_le_mul_right _ hb1
  have hpa := hpw a (by omega)
  have hpb := hpw b (by omega)
  have hsa := hsz a (by omega)
  have hsb := hsz b (by omega)
  have hand := and1 m (by omega)
  have hshr := shr1 m (by omega)
  refine JC.skip (JQ.then_normal (JC.seq (JC.block (JC.seq (JC.g (J.M rfl rfl ?_))))))
  refine J.o (ot_and (.t rfl) .is hand) rfl ?_
  refine J.o (ot_eql (.t rfl) .is) rfl (J.e ?_)
  refine JC.cond (.t rfl) (fun hc1 => ?_) (fun hc1 => ?_)
  ·try simp only [bsx] at hc1
   have hs17 := hc1
   refine JC.region ?_
   refine J.o (oa (.t rfl) (.tail _ (.head _)) ag28 (cTs_ldV (g := polT) (y := (powP p a)) (polT_eq (powP p a)).symm rfl)) rfl ?_
   refine J.o (oa (.t rfl) (.head _) ag28 (cTs_ldV (g := polT) (y := (powP p b)) (polT_eq (powP p b)).symm rfl)) rfl ?_
   refine J.o (oc fn75 (rmul_c 4 (powP p a) (powP p b) hpa.can.lev hpb.can.lev hpa.sz hpb.sz (Nat.le_refl _) ⟨by omega, by omega, by omega⟩ hpa.nr hpb.nr (by omega)) (.cons (.t rfl) (.cons (.t rfl) .nil))) rfl ?_
   refine J.store (.t rfl) (.eq (.t rfl) (tV_F (Ts := [tIs (.int .i64 ((mulF 4 (powP p a) (powP p b)).lv)), tIs (.bool (((mulF 4 (powP p a) (powP p b)).c).neg)), tSl encD (((mulF 4 (powP p a) (powP p b)).c).abs), tSl encP ((mulF 4 (powP p a) (powP p b)).cs)]) (polT_eq _))) (.there .here) sz28 (st_agg (Ts' := [tIs (.int .i64 ((mulF 4 (powP p a) (powP p b)).lv)), tIs (.bool (((mulF 4 (powP p a) (powP p b)).c).neg)), tSl encD (((mulF 4 (powP p a) (powP p b)).c).abs), tSl encP ((mulF 4 (powP p a) (powP p b)).cs)]) (o := 0) rfl) (J.e (JC.g (J.M rfl rfl ?_)))
   refine J.o (ot_gtr (.t rfl) .is) rfl (J.e ?_)
   refine JC.cond (.t rfl) (fun hc2 => ?_) (fun hc2 => ?_)
   ·try simp only [bsx] at hc2
    have hs22 := hc2
    refine JC.region ?_
    refine J.o (oa (.t rfl) (.head _) ag28 (cTs_ldV (g := polT) (y := (powP p b)) (polT_eq (powP p b)).symm rfl)) rfl ?_
    refine J.o (oa (.t rfl) (.head _) ag28 (cTs_ldV (g := polT) (y := (powP p b)) (polT_eq (powP p b)).symm rfl)) rfl ?_
    refine J.o (oc fn75 (rmul_c 4 (powP p b) (powP p b) hpb.can.lev hpb.can.lev hpb.sz hpb.sz (Nat.le_refl _) ⟨by omega, by omega, by omega⟩ hpb.nr hpb.nr (by omega)) (.cons (.t rfl) (.cons (.t rfl) .nil))) rfl ?_
    refine J.store (.t rfl) (.eq (.t rfl) (tV_F (Ts := [tIs (.int .i64 ((mulF 4 (powP p b) (powP p b)).lv)), tIs (.bool (((mulF 4 (powP p b) (powP p b)).c).neg)), tSl encD (((mulF 4 (powP p b) (powP p b)).c).abs), tSl encP ((mulF 4 (powP p b) (powP p b)).cs)]) (polT_eq _))) .here sz28 (st_agg (Ts' := [tIs (.int .i64 ((mulF 4 (powP p b) (powP p b)).lv)), tIs (.bool (((mulF 4 (powP p b) (powP p b)).c).neg)), tSl encD (((mulF 4 (powP p b) (powP p b)).c).abs), tSl encP ((mulF 4 (powP p b) (powP p b)).cs)]) (o := 0) rfl) (J.nil (JQ.block_normal (JQ.then_normal (JC.seq (JC.g ?_)))))
    refine J.o (oa (.t rfl) (.head _) ag28 (cTs_ldV (g := polT) (y := (mulF 4 (powP p b) (powP p b))) (polT_eq (mulF 4 (powP p b) (powP p b))).symm rfl)) rfl (J.e (JC.region ?_))
    refine J.alloc (R := cTs zP) zr28 (fun _ => ⟨rfl, rfl, rfl, rfl, slP_nil _ _, rfl, slP_nil _ _, rfl, trivial⟩) (ltN rfl) fun b6 => ?_
    refine J.store (.t rfl) (.eq (.t rfl) (tV_F (Ts := [tIs (.int .i64 ((mulF 4 (powP p b) (powP p b)).lv)), tIs (.bool (((mulF 4 (powP p b) (powP p b)).c).neg)), tSl encD (((mulF 4 (powP p b) (powP p b)).c).abs), tSl encP ((mulF 4 (powP p b) (powP p b)).cs)]) (polT_eq _))) .here sz28 (st_agg (Ts' := [tIs (.int .i64 ((mulF 4 (powP p b) (powP p b)).lv)), tIs (.bool (((mulF 4 (powP p b) (powP p b)).c).neg)), tSl encD (((mulF 4 (powP p b) (powP p b)).c).abs), tSl encP ((mulF 4 (powP p b) (powP p b)).cs)]) (o := 0) rfl) (J.e (JC.region (J.M rfl rfl ?_)))
    refine J.o (ot_shr (.t rfl) .is (by omega) hshr) rfl (J.A rfl rfl (J.nil ?_))
    exact JQ.round4 (i := a) (i2 := b) (i3 := m) (i4 := c) (a + b) (b + b) (m / 2) b6 ⟨pow_odd hab (by omega), by omega⟩ (by omega) (sub_trans (sub_heap (.keep (by rw [← powP_add hp.can]; exact fun _ _ h => h) (.drop (.keep (by rw [← powP_add hp.can]; exact fun _ _ h => h) (.k (.k .nil)))))) (sub_l ⟨.eq (.t rfl) (by first | rfl | (congr 3; omega) | (congr 2; omega)), .t rfl, .t rfl, .t rfl, trivial⟩))
   ·try simp only [bsx] at hc2
    have hs22 := hc2
    refine JC.skip (JQ.block_normal (JQ.then_normal (JC.seq (JC.g ?_))))
    refine J.o (oa (.t rfl) (.head _) ag28 (cTs_ldV (g := polT) (y := (powP p b)) (polT_eq (powP p b)).symm rfl)) rfl (J.e (JC.region ?_))
    refine J.alloc (R := cTs zP) zr28 (fun _ => ⟨rfl, rfl, rfl, rfl, slP_nil _ _, rfl, slP_nil _ _, rfl, trivial⟩) (ltN rfl) fun b6 => ?_
    refine J.store (.t rfl) (.eq (.t rfl) (tV_F (Ts := [tIs (.int .i64 ((powP p b).lv)), tIs (.bool (((powP p b).c).neg)), tSl encD (((powP p b).c).abs), tSl encP ((powP p b).cs)]) (polT_eq _))) .here sz28 (st_agg (Ts' := [tIs (.int .i64 ((powP p b).lv)), tIs (.bool (((powP p b).c).neg)), tSl encD (((powP p b).c).abs), tSl encP ((powP p b).cs)]) (o := 0) rfl) (J.e (JC.region (J.M rfl rfl ?_)))
    refine J.o (ot_shr (.t rfl) .is (by omega) hshr) rfl (J.A rfl rfl (J.nil ?_))
    exact JQ.round4 (i := a) (i2 := b) (i3 := m) (i4 := c) (a + b) b (m / 2) b6 ⟨pow_last hab (by omega), by omega⟩ (by omega) (sub_trans (sub_heap (.k (.drop (.keep (by rw [← powP_add hp.can]; exact fun _ _ h => h) (.k (.k .nil)))))) (sub_l ⟨.eq (.t rfl) (by first | rfl | (congr 3; omega) | (congr 2; omega)), .t rfl, .t rfl, .t rfl, trivial⟩))
  ·try simp only [bsx] at hc1
   have hs17 := hc1
   refine JC.skip (JQ.then_normal (JC.g (J.M rfl rfl ?_)))
   refine J.o (ot_gtr (.t rfl) .is) rfl (J.e ?_)
   refine JC.cond (.t rfl) (fun hc3 => ?_) (fun hc3 => ?_)
   ·try simp only [bsx] at hc3
    have hs22 := hc3
    refine JC.region ?_
    refine J.o (oa (.t rfl) (.head _) ag28 (cTs_ldV (g := polT) (y := (powP p b)) (polT_eq (powP p b)).symm rfl)) rfl ?_
    refine J.o (oa (.t rfl) (.head _) ag28 (cTs_ldV (g := polT) (y := (powP p b)) (polT_eq (powP p b)).symm rfl)) rfl ?_
    refine J.o (oc fn75 (rmul_c 4 (powP p b) (powP p b) hpb.can.lev hpb.can.lev hpb.sz hpb.sz (Nat.le_refl _) ⟨by omega, by omega, by omega⟩ hpb.nr hpb.nr (by omega)) (.cons (.t rfl) (.cons (.t rfl) .nil))) rfl ?_
    refine J.store (.t rfl) (.eq (.t rfl) (tV_F (Ts := [tIs (.int .i64 ((mulF 4 (powP p b) (powP p b)).lv)), tIs (.bool (((mulF 4 (powP p b) (powP p b)).c).neg)), tSl encD (((mulF 4 (powP p b) (powP p b)).c).abs), tSl encP ((mulF 4 (powP p b) (powP p b)).cs)]) (polT_eq _))) .here sz28 (st_agg (Ts' := [tIs (.int .i64 ((mulF 4 (powP p b) (powP p b)).lv)), tIs (.bool (((mulF 4 (powP p b) (powP p b)).c).neg)), tSl encD (((mulF 4 (powP p b) (powP p b)).c).abs), tSl encP ((mulF 4 (powP p b) (powP p b)).cs)]) (o := 0) rfl) (J.nil (JQ.block_normal (JQ.then_normal (JC.seq (JC.g ?_)))))
    refine J.o (oa (.t rfl) (.head _) ag28 (cTs_ldV (g := polT) (y := (mulF 4 (powP p b) (powP p b))) (polT_eq (mulF 4 (powP p b) (powP p b))).symm rfl)) rfl (J.e (JC.region ?_))
    refine J.alloc (R := cTs zP) zr28 (fun _ => ⟨rfl, rfl, rfl, rfl, slP_nil _ _, rfl, slP_nil _ _, rfl, trivial⟩) (ltN rfl) fun b6 => ?_
    refine J.store (.t rfl) (.eq (.t rfl) (tV_F (Ts := [tIs (.int .i64 ((mulF 4 (powP p b) (powP p b)).lv)), tIs (.bool (((mulF 4 (powP p b) (powP p b)).c).neg)), tSl encD (((mulF 4 (powP p b) (powP p b)).c).abs), tSl encP ((mulF 4 (powP p b) (powP p b)).cs)]) (polT_eq _))) .here sz28 (st_agg (Ts' := [tIs (.int .i64 ((mulF 4 (powP p b) (powP p b)).lv)), tIs (.bool (((mulF 4 (powP p b) (powP p b)).c).neg)), tSl encD (((mulF 4 (powP p b) (powP p b)).c).abs), tSl encP ((mulF 4 (powP p b) (powP p b)).cs)]) (o := 0) rfl) (J.e (JC.region (J.M rfl rfl ?_)))
    refine J.o (ot_shr (.t rfl) .is (by omega) hshr) rfl (J.A rfl rfl (J.nil ?_))
    exact JQ.round4 (i := a) (i2 := b) (i3 := m) (i4 := c) a (b + b) (m / 2) b6 ⟨pow_even hab (by omega), by omega⟩ (by omega) (sub_trans (sub_heap (.keep (by rw [← powP_add hp.can]; exact fun _ _ h => h) (.drop (.k (.k (.k .nil)))))) (sub_l ⟨.eq (.t rfl) (by first | rfl | (congr 3; omega) | (congr 2; omega)), .t rfl, .t rfl, .t rfl, trivial⟩))
   ·try simp only [bsx] at hc3
    have hs22 := hc3
    refine JC.skip (JQ.block_normal (JQ.then_normal (JC.seq (JC.g ?_))))
    refine J.o (oa (.t rfl) (.head _) ag28 (cTs_ldV (g := polT) (y := (powP p b)) (polT_eq (powP p b)).symm rfl)) rfl (J.e (JC.region ?_))
    refine J.alloc (R := cTs zP) zr28 (fun _ => ⟨rfl, rfl, rfl, rfl, slP_nil _ _, rfl, slP_nil _ _, rfl, trivial⟩) (ltN rfl) fun b6 => ?_
    refine J.store (.t rfl) (.eq (.t rfl) (tV_F (Ts := [tIs (.int .i64 ((powP p b).lv)), tIs (.bool (((powP p b).c).neg)), tSl encD (((powP p b).c).abs), tSl encP ((powP p b).cs)]) (polT_eq _))) .here sz28 (st_agg (Ts' := [tIs (.int .i64 ((powP p b).lv)), tIs (.bool (((powP p b).c).neg)), tSl encD (((powP p b).c).abs), tSl encP ((powP p b).cs)]) (o := 0) rfl) (J.e (JC.region (J.M rfl rfl ?_)))
    refine J.o (ot_shr (.t rfl) .is (by omega) hshr) rfl (J.A rfl rfl (J.nil ?_))
    exact JQ.round4 (i := a) (i2 := b) (i3 := m) (i4 := c) a b (m / 2) b6 ⟨by omega, by omega⟩ (by omega) (sub_trans (sub_heap (.k (.drop (.k (.k (.k .nil)))))) (sub_l ⟨.eq (.t rfl) (by first | rfl | (congr 3; omega) | (congr 2; omega)), .t rfl, .t rfl, .t rfl, trivial⟩))
 ·try simp only [bsx] at hc0
  have hs12 := hc0
  have ha : a = N := by rw [show m = 0 by omega] at hab; omega
  refine JC.exit (JQ.then_exit (JQ.then_exit (JQ.block_exit (JQ.then_normal (JC.g ?_)))))
  refine J.o (oa (.t rfl) (.tail _ (.head _)) ag28 (cTs_ldV (g := polT) (y := (powP p a)) (polT_eq (powP p a)).symm rfl)) rfl ?_
  refine J.store (.t rfl) (.eq (.t rfl) (tV_F (Ts := [tIs (.int .i64 ((powP p a).lv)), tIs (.bool (((powP p a).c).neg)), tSl encD (((powP p a).c).abs), tSl encP ((powP p a).cs)]) (polT_eq _))) (.there (.there .here)) sz28 (st_agg (Ts' := [tIs (.int .i64 ((powP p a).lv)), tIs (.bool (((powP p a).c).neg)), tSl encD (((powP p a).c).abs), tSl encP ((powP p a).cs)]) (o := 0) rfl) (J.e (JC.ret ?_))
  exact JQ.ret1 rfl (.agg (.t rfl) (.tail _ (.tail _ (.head _))) ag28 (agg_eq (T := tV encP (powP p a)) (T' := tV encP (powP p N)) (by rw [ha]) (cTs_ldV (g := polT) (y := (powP p a)) (polT_eq (powP p a)).symm rfl)))

end Go.Proofs.Ytcbnpddeiaccbaa
