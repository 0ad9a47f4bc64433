/- Code of one's own that nobody writes. -/
import Derived.Test.YtbnegbjaoiplmaaFj
set_option linter.unusedVariables false
set_option linter.unusedSimpArgs false
namespace Go.Proofs.Ytbnegbjaoiplmaa
open Go Go.Am

set_option maxRecDepth 100000 in
theorem f9 (c : Code) (fc : c.Fits) (σ : H) : Am.Spec Try.prog 9 [eCode c] σ (fun o s => s = σ ∧ o = .ret (eCode c)) := by
  have l1 := fc.funs
  have l2 := fc.stops
  refine Spec.clo fun hclo => Spec.weak ?_
  refine Am.Spec.introS mixed pl9 Try.func9 rfl (by kernel_rfl) 67 rfl [.cell 2 25] rfl (by simp) ?_
  simp (maxSteps := 10000000) only [bs, HeldL, aPick, aNil, Fr.eval, Fr.get, ofVal, Am.look, slotOf, aGuardS, ne_eq, reduceCtorEq, if_true, if_false, ite_true, ite_false, reduceIte, exists_eq_left', exists_eq_left, exists_eq', Nat.reduceEqDiff, Nat.reduceLT, Nat.reduceAdd, Nat.reduceLeDiff, Nat.reduceMul, Nat.reduceSub, eq_self_iff_true, forall_const, implies_true, splice, HeldO, imp_self, planOf, pl9, Al25, Am25, Fap25_2, Faq25_2, R3, Bu25, St25, Fap25_1, Faq25_1, R23, Lps23, Lsl23, Lsn23, Lw23, Ips23, Isl23, Iw23, R50, Bs50, Ap50_50, Bs23, Ap23_23, St23, Fap25_0, Faq25_0, R22, Lps22, Lsl22, Lsn22, Lw22, Ips22, Isl22, Iw22, R33, Al33, Am33, St33, Fap33_3, Faq33_3, R31, Lps31, Lsl31, Lsn31, Lw31, Ips31, Isl31, Iw31, R37, Al37, Am37, St37, Fap37_0, Faq37_0, R35, CB27, Fap37_1, Faq37_1, St35, Bs31, Ap31_31, St31, Bs22, Ap22_22, St22, R25, eCode]
  refine W_loopC (St := Nat) (fun i => ⟨67, [(1, .ptr σ.length 0), (2, .ptr (σ.length + 1) 0), (3, .ptr (σ.length + 2) 0), (15, .ps 1 (c.stops.map eStop)), (16, .int .i64 c.stops.length), (17, .int .i64 i)]⟩) (fun i => Stk σ [some (.row (rCode c)), some (.row [.snil, .snil, .int .i64 0]), some (.row [.snil, aV (σ.length + 3) i 1, .int .i64 c.main]), aN i (flat ((c.stops.take i).map eStop))]) (fun n i => i + n = c.stops.length) c.stops.length 0 (by omega) ?_ ?_
  · refine Weak.stk rfl hclo [some 0, some 1, some 2, none] rfl ?_ ?_ <;> simp (maxSteps := 10000000) only [cb, Am.look, reduceCtorEq, reduceIte, Nat.reduceEqDiff, Nat.reduceAdd, if_true, if_false, rCode]
  intro n i hn
  have hil : (c.stops.take i).length = i := by simp; omega
  have hrow := enc_stop.len (c.stops.take i)
  by_cases hlt : i < c.stops.length
  · obtain ⟨x, hx⟩ := at_of_lt hlt
    have hbx : x.length ≤ big := fc.allS x (List.mem_of_getElem? hx)
    simp (maxSteps := 10000000) only [bs, HeldL, aPick, aNil, Fr.eval, Fr.get, ofVal, Am.look, slotOf, aGuardS, ne_eq, reduceCtorEq, if_true, if_false, ite_true, ite_false, reduceIte, exists_eq_left', exists_eq_left, exists_eq', Nat.reduceEqDiff, Nat.reduceLT, Nat.reduceAdd, Nat.reduceLeDiff, Nat.reduceMul, Nat.reduceSub, eq_self_iff_true, forall_const, implies_true, splice, HeldO, imp_self, planOf, pl9, Al25, Am25, Fap25_2, Faq25_2, R3, Bu25, St25, Fap25_1, Faq25_1, R23, Lps23, Lsl23, Lsn23, Lw23, Ips23, Isl23, Iw23, R50, Bs50, Ap50_50, Bs23, Ap23_23, St23, Fap25_0, Faq25_0, R22, Lps22, Lsl22, Lsn22, Lw22, Ips22, Isl22, Iw22, R33, Al33, Am33, St33, Fap33_3, Faq33_3, R31, Lps31, Lsl31, Lsn31, Lw31, Ips31, Isl31, Iw31, R37, Al37, Am37, St37, Fap37_0, Faq37_0, R35, CB27, Fap37_1, Faq37_1, St35, Bs31, Ap31_31, St31, Bs22, Ap22_22, St22, R25, hlt, hx, eStop, enc_spot.ones, wrap_succ (show i ≤ big by omega)]
    refine ⟨by simp only [big] at *; omega, by simp only [big] at *; omega, by simp only [big] at *; omega, by simp only [big] at *; omega, by rw [hrow, hil]; omega, RndC.mk (n - 1) (i + 1) (by omega) (by omega) ?_⟩
    refine Weak.stk rfl hclo [some 0, some 1, some 2, some 7] rfl ?_ ?_ <;> simp (maxSteps := 10000000) only [cb, Am.look, reduceCtorEq, reduceIte, Nat.reduceEqDiff, Nat.reduceAdd, if_true, if_false, rCode]
    rw [take_succ_of hx]
    refine RowCn.snoc enc_stop hil.symm rfl ?_
    simp (maxSteps := 10000000) only [cb, Am.look, reduceCtorEq, reduceIte, Nat.reduceEqDiff, Nat.reduceAdd, if_true, if_false]
    exact Cn.fz enc_spot rfl (by simp (maxSteps := 10000000) only [cb, Am.look, reduceCtorEq, reduceIte, Nat.reduceEqDiff, Nat.reduceAdd, if_true, if_false]; rfl) (rowAt_stk rfl)
  simp (maxSteps := 10000000) only [bs, HeldL, aPick, aNil, Fr.eval, Fr.get, ofVal, Am.look, slotOf, aGuardS, ne_eq, reduceCtorEq, if_true, if_false, ite_true, ite_false, reduceIte, exists_eq_left', exists_eq_left, exists_eq', Nat.reduceEqDiff, Nat.reduceLT, Nat.reduceAdd, Nat.reduceLeDiff, Nat.reduceMul, Nat.reduceSub, eq_self_iff_true, forall_const, implies_true, splice, HeldO, imp_self, planOf, pl9, Al25, Am25, Fap25_2, Faq25_2, R3, Bu25, St25, Fap25_1, Faq25_1, R23, Lps23, Lsl23, Lsn23, Lw23, Ips23, Isl23, Iw23, R50, Bs50, Ap50_50, Bs23, Ap23_23, St23, Fap25_0, Faq25_0, R22, Lps22, Lsl22, Lsn22, Lw22, Ips22, Isl22, Iw22, R33, Al33, Am33, St33, Fap33_3, Faq33_3, R31, Lps31, Lsl31, Lsn31, Lw31, Ips31, Isl31, Iw31, R37, Al37, Am37, St37, Fap37_0, Faq37_0, R35, CB27, Fap37_1, Faq37_1, St35, Bs31, Ap31_31, St31, Bs22, Ap22_22, St22, R25, hlt, rCode]
  obtain rfl : i = c.stops.length := by omega
  rw [List.take_length]
  refine W_loopC (St := Nat) (fun i => ⟨67, [(2, .ptr σ.length 0), (3, .ptr (σ.length + 1) 0), (31, .ps 4 (c.funs.map eFun)), (32, .int .i64 c.funs.length), (33, .int .i64 i)]⟩) (fun i => Stk σ [some (.row [.snil, .snil, .int .i64 0]), some (.row [aV (σ.length + 2) i 4, .ps 1 (c.stops.map eStop), .int .i64 c.main]), aN i (flat ((c.funs.take i).map eFun))]) (fun n i => i + n = c.funs.length) c.funs.length 0 (by omega) ?_ ?_
  · refine Weak.stk rfl hclo [some 1, some 2, none] rfl ?_ ?_ <;> simp (maxSteps := 10000000) only [cb, Am.look, reduceCtorEq, reduceIte, Nat.reduceEqDiff, Nat.reduceAdd, if_true, if_false]
    exact Cn.fzV enc_stop rfl (by simp (maxSteps := 10000000) only [cb, Am.look, reduceCtorEq, reduceIte, Nat.reduceEqDiff, Nat.reduceAdd, if_true, if_false]; rfl) (get_stk rfl)
  clear hn hlt hil hrow
  clear n
  intro n i hn
  have hil : (c.funs.take i).length = i := by simp; omega
  have hrow := enc_fun.len (c.funs.take i)
  by_cases hlt : i < c.funs.length
  · obtain ⟨x, hx⟩ := at_of_lt hlt
    have fx := fc.allF x (List.mem_of_getElem? hx)
    have hbx := fx.blocks
    simp (maxSteps := 10000000) only [bs, HeldL, aPick, aNil, Fr.eval, Fr.get, ofVal, Am.look, slotOf, aGuardS, ne_eq, reduceCtorEq, if_true, if_false, ite_true, ite_false, reduceIte, exists_eq_left', exists_eq_left, exists_eq', Nat.reduceEqDiff, Nat.reduceLT, Nat.reduceAdd, Nat.reduceLeDiff, Nat.reduceMul, Nat.reduceSub, eq_self_iff_true, forall_const, implies_true, splice, HeldO, imp_self, planOf, pl9, Al25, Am25, Fap25_2, Faq25_2, R3, Bu25, St25, Fap25_1, Faq25_1, R23, Lps23, Lsl23, Lsn23, Lw23, Ips23, Isl23, Iw23, R50, Bs50, Ap50_50, Bs23, Ap23_23, St23, Fap25_0, Faq25_0, R22, Lps22, Lsl22, Lsn22, Lw22, Ips22, Isl22, Iw22, R33, Al33, Am33, St33, Fap33_3, Faq33_3, R31, Lps31, Lsl31, Lsn31, Lw31, Ips31, Isl31, Iw31, R37, Al37, Am37, St37, Fap37_0, Faq37_0, R35, CB27, Fap37_1, Faq37_1, St35, Bs31, Ap31_31, St31, Bs22, Ap22_22, St22, R25, hlt, hx, eFun]
    refine W_loopC (St := Nat) (fun k => ⟨67, [(2, .ptr σ.length 0), (3, .ptr (σ.length + 1) 0), (7, .ptr (σ.length + 3) 0), (8, aV (σ.length + 4) k 6), (31, .ps 4 (c.funs.map eFun)), (32, .int .i64 c.funs.length), (33, .int .i64 i), (38, .ps 6 (x.blocks.map eBlock)), (39, .int .i64 x.blocks.length), (40, .int .i64 k)]⟩) (fun k => Stk σ [some (.row [.snil, .snil, .int .i64 0]), some (.row [aV (σ.length + 2) i 4, .ps 1 (c.stops.map eStop), .int .i64 c.main]), aN i (flat ((c.funs.take i).map eFun)), some (.row [.int .i64 x.params, .int .i64 x.vars, .int .i64 x.vals, .ps 6 (x.blocks.map eBlock)]), aN k (flat ((x.blocks.take k).map eBlock))]) (fun n k => k + n = x.blocks.length) x.blocks.length 0 (by omega) ?_ ?_
    · refine Weak.stk rfl hclo [some 0, some 1, some 2, some 3, none] rfl ?_ ?_ <;> simp (maxSteps := 10000000) only [cb, Am.look, reduceCtorEq, reduceIte, Nat.reduceEqDiff, Nat.reduceAdd, if_true, if_false, enc_fun.pureL]
    intro n2 k hn2
    have hkl : (x.blocks.take k).length = k := by simp; omega
    have hrowB := enc_block.len (x.blocks.take k)
    by_cases hlk : k < x.blocks.length
    · obtain ⟨y, hy⟩ := at_of_lt hlk
      have fy := fx.all y (List.mem_of_getElem? hy)
      simp (maxSteps := 10000000) only [bs, HeldL, aPick, aNil, Fr.eval, Fr.get, ofVal, Am.look, slotOf, aGuardS, ne_eq, reduceCtorEq, if_true, if_false, ite_true, ite_false, reduceIte, exists_eq_left', exists_eq_left, exists_eq', Nat.reduceEqDiff, Nat.reduceLT, Nat.reduceAdd, Nat.reduceLeDiff, Nat.reduceMul, Nat.reduceSub, eq_self_iff_true, forall_const, implies_true, splice, HeldO, imp_self, planOf, pl9, Al25, Am25, Fap25_2, Faq25_2, R3, Bu25, St25, Fap25_1, Faq25_1, R23, Lps23, Lsl23, Lsn23, Lw23, Ips23, Isl23, Iw23, R50, Bs50, Ap50_50, Bs23, Ap23_23, St23, Fap25_0, Faq25_0, R22, Lps22, Lsl22, Lsn22, Lw22, Ips22, Isl22, Iw22, R33, Al33, Am33, St33, Fap33_3, Faq33_3, R31, Lps31, Lsl31, Lsn31, Lw31, Ips31, Isl31, Iw31, R37, Al37, Am37, St37, Fap37_0, Faq37_0, R35, CB27, Fap37_1, Faq37_1, St35, Bs31, Ap31_31, St31, Bs22, Ap22_22, St22, R25, hlk, hy, eBlock, eInsts]
      refine L_of (f27 y.phis fy.phis fy.allP _) ?_
      simp (maxSteps := 10000000) only [bs, HeldL, aPick, aNil, Fr.eval, Fr.get, ofVal, Am.look, slotOf, aGuardS, ne_eq, reduceCtorEq, if_true, if_false, ite_true, ite_false, reduceIte, exists_eq_left', exists_eq_left, exists_eq', Nat.reduceEqDiff, Nat.reduceLT, Nat.reduceAdd, Nat.reduceLeDiff, Nat.reduceMul, Nat.reduceSub, eq_self_iff_true, forall_const, implies_true, splice, HeldO, imp_self, planOf, pl9, Al25, Am25, Fap25_2, Faq25_2, R3, Bu25, St25, Fap25_1, Faq25_1, R23, Lps23, Lsl23, Lsn23, Lw23, Ips23, Isl23, Iw23, R50, Bs50, Ap50_50, Bs23, Ap23_23, St23, Fap25_0, Faq25_0, R22, Lps22, Lsl22, Lsn22, Lw22, Ips22, Isl22, Iw22, R33, Al33, Am33, St33, Fap33_3, Faq33_3, R31, Lps31, Lsl31, Lsn31, Lw31, Ips31, Isl31, Iw31, R37, Al37, Am37, St37, Fap37_0, Faq37_0, R35, CB27, Fap37_1, Faq37_1, St35, Bs31, Ap31_31, St31, Bs22, Ap22_22, St22, R25, hlk, hy, eBlock, eInsts, SpK_ps]
      refine L_of (f27 y.insts fy.insts fy.allI _) ?_
      simp (maxSteps := 10000000) only [bs, HeldL, aPick, aNil, Fr.eval, Fr.get, ofVal, Am.look, slotOf, aGuardS, ne_eq, reduceCtorEq, if_true, if_false, ite_true, ite_false, reduceIte, exists_eq_left', exists_eq_left, exists_eq', Nat.reduceEqDiff, Nat.reduceLT, Nat.reduceAdd, Nat.reduceLeDiff, Nat.reduceMul, Nat.reduceSub, eq_self_iff_true, forall_const, implies_true, splice, HeldO, imp_self, planOf, pl9, Al25, Am25, Fap25_2, Faq25_2, R3, Bu25, St25, Fap25_1, Faq25_1, R23, Lps23, Lsl23, Lsn23, Lw23, Ips23, Isl23, Iw23, R50, Bs50, Ap50_50, Bs23, Ap23_23, St23, Fap25_0, Faq25_0, R22, Lps22, Lsl22, Lsn22, Lw22, Ips22, Isl22, Iw22, R33, Al33, Am33, St33, Fap33_3, Faq33_3, R31, Lps31, Lsl31, Lsn31, Lw31, Ips31, Isl31, Iw31, R37, Al37, Am37, St37, Fap37_0, Faq37_0, R35, CB27, Fap37_1, Faq37_1, St35, Bs31, Ap31_31, St31, Bs22, Ap22_22, St22, R25, hlk, hy, eBlock, eInsts, SpK_ps, wrap_succ (show k ≤ big by omega)]
      refine ⟨by simp only [big] at *; omega, by simp only [big] at *; omega, by rw [hrowB, hkl]; omega, RndC.mk (n2 - 1) (k + 1) (by omega) (by omega) ?_⟩
      refine Weak.stk rfl hclo [some 0, some 1, some 2, some 3, some 7] rfl ?_ ?_ <;> simp (maxSteps := 10000000) only [cb, Am.look, reduceCtorEq, reduceIte, Nat.reduceEqDiff, Nat.reduceAdd, if_true, if_false, enc_fun.pureL]
      rw [take_succ_of hy]
      refine RowCn.snoc enc_block hkl.symm rfl ?_
      simp (maxSteps := 10000000) only [cb, Am.look, reduceCtorEq, reduceIte, Nat.reduceEqDiff, Nat.reduceAdd, if_true, if_false, eInsts]
    · simp (maxSteps := 10000000) only [bs, HeldL, aPick, aNil, Fr.eval, Fr.get, ofVal, Am.look, slotOf, aGuardS, ne_eq, reduceCtorEq, if_true, if_false, ite_true, ite_false, reduceIte, exists_eq_left', exists_eq_left, exists_eq', Nat.reduceEqDiff, Nat.reduceLT, Nat.reduceAdd, Nat.reduceLeDiff, Nat.reduceMul, Nat.reduceSub, eq_self_iff_true, forall_const, implies_true, splice, HeldO, imp_self, planOf, pl9, Al25, Am25, Fap25_2, Faq25_2, R3, Bu25, St25, Fap25_1, Faq25_1, R23, Lps23, Lsl23, Lsn23, Lw23, Ips23, Isl23, Iw23, R50, Bs50, Ap50_50, Bs23, Ap23_23, St23, Fap25_0, Faq25_0, R22, Lps22, Lsl22, Lsn22, Lw22, Ips22, Isl22, Iw22, R33, Al33, Am33, St33, Fap33_3, Faq33_3, R31, Lps31, Lsl31, Lsn31, Lw31, Ips31, Isl31, Iw31, R37, Al37, Am37, St37, Fap37_0, Faq37_0, R35, CB27, Fap37_1, Faq37_1, St35, Bs31, Ap31_31, St31, Bs22, Ap22_22, St22, R25, hlk, wrap_succ (show i ≤ big by omega)]
      obtain rfl : k = x.blocks.length := by omega
      rw [List.take_length]
      refine ⟨by simp only [big] at *; omega, by simp only [big] at *; omega, by rw [hrow, hil]; omega, RndC.mk (n - 1) (i + 1) (by omega) (by omega) ?_⟩
      refine Weak.stk rfl hclo [some 0, some 1, some 6] rfl ?_ ?_ <;> simp (maxSteps := 10000000) only [cb, Am.look, reduceCtorEq, reduceIte, Nat.reduceEqDiff, Nat.reduceAdd, if_true, if_false]
      rw [take_succ_of hx]
      refine RowCn.snoc enc_fun hil.symm rfl ?_
      simp (maxSteps := 10000000) only [cb, Am.look, reduceCtorEq, reduceIte, Nat.reduceEqDiff, Nat.reduceAdd, if_true, if_false]
      exact Cn.fzV enc_block rfl (by simp (maxSteps := 10000000) only [cb, Am.look, reduceCtorEq, reduceIte, Nat.reduceEqDiff, Nat.reduceAdd, if_true, if_false]; rfl) (get_stk rfl)
  · simp (maxSteps := 10000000) only [bs, HeldL, aPick, aNil, Fr.eval, Fr.get, ofVal, Am.look, slotOf, aGuardS, ne_eq, reduceCtorEq, if_true, if_false, ite_true, ite_false, reduceIte, exists_eq_left', exists_eq_left, exists_eq', Nat.reduceEqDiff, Nat.reduceLT, Nat.reduceAdd, Nat.reduceLeDiff, Nat.reduceMul, Nat.reduceSub, eq_self_iff_true, forall_const, implies_true, splice, HeldO, imp_self, planOf, pl9, Al25, Am25, Fap25_2, Faq25_2, R3, Bu25, St25, Fap25_1, Faq25_1, R23, Lps23, Lsl23, Lsn23, Lw23, Ips23, Isl23, Iw23, R50, Bs50, Ap50_50, Bs23, Ap23_23, St23, Fap25_0, Faq25_0, R22, Lps22, Lsl22, Lsn22, Lw22, Ips22, Isl22, Iw22, R33, Al33, Am33, St33, Fap33_3, Faq33_3, R31, Lps31, Lsl31, Lsn31, Lw31, Ips31, Isl31, Iw31, R37, Al37, Am37, St37, Fap37_0, Faq37_0, R35, CB27, Fap37_1, Faq37_1, St35, Bs31, Ap31_31, St31, Bs22, Ap22_22, St22, R25, hlt]
    obtain rfl : i = c.funs.length := by omega
    rw [List.take_length]
    refine SetQ.done rfl hclo (v' := eCode c) (Cn.aggL ?_) ⟨rfl, rfl⟩
    exact ⟨Cn.fzV enc_fun rfl (by simp (maxSteps := 10000000) only [cb, Am.look, reduceCtorEq, reduceIte, Nat.reduceEqDiff, Nat.reduceAdd, if_true, if_false]; rfl) (get_stk rfl), Cn.same rfl, Cn.same rfl, trivial⟩
end Go.Proofs.Ytbnegbjaoiplmaa
