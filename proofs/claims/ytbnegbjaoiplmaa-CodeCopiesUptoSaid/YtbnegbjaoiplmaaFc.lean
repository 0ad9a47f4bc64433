/- Are two codes the same? -/
import Derived.Test.YtbnegbjaoiplmaaFb
set_option linter.unusedVariables false
set_option linter.unusedSimpArgs false
namespace Go.Proofs.Ytbnegbjaoiplmaa
open Go Go.Am

structure Inst.Fits (i : Inst) : Prop where
  args : i.args.length ≤ big
  dbg : i.dbg.length ≤ big

set_option maxRecDepth 100000 in
theorem f35 (a b : List Inst) (ha : a.length ≤ big) (hf : ∀ x, x ∈ a → x.Fits) (σ : H) : Am.Spec Try.prog 35 [eInsts a, eInsts b] σ (fun o s => s = σ ∧ o = .ret (.bool (decide (a = b)))) := by
  refine Spec.plain1 rfl ?_
  refine Am.Spec.introS mixed pl35 Try.func35 rfl (by kernel_rfl) 89 rfl [.tmp 4] rfl (by simp) ?_
  simp (maxSteps := 10000000) only [bs, HeldL, aPick, aNil, Fr.eval, Fr.get, ofVal, Am.look, slotOf, aGuardS, ne_eq, reduceCtorEq, if_true, if_false, ite_true, ite_false, reduceIte, exists_eq_left', exists_eq_left, exists_eq', Nat.reduceEqDiff, Nat.reduceLT, Nat.reduceAdd, Nat.reduceLeDiff, Nat.reduceMul, Nat.reduceSub, eq_self_iff_true, forall_const, implies_true, splice, HeldO, imp_self, planOf, pl35, Lps35, Lsl35, Lsn35, Lw35, Ips35, Isl35, Iw35, R41, Al41, Am41, St41, Fap41_0, Faq41_0, R5, Fap41_1, Faq41_1, R3, Fap41_3, Faq41_3, R2, Fap41_4, Faq41_4, Fap41_2, Faq41_2, R38, CB36, Fap41_5, Faq41_5, R39, Lps39, Lsl39, Lsn39, Lw39, Ips39, Isl39, Iw39, R55, eInsts]
  refine ⟨fun h => ?_, fun h => ?_⟩
  · have hne : a ≠ b := fun e => h (by rw [e])
    simp only [Stk_nil, Old.refl]
    simp [hne]
  have hlen : a.length = b.length := Int.ofNat.inj h
  refine W_loop (fun n f s => Old σ s ∧ f.n = 89 ∧ ∃ i : Nat, f.get 16 = .int .i64 i ∧ f.get 15 = .int .i64 a.length ∧ f.get 0 = eInsts a ∧ f.get 1 = eInsts b ∧ i + n = a.length ∧ a.take i = b.take i) a.length ?_ ?_
  · exact ⟨by rw [Stk_nil]; exact Old.refl σ, rfl, 0, rfl, rfl, rfl, rfl, by omega, rfl⟩
  rintro n ⟨k, m⟩ s ⟨hold, hk, i, h16, h15, h0, h1, hn, ht⟩
  simp only [Fr.get] at hk h16 h15 h0 h1
  subst hk
  refine W_stk ?_
  by_cases hlt : i < a.length
  · obtain ⟨x, hx⟩ := at_of_lt hlt
    obtain ⟨y, hy⟩ := at_of_lt (l := b) (hlen ▸ hlt)
    have hneq : x ≠ y → false = decide (a = b) := fun hne => by
      have : a ≠ b := fun e => hne (by rw [e, hy] at hx; exact (Option.some.inj hx).symm)
      simp [this]
    have fx := hf x (List.mem_of_getElem? hx)
    simp (maxSteps := 10000000) only [bs, HeldL, aPick, aNil, Fr.eval, Fr.get, ofVal, Am.look, slotOf, aGuardS, ne_eq, reduceCtorEq, if_true, if_false, ite_true, ite_false, reduceIte, exists_eq_left', exists_eq_left, exists_eq', Nat.reduceEqDiff, Nat.reduceLT, Nat.reduceAdd, Nat.reduceLeDiff, Nat.reduceMul, Nat.reduceSub, eq_self_iff_true, forall_const, implies_true, splice, HeldO, imp_self, planOf, pl35, Lps35, Lsl35, Lsn35, Lw35, Ips35, Isl35, Iw35, R41, Al41, Am41, St41, Fap41_0, Faq41_0, R5, Fap41_1, Faq41_1, R3, Fap41_3, Faq41_3, R2, Fap41_4, Faq41_4, Fap41_2, Faq41_2, R38, CB36, Fap41_5, Faq41_5, R39, Lps39, Lsl39, Lsn39, Lw39, Ips39, Isl39, Iw39, R55, h16, h15, h0, h1, hlt, hx, hy, eInsts, eInst, ints, Old.stk hold]
    refine ⟨fun hc => hneq (fun e => hc (by rw [e])), fun e1 => ⟨fun hc => hneq (fun e => hc (by rw [e])), fun e2 => ⟨fun hc => hneq (fun e => hc (by rw [e])), fun e3 => ⟨fun hc => hneq (fun e => hc (by rw [e])), fun e4 => ?_⟩⟩⟩⟩
    refine L_of (f36 x.args y.args fx.args _) ?_
    simp (maxSteps := 10000000) only [bs, HeldL, aPick, aNil, Fr.eval, Fr.get, ofVal, Am.look, slotOf, aGuardS, ne_eq, reduceCtorEq, if_true, if_false, ite_true, ite_false, reduceIte, exists_eq_left', exists_eq_left, exists_eq', Nat.reduceEqDiff, Nat.reduceLT, Nat.reduceAdd, Nat.reduceLeDiff, Nat.reduceMul, Nat.reduceSub, eq_self_iff_true, forall_const, implies_true, splice, HeldO, imp_self, planOf, pl35, Lps35, Lsl35, Lsn35, Lw35, Ips35, Isl35, Iw35, R41, Al41, Am41, St41, Fap41_0, Faq41_0, R5, Fap41_1, Faq41_1, R3, Fap41_3, Faq41_3, R2, Fap41_4, Faq41_4, Fap41_2, Faq41_2, R38, CB36, Fap41_5, Faq41_5, R39, Lps39, Lsl39, Lsn39, Lw39, Ips39, Isl39, Iw39, R55, h16, h15, h0, h1, hlt, hx, hy, Old.stk hold]
    refine ⟨fun e5 => ⟨fun hc => hneq (fun e => hc (by rw [e])), fun e6 => ?_⟩, fun hc => hneq (fun e => hc (by rw [e]))⟩
    have hlen2 : x.dbg.length = y.dbg.length := Int.ofNat.inj e6
    refine W_loop (fun n2 f s2 => s2 = Stk s [some (.row [.int .u8 x.op, .int .i64 x.dst, .ps 1 (x.args.map (.int .i64)), .int .i64 x.imm, .int .i64 x.site, .ps 6 (x.dbg.map eDbg)]), some (.row [.int .u8 y.op, .int .i64 y.dst, .ps 1 (y.args.map (.int .i64)), .int .i64 y.imm, .int .i64 y.site, .ps 6 (y.dbg.map eDbg)])] ∧ f.n = 89 ∧ ∃ j : Nat, f.get 73 = .int .i64 j ∧ f.get 72 = .int .i64 x.dbg.length ∧ f.get 71 = .ps 6 (x.dbg.map eDbg) ∧ f.get 6 = .ptr s.length 0 ∧ f.get 7 = .ptr (s.length + 1) 0 ∧ f.get 16 = .int .i64 i ∧ f.get 15 = .int .i64 a.length ∧ f.get 0 = eInsts a ∧ f.get 1 = eInsts b ∧ j + n2 = x.dbg.length ∧ x.dbg.take j = y.dbg.take j) x.dbg.length ?_ ?_
    · refine ⟨rfl, rfl, 0, ?_⟩
      simp [Fr.get, Am.look, h16, h15, h0, h1]
    rintro n2 ⟨k2, m2⟩ s2 ⟨rfl, hk2, j, g73, g72, g71, g6, g7, g16, g15, g0, g1, gn, gt⟩
    simp only [Fr.get] at hk2 g73 g72 g71 g6 g7 g16 g15 g0 g1
    subst hk2
    by_cases hj : j < x.dbg.length
    · obtain ⟨p, hp⟩ := at_of_lt hj
      obtain ⟨q, hq⟩ := at_of_lt (l := y.dbg) (hlen2 ▸ hj)
      simp (maxSteps := 10000000) only [bs, HeldL, aPick, aNil, Fr.eval, Fr.get, ofVal, Am.look, slotOf, aGuardS, ne_eq, reduceCtorEq, if_true, if_false, ite_true, ite_false, reduceIte, exists_eq_left', exists_eq_left, exists_eq', Nat.reduceEqDiff, Nat.reduceLT, Nat.reduceAdd, Nat.reduceLeDiff, Nat.reduceMul, Nat.reduceSub, eq_self_iff_true, forall_const, implies_true, splice, HeldO, imp_self, planOf, pl35, Lps35, Lsl35, Lsn35, Lw35, Ips35, Isl35, Iw35, R41, Al41, Am41, St41, Fap41_0, Faq41_0, R5, Fap41_1, Faq41_1, R3, Fap41_3, Faq41_3, R2, Fap41_4, Faq41_4, Fap41_2, Faq41_2, R38, CB36, Fap41_5, Faq41_5, R39, Lps39, Lsl39, Lsn39, Lw39, Ips39, Isl39, Iw39, R55, g73, g72, g71, g6, g7, g16, g15, g0, g1, hj, hp, hq, eDbg, neq_dbgU, Old.stk hold]
      refine ⟨fun hc => hneq (fun e => hc (by rw [e, hq] at hp; exact (Option.some.inj hp).symm)), fun he => ⟨n2 - 1, by omega, j + 1, wrap_succ (by have := fx.dbg; omega), by omega, ?_⟩⟩
      rw [take_succ_of hp, take_succ_of hq, gt, he]
    · simp (maxSteps := 10000000) only [bs, HeldL, aPick, aNil, Fr.eval, Fr.get, ofVal, Am.look, slotOf, aGuardS, ne_eq, reduceCtorEq, if_true, if_false, ite_true, ite_false, reduceIte, exists_eq_left', exists_eq_left, exists_eq', Nat.reduceEqDiff, Nat.reduceLT, Nat.reduceAdd, Nat.reduceLeDiff, Nat.reduceMul, Nat.reduceSub, eq_self_iff_true, forall_const, implies_true, splice, HeldO, imp_self, planOf, pl35, Lps35, Lsl35, Lsn35, Lw35, Ips35, Isl35, Iw35, R41, Al41, Am41, St41, Fap41_0, Faq41_0, R5, Fap41_1, Faq41_1, R3, Fap41_3, Faq41_3, R2, Fap41_4, Faq41_4, Fap41_2, Faq41_2, R38, CB36, Fap41_5, Faq41_5, R39, Lps39, Lsl39, Lsn39, Lw39, Ips39, Isl39, Iw39, R55, g73, g72, g71, g6, g7, g16, g15, g0, g1, hj, Old.stk hold]
      refine ⟨n - 1, by omega, i + 1, wrap_succ (by omega), rfl, rfl, by omega, ?_⟩
      have hd : x.dbg = y.dbg := by
        have h1 := List.take_of_length_le (l := x.dbg) (i := j) (by omega)
        have h2 := List.take_of_length_le (l := y.dbg) (i := j) (by omega)
        rw [← h1, ← h2, gt]
      have hxy : x = y := by
        cases x; cases y
        simp only at e1 e2 e3 e4 e5 hd
        subst e1 e2 e3 e4 e5 hd
        rfl
      rw [take_succ_of hx, take_succ_of hy, ht, hxy]
  · simp (maxSteps := 10000000) only [bs, HeldL, aPick, aNil, Fr.eval, Fr.get, ofVal, Am.look, slotOf, aGuardS, ne_eq, reduceCtorEq, if_true, if_false, ite_true, ite_false, reduceIte, exists_eq_left', exists_eq_left, exists_eq', Nat.reduceEqDiff, Nat.reduceLT, Nat.reduceAdd, Nat.reduceLeDiff, Nat.reduceMul, Nat.reduceSub, eq_self_iff_true, forall_const, implies_true, splice, HeldO, imp_self, planOf, pl35, Lps35, Lsl35, Lsn35, Lw35, Ips35, Isl35, Iw35, R41, Al41, Am41, St41, Fap41_0, Faq41_0, R5, Fap41_1, Faq41_1, R3, Fap41_3, Faq41_3, R2, Fap41_4, Faq41_4, Fap41_2, Faq41_2, R38, CB36, Fap41_5, Faq41_5, R39, Lps39, Lsl39, Lsn39, Lw39, Ips39, Isl39, Iw39, R55, h16, h15, h0, h1, hlt, Stk_nil]
    have : a = b := by
      have h1 := List.take_of_length_le (l := a) (i := i) (by omega)
      have h2 := List.take_of_length_le (l := b) (i := i) (by omega)
      rw [← h1, ← h2, ht]
    exact ⟨hold, by simp [this]⟩
end Go.Proofs.Ytbnegbjaoiplmaa
