/- Code of one's own: instructions. -/
import Derived.Test.YtbnegbjaoiplmaaFd
set_option linter.unusedVariables false
set_option linter.unusedSimpArgs false
namespace Go.Proofs.Ytbnegbjaoiplmaa
open Go Go.Am

theorem enc_inst : Enc 6 eInst := fun a => ⟨_, rfl, rfl, rfl, rfl⟩
theorem enc_dbg : Enc 6 eDbg := fun a => ⟨_, rfl, rfl, rfl, rfl⟩
theorem enc_spot : Enc 2 eSpot := fun a => ⟨_, rfl, rfl, rfl, rfl⟩
theorem enc_block : Enc 6 eBlock := fun a => ⟨_, rfl, rfl, rfl, rfl⟩
theorem enc_fun : Enc 4 eFun := fun a => ⟨_, rfl, rfl, rfl, rfl⟩
theorem enc_stop : Enc 1 eStop := fun a => ⟨_, rfl, rfl, rfl, rfl⟩
theorem enc_int (k : IntKind) : Enc 1 (V.int k) := fun a => ⟨_, rfl, rfl, rfl, rfl⟩

set_option maxRecDepth 100000 in
theorem f27 (l : List Inst) (hl : l.length ≤ big) (hf : ∀ x, x ∈ l → x.Fits) (σ : H) : Am.Spec Try.prog 27 [eInsts l] σ (fun o s => s = σ ∧ o = .ret (eInsts l)) := by
  refine Spec.clo fun hclo => Spec.weak ?_
  refine Am.Spec.introS mixed [] Try.func27 rfl (by kernel_rfl) 28 rfl [.tmp 2] rfl (by simp) ?_
  simp (maxSteps := 10000000) only [bs, HeldL, aPick, aNil, Fr.eval, Fr.get, ofVal, Am.look, slotOf, aGuardS, ne_eq, reduceCtorEq, if_true, if_false, ite_true, ite_false, reduceIte, exists_eq_left', exists_eq_left, exists_eq', Nat.reduceEqDiff, Nat.reduceLT, Nat.reduceAdd, Nat.reduceLeDiff, Nat.reduceMul, Nat.reduceSub, eq_self_iff_true, forall_const, implies_true, splice, HeldO, imp_self, planOf, Lps35, Lsl35, Lsn35, Lw35, Ips35, Isl35, Iw35, R41, Al41, Am41, St41, Bs38, Fap41_2, Faq41_2, R38, Ap38_38, St38, Bs39, Fap41_5, Faq41_5, R39, Ap39_39, St39, Bs35, Ap35_35, eInsts]
  refine W_loopC (St := Nat) (fun i => ⟨28, [(3, aV σ.length i 6), (6, .ps 6 (l.map eInst)), (7, .int .i64 l.length), (8, .int .i64 i)]⟩) (fun i => Stk σ [aN i (flat ((l.take i).map eInst))]) (fun n i => i + n = l.length) l.length 0 (by omega) ?_ ?_
  · refine Weak.stk rfl hclo [none] rfl ?_ ?_ <;> simp (maxSteps := 10000000) only [cb, Am.look, reduceCtorEq, reduceIte, Nat.reduceEqDiff, Nat.reduceAdd, if_true, if_false]
  intro n i hn
  have hil : (l.take i).length = i := by simp; omega
  have hrow := enc_inst.len (l.take i)
  by_cases hlt : i < l.length
  · obtain ⟨x, hx⟩ := at_of_lt hlt
    have fx := hf x (List.mem_of_getElem? hx)
    have g1 := fx.args
    have g2 := fx.dbg
    simp (maxSteps := 10000000) only [bs, HeldL, aPick, aNil, Fr.eval, Fr.get, ofVal, Am.look, slotOf, aGuardS, ne_eq, reduceCtorEq, if_true, if_false, ite_true, ite_false, reduceIte, exists_eq_left', exists_eq_left, exists_eq', Nat.reduceEqDiff, Nat.reduceLT, Nat.reduceAdd, Nat.reduceLeDiff, Nat.reduceMul, Nat.reduceSub, eq_self_iff_true, forall_const, implies_true, splice, HeldO, imp_self, planOf, Lps35, Lsl35, Lsn35, Lw35, Ips35, Isl35, Iw35, R41, Al41, Am41, St41, Bs38, Fap41_2, Faq41_2, R38, Ap38_38, St38, Bs39, Fap41_5, Faq41_5, R39, Ap39_39, St39, Bs35, Ap35_35, hlt, hx, eInst, ints, (enc_int .i64).ones, enc_dbg.ones, wrap_succ (show i ≤ big by omega)]
    refine ⟨by simp only [big] at *; omega, by simp only [big] at *; omega, by simp only [big] at *; omega, by simp only [big] at *; omega, by simp only [big] at *; omega, by simp only [big] at *; omega, by rw [hrow, hil]; omega, ?_⟩
    refine RndC.mk (n - 1) (i + 1) (by omega) (by omega) ?_
    refine Weak.stk rfl hclo [some 7] rfl ?_ ?_ <;> simp (maxSteps := 10000000) only [cb, Am.look, reduceCtorEq, reduceIte, Nat.reduceEqDiff, Nat.reduceAdd, if_true, if_false]
    · rw [take_succ_of hx]
      refine RowCn.snoc enc_inst hil.symm rfl ?_
      simp (maxSteps := 10000000) only [cb, Am.look, reduceCtorEq, reduceIte, Nat.reduceEqDiff, Nat.reduceAdd, if_true, if_false]
      exact ⟨Cn.fz (enc_int .i64) rfl (by simp (maxSteps := 10000000) only [cb, Am.look, reduceCtorEq, reduceIte, Nat.reduceEqDiff, Nat.reduceAdd, if_true, if_false]; rfl) (rowAt_stk rfl), Cn.fz enc_dbg rfl (by simp (maxSteps := 10000000) only [cb, Am.look, reduceCtorEq, reduceIte, Nat.reduceEqDiff, Nat.reduceAdd, if_true, if_false]; rfl) (rowAt_stk rfl)⟩
  · simp (maxSteps := 10000000) only [bs, HeldL, aPick, aNil, Fr.eval, Fr.get, ofVal, Am.look, slotOf, aGuardS, ne_eq, reduceCtorEq, if_true, if_false, ite_true, ite_false, reduceIte, exists_eq_left', exists_eq_left, exists_eq', Nat.reduceEqDiff, Nat.reduceLT, Nat.reduceAdd, Nat.reduceLeDiff, Nat.reduceMul, Nat.reduceSub, eq_self_iff_true, forall_const, implies_true, splice, HeldO, imp_self, planOf, Lps35, Lsl35, Lsn35, Lw35, Ips35, Isl35, Iw35, R41, Al41, Am41, St41, Bs38, Fap41_2, Faq41_2, R38, Ap38_38, St38, Bs39, Fap41_5, Faq41_5, R39, Ap39_39, St39, Bs35, Ap35_35, hlt]
    obtain rfl : i = l.length := by omega
    rw [List.take_length]
    exact SetQ.done rfl hclo (Cn.fzV enc_inst rfl (by simp (maxSteps := 10000000) only [cb, Am.look, reduceCtorEq, reduceIte, Nat.reduceEqDiff, Nat.reduceAdd, if_true, if_false]; rfl) (get_stk0 rfl)) ⟨rfl, rfl⟩
end Go.Proofs.Ytbnegbjaoiplmaa
