/- Is code small? -/
import Derived.Test.YtbnegbjaoiplmaaFi
set_option linter.unusedVariables false
set_option linter.unusedSimpArgs false
namespace Go.Proofs.Ytbnegbjaoiplmaa
open Go Go.Am

/-- A sum over a list. -/
def sumW {α : Type} (w : α → Nat) (l : List α) : Nat := (l.map w).sum
theorem sumW_drop {α : Type} {w : α → Nat} {l : List α} {i : Nat} {x : α} (h : l[i]? = some x) : sumW w (l.drop i) = w x + sumW w (l.drop (i + 1)) := by
  have : l.drop i = x :: l.drop (i + 1) := by
    rw [List.drop_eq_getElem_cons (lt_of_some h)]
    congr 1
    exact (List.getElem?_eq_some_iff.1 h).2
  rw [this]
  simp [sumW]
theorem sumW_end {α : Type} {w : α → Nat} {l : List α} {i : Nat} (h : ¬ i < l.length) : sumW w (l.drop i) = 0 := by
  rw [List.drop_of_length_le (by omega)]; rfl
def wInst (x : Inst) : Nat := 1 + x.args.length + x.dbg.length
def wBlock (b : Block) : Nat := sumW wInst b.phis + sumW wInst b.insts
def wFun (f : Fun) : Nat := f.blocks.length + sumW wBlock f.blocks
def wCode (c : Code) : Nat := c.funs.length + c.stops.length + sumW List.length c.stops + sumW wFun c.funs
def fewF (f : Fun) : Bool := decide (f.vals ≤ 2000) && decide (f.blocks.length ≤ 150)
def few (c : Code) : Bool := c.funs.all fewF && decide (wCode c ≤ 3000)
theorem all_take_succ {α : Type} {p : α → Bool} {l : List α} {i : Nat} {x : α} (h : l[i]? = some x) (hp : p x = true) (ha : (l.take i).all p = true) : (l.take (i + 1)).all p = true := by
  rw [take_succ_of h, List.all_append, ha]; simp [hp]
theorem all_not {α : Type} {p : α → Bool} {l : List α} {i : Nat} {x : α} (h : l[i]? = some x) (hp : p x = false) : l.all p = false := by
  rw [List.all_eq_false]
  exact ⟨x, List.mem_of_getElem? h, by simp [hp]⟩
theorem wrapN {x : Int} {a b : Nat} (h : x = (a : Int) + (b : Int)) (hb : a + b ≤ big) : IntKind.i64.wrap x = ((a + b : Nat) : Int) := by
  rw [h, wrap_i64 (by omega) (by simp only [big] at hb; omega)]
  simp

set_option maxRecDepth 100000 in
theorem f7 (c : Code) (fc : c.Fits) (hw : wCode c ≤ big) (σ : H) : Am.Spec Try.prog 7 [eCode c] σ (fun o s => s = σ ∧ o = .ret (.bool (few c))) := by
  refine Spec.clo fun hclo => Spec.weak ?_
  refine Am.Spec.introS mixed [] Try.func7 rfl (by kernel_rfl) 93 rfl [.tmp 2] rfl (by simp) ?_
  simp (maxSteps := 10000000) only [bs, HeldL, aPick, aNil, Fr.eval, Fr.get, ofVal, Am.look, slotOf, aGuardS, ne_eq, reduceCtorEq, if_true, if_false, ite_true, ite_false, reduceIte, exists_eq_left', exists_eq_left, exists_eq', Nat.reduceEqDiff, Nat.reduceLT, Nat.reduceAdd, Nat.reduceLeDiff, Nat.reduceMul, Nat.reduceSub, eq_self_iff_true, forall_const, implies_true, splice, HeldO, imp_self, planOf, Fap25_0, Faq25_0, R22, Lps22, Lsl22, Lsn22, Lw22, Fap25_1, Faq25_1, R23, Lps23, Lsl23, Lsn23, Lw23, Ips23, Isl23, Iw23, R50, Lps50, Lsl50, Lsn50, Lw50, Ips22, Isl22, Iw22, R33, Al33, Am33, St33, Fap33_2, Faq33_2, R3, Fap33_3, Faq33_3, R31, Lps31, Lsl31, Lsn31, Lw31, Ips31, Isl31, Iw31, R37, Al37, Am37, St37, Fap37_0, Faq37_0, R35, Fap37_1, Faq37_1, Bs53, Lps53, Lsl53, Lsn53, Lw53, Ips53, Isl53, Iw53, Lps35, Lsl35, Lsn35, Lw35, Ips35, Isl35, Iw35, R41, Al41, Am41, St41, Fap41_2, Faq41_2, R38, Lps38, Lsl38, Lsn38, Lw38, Fap41_5, Faq41_5, R39, Lps39, Lsl39, Lsn39, Lw39, eCode]
  have hT : wCode c = c.funs.length + c.stops.length + sumW List.length c.stops + sumW wFun c.funs := rfl
  have w0 : IntKind.i64.wrap ((c.funs.length : Int) + (c.stops.length : Int)) = ((c.funs.length + c.stops.length : Nat) : Int) := wrapN rfl (by omega)
  simp only [w0]
  refine W_loopC (St := Nat × Nat) (fun p => ⟨93, [(1, .ptr σ.length 0), (3, .int .i64 p.2), (22, .ps 1 (c.stops.map eStop)), (23, .int .i64 c.stops.length), (24, .int .i64 p.1)]⟩) (fun p => Stk σ [some (.row (rCode c))]) (fun n p => p.1 + n = c.stops.length ∧ p.2 + sumW List.length (c.stops.drop p.1) + sumW wFun c.funs = wCode c) c.stops.length (0, c.funs.length + c.stops.length) ⟨by simp, by rw [hT]; simp⟩ ?_ ?_
  · refine Weak.stk rfl hclo [some 0] rfl ?_ ?_ <;> simp (maxSteps := 10000000) only [cb, Am.look, reduceCtorEq, reduceIte, Nat.reduceEqDiff, Nat.reduceAdd, if_true, if_false, rCode]
  rintro n ⟨i, a⟩ ⟨hn, ha⟩
  simp only at hn ha
  by_cases hlt : i < c.stops.length
  · obtain ⟨x, hx⟩ := at_of_lt hlt
    have hd := sumW_drop (w := List.length) hx
    simp (maxSteps := 10000000) only [bs, HeldL, aPick, aNil, Fr.eval, Fr.get, ofVal, Am.look, slotOf, aGuardS, ne_eq, reduceCtorEq, if_true, if_false, ite_true, ite_false, reduceIte, exists_eq_left', exists_eq_left, exists_eq', Nat.reduceEqDiff, Nat.reduceLT, Nat.reduceAdd, Nat.reduceLeDiff, Nat.reduceMul, Nat.reduceSub, eq_self_iff_true, forall_const, implies_true, splice, HeldO, imp_self, planOf, Fap25_0, Faq25_0, R22, Lps22, Lsl22, Lsn22, Lw22, Fap25_1, Faq25_1, R23, Lps23, Lsl23, Lsn23, Lw23, Ips23, Isl23, Iw23, R50, Lps50, Lsl50, Lsn50, Lw50, Ips22, Isl22, Iw22, R33, Al33, Am33, St33, Fap33_2, Faq33_2, R3, Fap33_3, Faq33_3, R31, Lps31, Lsl31, Lsn31, Lw31, Ips31, Isl31, Iw31, R37, Al37, Am37, St37, Fap37_0, Faq37_0, R35, Fap37_1, Faq37_1, Bs53, Lps53, Lsl53, Lsn53, Lw53, Ips53, Isl53, Iw53, Lps35, Lsl35, Lsn35, Lw35, Ips35, Isl35, Iw35, R41, Al41, Am41, St41, Fap41_2, Faq41_2, R38, Lps38, Lsl38, Lsn38, Lw38, Fap41_5, Faq41_5, R39, Lps39, Lsl39, Lsn39, Lw39, hlt, hx, eStop, wrap_succ (show i ≤ big by omega), wrapN (rfl : (a : Int) + (x.length : Int) = _) (by omega)]
    refine RndC.mk (n - 1) (i + 1, a + x.length) (by omega) ⟨by simp only; omega, by simp only; omega⟩ ?_
    refine Weak.stk rfl hclo [some 0] rfl ?_ ?_ <;> simp (maxSteps := 10000000) only [cb, Am.look, reduceCtorEq, reduceIte, Nat.reduceEqDiff, Nat.reduceAdd, if_true, if_false, rCode]
  have hd := sumW_end (w := List.length) hlt
  simp (maxSteps := 10000000) only [bs, HeldL, aPick, aNil, Fr.eval, Fr.get, ofVal, Am.look, slotOf, aGuardS, ne_eq, reduceCtorEq, if_true, if_false, ite_true, ite_false, reduceIte, exists_eq_left', exists_eq_left, exists_eq', Nat.reduceEqDiff, Nat.reduceLT, Nat.reduceAdd, Nat.reduceLeDiff, Nat.reduceMul, Nat.reduceSub, eq_self_iff_true, forall_const, implies_true, splice, HeldO, imp_self, planOf, Fap25_0, Faq25_0, R22, Lps22, Lsl22, Lsn22, Lw22, Fap25_1, Faq25_1, R23, Lps23, Lsl23, Lsn23, Lw23, Ips23, Isl23, Iw23, R50, Lps50, Lsl50, Lsn50, Lw50, Ips22, Isl22, Iw22, R33, Al33, Am33, St33, Fap33_2, Faq33_2, R3, Fap33_3, Faq33_3, R31, Lps31, Lsl31, Lsn31, Lw31, Ips31, Isl31, Iw31, R37, Al37, Am37, St37, Fap37_0, Faq37_0, R35, Fap37_1, Faq37_1, Bs53, Lps53, Lsl53, Lsn53, Lw53, Ips53, Isl53, Iw53, Lps35, Lsl35, Lsn35, Lw35, Ips35, Isl35, Iw35, R41, Al41, Am41, St41, Fap41_2, Faq41_2, R38, Lps38, Lsl38, Lsn38, Lw38, Fap41_5, Faq41_5, R39, Lps39, Lsl39, Lsn39, Lw39, hlt, rCode]
  refine W_loopC (St := Nat × Nat) (fun p => ⟨93, [(3, .int .i64 p.2), (34, .ps 4 (c.funs.map eFun)), (35, .int .i64 c.funs.length), (36, .int .i64 p.1)]⟩) (fun p => Stk σ []) (fun n p => p.1 + n = c.funs.length ∧ p.2 + sumW wFun (c.funs.drop p.1) = wCode c ∧ (c.funs.take p.1).all fewF = true) c.funs.length (0, a) ⟨by simp, by simp only [List.drop_zero]; omega, rfl⟩ ?_ ?_
  · refine Weak.stk rfl hclo [] rfl ?_ ?_ <;> simp (maxSteps := 10000000) only [cb, Am.look, reduceCtorEq, reduceIte, Nat.reduceEqDiff, Nat.reduceAdd, if_true, if_false]
  clear hlt hn ha hd
  clear i n a
  rintro n ⟨i, a⟩ ⟨hn, ha, hall⟩
  simp only at hn ha hall
  by_cases hlt : i < c.funs.length
  · obtain ⟨x, hx⟩ := at_of_lt hlt
    have hd := sumW_drop (w := wFun) hx
    have hwx : wFun x = x.blocks.length + sumW wBlock x.blocks := rfl
    have hno : fewF x = false → false = few c := fun h => by simp [few, all_not hx h]
    have wa : IntKind.i64.wrap ((a : Int) + (x.blocks.length : Int)) = ((a + x.blocks.length : Nat) : Int) := wrapN rfl (by omega)
    simp (maxSteps := 10000000) only [bs, HeldL, aPick, aNil, Fr.eval, Fr.get, ofVal, Am.look, slotOf, aGuardS, ne_eq, reduceCtorEq, if_true, if_false, ite_true, ite_false, reduceIte, exists_eq_left', exists_eq_left, exists_eq', Nat.reduceEqDiff, Nat.reduceLT, Nat.reduceAdd, Nat.reduceLeDiff, Nat.reduceMul, Nat.reduceSub, eq_self_iff_true, forall_const, implies_true, splice, HeldO, imp_self, planOf, Fap25_0, Faq25_0, R22, Lps22, Lsl22, Lsn22, Lw22, Fap25_1, Faq25_1, R23, Lps23, Lsl23, Lsn23, Lw23, Ips23, Isl23, Iw23, R50, Lps50, Lsl50, Lsn50, Lw50, Ips22, Isl22, Iw22, R33, Al33, Am33, St33, Fap33_2, Faq33_2, R3, Fap33_3, Faq33_3, R31, Lps31, Lsl31, Lsn31, Lw31, Ips31, Isl31, Iw31, R37, Al37, Am37, St37, Fap37_0, Faq37_0, R35, Fap37_1, Faq37_1, Bs53, Lps53, Lsl53, Lsn53, Lw53, Ips53, Isl53, Iw53, Lps35, Lsl35, Lsn35, Lw35, Ips35, Isl35, Iw35, R41, Al41, Am41, St41, Fap41_2, Faq41_2, R38, Lps38, Lsl38, Lsn38, Lw38, Fap41_5, Faq41_5, R39, Lps39, Lsl39, Lsn39, Lw39, hlt, hx, eFun, wrap_succ (show i ≤ big by omega), wa]
    refine ⟨fun h1 => ?_, fun h1 => ⟨fun h2 => ?_, fun h2 => ?_⟩⟩
    · exact SetQ.done rfl hclo (Cn.same rfl) ⟨rfl, by rw [← hno (by simp [fewF]; omega)]⟩
    · exact SetQ.done rfl hclo (Cn.same rfl) ⟨rfl, by rw [← hno (by simp [fewF]; omega)]⟩
    have hok : fewF x = true := by simp [fewF]; omega
    refine W_loopC (St := Nat × Nat) (fun p => ⟨93, [(3, .int .i64 p.2), (34, .ps 4 (c.funs.map eFun)), (35, .int .i64 c.funs.length), (36, .int .i64 i), (55, .ps 6 (x.blocks.map eBlock)), (56, .int .i64 x.blocks.length), (57, .int .i64 p.1)]⟩) (fun p => Stk σ []) (fun n p => p.1 + n = x.blocks.length ∧ p.2 + sumW wBlock (x.blocks.drop p.1) + sumW wFun (c.funs.drop (i + 1)) = wCode c) x.blocks.length (0, a + x.blocks.length) ⟨by simp, by simp only [List.drop_zero]; omega⟩ ?_ ?_
    · refine Weak.stk rfl hclo [] rfl ?_ ?_ <;> simp (maxSteps := 10000000) only [cb, Am.look, reduceCtorEq, reduceIte, Nat.reduceEqDiff, Nat.reduceAdd, if_true, if_false]
    rintro n2 ⟨k, a2⟩ ⟨hn2, ha2⟩
    simp only at hn2 ha2
    by_cases hlk : k < x.blocks.length
    · obtain ⟨y, hy⟩ := at_of_lt hlk
      have hdy := sumW_drop (w := wBlock) hy
      have hwy : wBlock y = sumW wInst y.phis + sumW wInst y.insts := rfl
      simp (maxSteps := 10000000) only [bs, HeldL, aPick, aNil, Fr.eval, Fr.get, ofVal, Am.look, slotOf, aGuardS, ne_eq, reduceCtorEq, if_true, if_false, ite_true, ite_false, reduceIte, exists_eq_left', exists_eq_left, exists_eq', Nat.reduceEqDiff, Nat.reduceLT, Nat.reduceAdd, Nat.reduceLeDiff, Nat.reduceMul, Nat.reduceSub, eq_self_iff_true, forall_const, implies_true, splice, HeldO, imp_self, planOf, Fap25_0, Faq25_0, R22, Lps22, Lsl22, Lsn22, Lw22, Fap25_1, Faq25_1, R23, Lps23, Lsl23, Lsn23, Lw23, Ips23, Isl23, Iw23, R50, Lps50, Lsl50, Lsn50, Lw50, Ips22, Isl22, Iw22, R33, Al33, Am33, St33, Fap33_2, Faq33_2, R3, Fap33_3, Faq33_3, R31, Lps31, Lsl31, Lsn31, Lw31, Ips31, Isl31, Iw31, R37, Al37, Am37, St37, Fap37_0, Faq37_0, R35, Fap37_1, Faq37_1, Bs53, Lps53, Lsl53, Lsn53, Lw53, Ips53, Isl53, Iw53, Lps35, Lsl35, Lsn35, Lw35, Ips35, Isl35, Iw35, R41, Al41, Am41, St41, Fap41_2, Faq41_2, R38, Lps38, Lsl38, Lsn38, Lw38, Fap41_5, Faq41_5, R39, Lps39, Lsl39, Lsn39, Lw39, hlk, hy, eBlock, eInsts]
      obtain ⟨L2, hL2⟩ : ∃ L, L = [y.phis, y.insts] := ⟨_, rfl⟩
      have hL2l : L2.length = 2 := by rw [hL2]; rfl
      have hL20 : sumW (sumW wInst) L2 = sumW wInst y.phis + sumW wInst y.insts := by rw [hL2]; simp [sumW]
      refine W_loopC (St := Nat × Nat) (fun p => ⟨93, [(3, .int .i64 p.2), (34, .ps 4 (c.funs.map eFun)), (35, .int .i64 c.funs.length), (36, .int .i64 i), (55, .ps 6 (x.blocks.map eBlock)), (56, .int .i64 x.blocks.length), (57, .int .i64 k), (65, .sl σ.length 0 2 1), (66, .int .i64 ((2 : Nat) : Int)), (67, .int .i64 p.1)]⟩) (fun p => Stk σ [some (.row [.ps 6 (y.phis.map eInst), .ps 6 (y.insts.map eInst)])]) (fun n p => p.1 + n = 2 ∧ p.2 + sumW (sumW wInst) (L2.drop p.1) + sumW wBlock (x.blocks.drop (k + 1)) + sumW wFun (c.funs.drop (i + 1)) = wCode c) 2 (0, a2) ⟨rfl, by simp only [List.drop_zero]; omega⟩ ?_ ?_
      · refine Weak.stk rfl hclo [some 1] rfl ?_ ?_ <;> simp (maxSteps := 10000000) only [cb, Am.look, reduceCtorEq, reduceIte, Nat.reduceEqDiff, Nat.reduceAdd, if_true, if_false]
      rintro n3 ⟨m, a3⟩ ⟨hn3, ha3⟩
      simp only at hn3 ha3
      by_cases hlm : m < 2
      · obtain ⟨z, hz⟩ : ∃ z, L2[m]? = some z := some_of_lt (by omega)
        have hzv : ([.ps 6 (y.phis.map eInst), .ps 6 (y.insts.map eInst)] : List V)[m]? = some (.ps 6 (z.map eInst)) := by
          have : m = 0 ∨ m = 1 := by omega
          rcases this with rfl | rfl <;> simp [hL2] at hz <;> subst hz <;> rfl
        have hdz := sumW_drop (w := sumW wInst) hz
        simp (maxSteps := 10000000) only [bs, HeldL, aPick, aNil, Fr.eval, Fr.get, ofVal, Am.look, slotOf, aGuardS, ne_eq, reduceCtorEq, if_true, if_false, ite_true, ite_false, reduceIte, exists_eq_left', exists_eq_left, exists_eq', Nat.reduceEqDiff, Nat.reduceLT, Nat.reduceAdd, Nat.reduceLeDiff, Nat.reduceMul, Nat.reduceSub, eq_self_iff_true, forall_const, implies_true, splice, HeldO, imp_self, planOf, Fap25_0, Faq25_0, R22, Lps22, Lsl22, Lsn22, Lw22, Fap25_1, Faq25_1, R23, Lps23, Lsl23, Lsn23, Lw23, Ips23, Isl23, Iw23, R50, Lps50, Lsl50, Lsn50, Lw50, Ips22, Isl22, Iw22, R33, Al33, Am33, St33, Fap33_2, Faq33_2, R3, Fap33_3, Faq33_3, R31, Lps31, Lsl31, Lsn31, Lw31, Ips31, Isl31, Iw31, R37, Al37, Am37, St37, Fap37_0, Faq37_0, R35, Fap37_1, Faq37_1, Bs53, Lps53, Lsl53, Lsn53, Lw53, Ips53, Isl53, Iw53, Lps35, Lsl35, Lsn35, Lw35, Ips35, Isl35, Iw35, R41, Al41, Am41, St41, Fap41_2, Faq41_2, R38, Lps38, Lsl38, Lsn38, Lw38, Fap41_5, Faq41_5, R39, Lps39, Lsl39, Lsn39, Lw39, hlm, hzv, Nat.mul_one]
        refine W_loopC (St := Nat × Nat) (fun p => ⟨93, [(3, .int .i64 p.2), (34, .ps 4 (c.funs.map eFun)), (35, .int .i64 c.funs.length), (36, .int .i64 i), (55, .ps 6 (x.blocks.map eBlock)), (56, .int .i64 x.blocks.length), (57, .int .i64 k), (65, .sl σ.length 0 2 1), (66, .int .i64 ((2 : Nat) : Int)), (67, .int .i64 m), (71, .ps 6 (z.map eInst)), (72, .int .i64 z.length), (73, .int .i64 p.1)]⟩) (fun p => Stk σ [some (.row [.ps 6 (y.phis.map eInst), .ps 6 (y.insts.map eInst)])]) (fun n p => p.1 + n = z.length ∧ p.2 + sumW wInst (z.drop p.1) + sumW (sumW wInst) (L2.drop (m + 1)) + sumW wBlock (x.blocks.drop (k + 1)) + sumW wFun (c.funs.drop (i + 1)) = wCode c) z.length (0, a3) ⟨by simp, by simp only [List.drop_zero]; omega⟩ ?_ ?_
        · refine Weak.stk rfl hclo [some 0] rfl ?_ ?_ <;> simp (maxSteps := 10000000) only [cb, Am.look, reduceCtorEq, reduceIte, Nat.reduceEqDiff, Nat.reduceAdd, if_true, if_false]
        rintro n4 ⟨q, a4⟩ ⟨hn4, ha4⟩
        simp only at hn4 ha4
        by_cases hlq : q < z.length
        · obtain ⟨v, hv⟩ := at_of_lt hlq
          have hdv := sumW_drop (w := wInst) hv
          have hwv : wInst v = 1 + v.args.length + v.dbg.length := rfl
          have w1 : IntKind.i64.wrap ((1 : Int) + (v.args.length : Int)) = ((1 + v.args.length : Nat) : Int) := wrapN rfl (by omega)
          have w2 : IntKind.i64.wrap (((1 + v.args.length : Nat) : Int) + (v.dbg.length : Int)) = ((1 + v.args.length + v.dbg.length : Nat) : Int) := wrapN rfl (by omega)
          have w3 : IntKind.i64.wrap ((a4 : Int) + ((1 + v.args.length + v.dbg.length : Nat) : Int)) = ((a4 + (1 + v.args.length + v.dbg.length) : Nat) : Int) := wrapN rfl (by omega)
          have hqb : q ≤ big := by
            have hfy := (fc.allF x (List.mem_of_getElem? hx)).all y (List.mem_of_getElem? hy)
            have : m = 0 ∨ m = 1 := by omega
            rcases this with rfl | rfl <;> simp [hL2] at hz <;> subst hz
            · exact Nat.le_trans (Nat.le_of_lt hlq) hfy.phis
            · exact Nat.le_trans (Nat.le_of_lt hlq) hfy.insts
          simp (maxSteps := 10000000) only [bs, HeldL, aPick, aNil, Fr.eval, Fr.get, ofVal, Am.look, slotOf, aGuardS, ne_eq, reduceCtorEq, if_true, if_false, ite_true, ite_false, reduceIte, exists_eq_left', exists_eq_left, exists_eq', Nat.reduceEqDiff, Nat.reduceLT, Nat.reduceAdd, Nat.reduceLeDiff, Nat.reduceMul, Nat.reduceSub, eq_self_iff_true, forall_const, implies_true, splice, HeldO, imp_self, planOf, Fap25_0, Faq25_0, R22, Lps22, Lsl22, Lsn22, Lw22, Fap25_1, Faq25_1, R23, Lps23, Lsl23, Lsn23, Lw23, Ips23, Isl23, Iw23, R50, Lps50, Lsl50, Lsn50, Lw50, Ips22, Isl22, Iw22, R33, Al33, Am33, St33, Fap33_2, Faq33_2, R3, Fap33_3, Faq33_3, R31, Lps31, Lsl31, Lsn31, Lw31, Ips31, Isl31, Iw31, R37, Al37, Am37, St37, Fap37_0, Faq37_0, R35, Fap37_1, Faq37_1, Bs53, Lps53, Lsl53, Lsn53, Lw53, Ips53, Isl53, Iw53, Lps35, Lsl35, Lsn35, Lw35, Ips35, Isl35, Iw35, R41, Al41, Am41, St41, Fap41_2, Faq41_2, R38, Lps38, Lsl38, Lsn38, Lw38, Fap41_5, Faq41_5, R39, Lps39, Lsl39, Lsn39, Lw39, hlq, hv, eInst, ints, w1, w2, w3, wrap_succ hqb]
          refine RndC.mk (n4 - 1) (q + 1, a4 + (1 + v.args.length + v.dbg.length)) (by omega) ⟨by simp only; omega, by simp only; omega⟩ ?_
          refine Weak.stk rfl hclo [some 0] rfl ?_ ?_ <;> simp (maxSteps := 10000000) only [cb, Am.look, reduceCtorEq, reduceIte, Nat.reduceEqDiff, Nat.reduceAdd, if_true, if_false]
        · have hdv := sumW_end (w := wInst) hlq
          simp (maxSteps := 10000000) only [bs, HeldL, aPick, aNil, Fr.eval, Fr.get, ofVal, Am.look, slotOf, aGuardS, ne_eq, reduceCtorEq, if_true, if_false, ite_true, ite_false, reduceIte, exists_eq_left', exists_eq_left, exists_eq', Nat.reduceEqDiff, Nat.reduceLT, Nat.reduceAdd, Nat.reduceLeDiff, Nat.reduceMul, Nat.reduceSub, eq_self_iff_true, forall_const, implies_true, splice, HeldO, imp_self, planOf, Fap25_0, Faq25_0, R22, Lps22, Lsl22, Lsn22, Lw22, Fap25_1, Faq25_1, R23, Lps23, Lsl23, Lsn23, Lw23, Ips23, Isl23, Iw23, R50, Lps50, Lsl50, Lsn50, Lw50, Ips22, Isl22, Iw22, R33, Al33, Am33, St33, Fap33_2, Faq33_2, R3, Fap33_3, Faq33_3, R31, Lps31, Lsl31, Lsn31, Lw31, Ips31, Isl31, Iw31, R37, Al37, Am37, St37, Fap37_0, Faq37_0, R35, Fap37_1, Faq37_1, Bs53, Lps53, Lsl53, Lsn53, Lw53, Ips53, Isl53, Iw53, Lps35, Lsl35, Lsn35, Lw35, Ips35, Isl35, Iw35, R41, Al41, Am41, St41, Fap41_2, Faq41_2, R38, Lps38, Lsl38, Lsn38, Lw38, Fap41_5, Faq41_5, R39, Lps39, Lsl39, Lsn39, Lw39, hlq, wrap_succ (Nat.le_trans (Nat.le_of_lt hlm) (by decide : 2 ≤ big))]
          refine RndC.mk (n3 - 1) (m + 1, a4) (by omega) ⟨by simp only; omega, by simp only; omega⟩ ?_
          refine Weak.stk rfl hclo [some 0] rfl ?_ ?_ <;> simp (maxSteps := 10000000) only [cb, Am.look, reduceCtorEq, reduceIte, Nat.reduceEqDiff, Nat.reduceAdd, if_true, if_false]
      · simp (maxSteps := 10000000) only [bs, HeldL, aPick, aNil, Fr.eval, Fr.get, ofVal, Am.look, slotOf, aGuardS, ne_eq, reduceCtorEq, if_true, if_false, ite_true, ite_false, reduceIte, exists_eq_left', exists_eq_left, exists_eq', Nat.reduceEqDiff, Nat.reduceLT, Nat.reduceAdd, Nat.reduceLeDiff, Nat.reduceMul, Nat.reduceSub, eq_self_iff_true, forall_const, implies_true, splice, HeldO, imp_self, planOf, Fap25_0, Faq25_0, R22, Lps22, Lsl22, Lsn22, Lw22, Fap25_1, Faq25_1, R23, Lps23, Lsl23, Lsn23, Lw23, Ips23, Isl23, Iw23, R50, Lps50, Lsl50, Lsn50, Lw50, Ips22, Isl22, Iw22, R33, Al33, Am33, St33, Fap33_2, Faq33_2, R3, Fap33_3, Faq33_3, R31, Lps31, Lsl31, Lsn31, Lw31, Ips31, Isl31, Iw31, R37, Al37, Am37, St37, Fap37_0, Faq37_0, R35, Fap37_1, Faq37_1, Bs53, Lps53, Lsl53, Lsn53, Lw53, Ips53, Isl53, Iw53, Lps35, Lsl35, Lsn35, Lw35, Ips35, Isl35, Iw35, R41, Al41, Am41, St41, Fap41_2, Faq41_2, R38, Lps38, Lsl38, Lsn38, Lw38, Fap41_5, Faq41_5, R39, Lps39, Lsl39, Lsn39, Lw39, hlm, wrap_succ (show k ≤ big by omega)]
        have he : sumW (sumW wInst) (L2.drop m) = 0 := sumW_end (by omega)
        refine RndC.mk (n2 - 1) (k + 1, a3) (by omega) ⟨by simp only; omega, by simp only; omega⟩ ?_
        refine Weak.stk rfl hclo [] rfl ?_ ?_ <;> simp (maxSteps := 10000000) only [cb, Am.look, reduceCtorEq, reduceIte, Nat.reduceEqDiff, Nat.reduceAdd, if_true, if_false]
    · simp (maxSteps := 10000000) only [bs, HeldL, aPick, aNil, Fr.eval, Fr.get, ofVal, Am.look, slotOf, aGuardS, ne_eq, reduceCtorEq, if_true, if_false, ite_true, ite_false, reduceIte, exists_eq_left', exists_eq_left, exists_eq', Nat.reduceEqDiff, Nat.reduceLT, Nat.reduceAdd, Nat.reduceLeDiff, Nat.reduceMul, Nat.reduceSub, eq_self_iff_true, forall_const, implies_true, splice, HeldO, imp_self, planOf, Fap25_0, Faq25_0, R22, Lps22, Lsl22, Lsn22, Lw22, Fap25_1, Faq25_1, R23, Lps23, Lsl23, Lsn23, Lw23, Ips23, Isl23, Iw23, R50, Lps50, Lsl50, Lsn50, Lw50, Ips22, Isl22, Iw22, R33, Al33, Am33, St33, Fap33_2, Faq33_2, R3, Fap33_3, Faq33_3, R31, Lps31, Lsl31, Lsn31, Lw31, Ips31, Isl31, Iw31, R37, Al37, Am37, St37, Fap37_0, Faq37_0, R35, Fap37_1, Faq37_1, Bs53, Lps53, Lsl53, Lsn53, Lw53, Ips53, Isl53, Iw53, Lps35, Lsl35, Lsn35, Lw35, Ips35, Isl35, Iw35, R41, Al41, Am41, St41, Fap41_2, Faq41_2, R38, Lps38, Lsl38, Lsn38, Lw38, Fap41_5, Faq41_5, R39, Lps39, Lsl39, Lsn39, Lw39, hlk, wrap_succ (show i ≤ big by omega)]
      have he : sumW wBlock (x.blocks.drop k) = 0 := sumW_end hlk
      refine RndC.mk (n - 1) (i + 1, a2) (by omega) ⟨by simp only; omega, by simp only; omega, all_take_succ hx hok hall⟩ ?_
      refine Weak.stk rfl hclo [] rfl ?_ ?_ <;> simp (maxSteps := 10000000) only [cb, Am.look, reduceCtorEq, reduceIte, Nat.reduceEqDiff, Nat.reduceAdd, if_true, if_false]
  · simp (maxSteps := 10000000) only [bs, HeldL, aPick, aNil, Fr.eval, Fr.get, ofVal, Am.look, slotOf, aGuardS, ne_eq, reduceCtorEq, if_true, if_false, ite_true, ite_false, reduceIte, exists_eq_left', exists_eq_left, exists_eq', Nat.reduceEqDiff, Nat.reduceLT, Nat.reduceAdd, Nat.reduceLeDiff, Nat.reduceMul, Nat.reduceSub, eq_self_iff_true, forall_const, implies_true, splice, HeldO, imp_self, planOf, Fap25_0, Faq25_0, R22, Lps22, Lsl22, Lsn22, Lw22, Fap25_1, Faq25_1, R23, Lps23, Lsl23, Lsn23, Lw23, Ips23, Isl23, Iw23, R50, Lps50, Lsl50, Lsn50, Lw50, Ips22, Isl22, Iw22, R33, Al33, Am33, St33, Fap33_2, Faq33_2, R3, Fap33_3, Faq33_3, R31, Lps31, Lsl31, Lsn31, Lw31, Ips31, Isl31, Iw31, R37, Al37, Am37, St37, Fap37_0, Faq37_0, R35, Fap37_1, Faq37_1, Bs53, Lps53, Lsl53, Lsn53, Lw53, Ips53, Isl53, Iw53, Lps35, Lsl35, Lsn35, Lw35, Ips35, Isl35, Iw35, R41, Al41, Am41, St41, Fap41_2, Faq41_2, R38, Lps38, Lsl38, Lsn38, Lw38, Fap41_5, Faq41_5, R39, Lps39, Lsl39, Lsn39, Lw39, hlt]
    have he : sumW wFun (c.funs.drop i) = 0 := sumW_end hlt
    have hl : c.funs.take i = c.funs := List.take_of_length_le (by omega)
    rw [hl] at hall
    have hfew : few c = decide (wCode c ≤ 3000) := by simp [few, hall]
    rw [hfew]
    refine ⟨fun h => SetQ.done rfl hclo (Cn.same rfl) ⟨rfl, ?_⟩, fun h => SetQ.done rfl hclo (Cn.same rfl) ⟨rfl, ?_⟩⟩
    · rw [decide_eq_true (by omega)]
    · rw [decide_eq_false (by omega)]
end Go.Proofs.Ytbnegbjaoiplmaa
