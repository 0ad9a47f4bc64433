/- Graphs of functions. -/
import Derived.Test.YtbnegbjaoiplmaaFh
set_option linter.unusedVariables false
set_option linter.unusedSimpArgs false
namespace Go.Proofs.Ytbnegbjaoiplmaa
open Go Go.Am

/-- Where a block goes on. -/
def ways (b : Block) : List Int := if b.fin = 2 then [b.to, b.els] else if b.fin = 1 then [b.to] else []
def graph (f : Fun) : List (List Int) := f.blocks.map ways
theorem enc_ints : Enc 1 ints := fun a => ⟨_, rfl, rfl, rfl, rfl⟩

theorem map_int1 (a : Int) : ([a].map (V.int .i64)) = [V.int .i64 a] := rfl
theorem map_int2 (a b : Int) : ([a, b].map (V.int .i64)) = [V.int .i64 a, V.int .i64 b] := rfl

set_option maxRecDepth 100000 in
theorem f17 (f : Fun) (hf : f.Fits) (σ : H) : Am.Spec Try.prog 17 [eFun f] σ (fun o s => s = σ ∧ o = .ret (intss (graph f))) := by
  have hl := hf.blocks
  refine Spec.clo fun hclo => Spec.weak ?_
  refine Am.Spec.introS mixed [] Try.func17 rfl (by kernel_rfl) 34 rfl [.tmp 2] rfl (by simp) ?_
  simp (maxSteps := 10000000) only [bs, HeldL, aPick, aNil, Fr.eval, Fr.get, ofVal, Am.look, slotOf, aGuardS, ne_eq, reduceCtorEq, if_true, if_false, ite_true, ite_false, reduceIte, exists_eq_left', exists_eq_left, exists_eq', Nat.reduceEqDiff, Nat.reduceLT, Nat.reduceAdd, Nat.reduceLeDiff, Nat.reduceMul, Nat.reduceSub, eq_self_iff_true, forall_const, implies_true, splice, HeldO, imp_self, planOf, Fap33_3, Faq33_3, R31, Lps31, Lsl31, Lsn31, Lw31, Ips31, Isl31, Iw31, R37, Al37, Am37, St37, Fap37_2, Faq37_2, R5, Fap37_4, Faq37_4, R3, Bs38, Fap37_5, Faq37_5, Bs47, Ap47_47, eFun]
  refine W_loopC (St := Nat) (fun i => ⟨34, [(3, aV σ.length i 1), (8, .ps 6 (f.blocks.map eBlock)), (9, .int .i64 f.blocks.length), (10, .int .i64 i)]⟩) (fun i => Stk σ [aN i (flat (((f.blocks.take i).map ways).map ints))]) (fun n i => i + n = f.blocks.length) f.blocks.length 0 (by omega) ?_ ?_
  · refine Weak.stk rfl hclo [none] rfl ?_ ?_ <;> simp (maxSteps := 10000000) only [cb, Am.look, reduceCtorEq, reduceIte, Nat.reduceEqDiff, Nat.reduceAdd, if_true, if_false]
  intro n i hn
  have hil : ((f.blocks.take i).map ways).length = i := by simp; omega
  have hrow := enc_ints.len ((f.blocks.take i).map ways)
  by_cases hlt : i < f.blocks.length
  · obtain ⟨x, hx⟩ := at_of_lt hlt
    have ht : (f.blocks.take (i + 1)).map ways = (f.blocks.take i).map ways ++ [ways x] := by rw [take_succ_of hx]; simp
    simp (maxSteps := 10000000) only [bs, HeldL, aPick, aNil, Fr.eval, Fr.get, ofVal, Am.look, slotOf, aGuardS, ne_eq, reduceCtorEq, if_true, if_false, ite_true, ite_false, reduceIte, exists_eq_left', exists_eq_left, exists_eq', Nat.reduceEqDiff, Nat.reduceLT, Nat.reduceAdd, Nat.reduceLeDiff, Nat.reduceMul, Nat.reduceSub, eq_self_iff_true, forall_const, implies_true, splice, HeldO, imp_self, planOf, Fap33_3, Faq33_3, R31, Lps31, Lsl31, Lsn31, Lw31, Ips31, Isl31, Iw31, R37, Al37, Am37, St37, Fap37_2, Faq37_2, R5, Fap37_4, Faq37_4, R3, Bs38, Fap37_5, Faq37_5, Bs47, Ap47_47, hlt, hx, eBlock, eInsts, wrap_succ (show i ≤ big by omega)]
    refine ⟨fun h1 => ⟨fun h2 => by omega, fun h2 => ?_⟩, fun h1 => ⟨fun h2 => ?_, fun h2 => ?_⟩⟩
    · refine ⟨by simp only [big] at *; omega, by simp only [big] at *; omega, by rw [hrow, hil]; omega, ?_⟩
      have hw : ways x = [x.to] := by simp [ways, h1, h2]
      refine RndC.mk (n - 1) (i + 1) (by omega) (by omega) ?_
      refine Weak.stk rfl hclo [some 4] rfl ?_ ?_ <;> simp (maxSteps := 10000000) only [cb, Am.look, reduceCtorEq, reduceIte, Nat.reduceEqDiff, Nat.reduceAdd, if_true, if_false]
      rw [ht, hw]
      refine RowCn.snoc enc_ints hil.symm rfl ?_
      simp (maxSteps := 10000000) only [cb, Am.look, reduceCtorEq, reduceIte, Nat.reduceEqDiff, Nat.reduceAdd, if_true, if_false]
      exact Cn.fz (enc_int .i64) (l := [x.to]) rfl (by simp (maxSteps := 10000000) only [cb, Am.look, reduceCtorEq, reduceIte, Nat.reduceEqDiff, Nat.reduceAdd, if_true, if_false]; rfl) (rowAt_stk rfl)
    · refine ⟨by simp only [big] at *; omega, by simp only [big] at *; omega, by rw [hrow, hil]; omega, ?_⟩
      have hw : ways x = [x.to, x.els] := by simp [ways, h1, h2]
      refine RndC.mk (n - 1) (i + 1) (by omega) (by omega) ?_
      refine Weak.stk rfl hclo [some 4] rfl ?_ ?_ <;> simp (maxSteps := 10000000) only [cb, Am.look, reduceCtorEq, reduceIte, Nat.reduceEqDiff, Nat.reduceAdd, if_true, if_false]
      rw [ht, hw]
      refine RowCn.snoc enc_ints hil.symm rfl ?_
      simp (maxSteps := 10000000) only [cb, Am.look, reduceCtorEq, reduceIte, Nat.reduceEqDiff, Nat.reduceAdd, if_true, if_false]
      exact Cn.fz (enc_int .i64) (l := [x.to, x.els]) rfl (by simp (maxSteps := 10000000) only [cb, Am.look, reduceCtorEq, reduceIte, Nat.reduceEqDiff, Nat.reduceAdd, if_true, if_false]; rfl) (rowAt_stk rfl)
    · refine ⟨by simp only [big] at *; omega, by simp only [big] at *; omega, by rw [hrow, hil]; omega, ?_⟩
      have hw : ways x = [] := by simp [ways, h1, h2]
      refine RndC.mk (n - 1) (i + 1) (by omega) (by omega) ?_
      refine Weak.stk rfl hclo [some 3] rfl ?_ ?_ <;> simp (maxSteps := 10000000) only [cb, Am.look, reduceCtorEq, reduceIte, Nat.reduceEqDiff, Nat.reduceAdd, if_true, if_false]
      rw [ht, hw]
      refine RowCn.snoc enc_ints hil.symm rfl ?_
      simp (maxSteps := 10000000) only [cb, Am.look, reduceCtorEq, reduceIte, Nat.reduceEqDiff, Nat.reduceAdd, if_true, if_false]
      exact Cn_snil_ps.2 trivial
  · simp (maxSteps := 10000000) only [bs, HeldL, aPick, aNil, Fr.eval, Fr.get, ofVal, Am.look, slotOf, aGuardS, ne_eq, reduceCtorEq, if_true, if_false, ite_true, ite_false, reduceIte, exists_eq_left', exists_eq_left, exists_eq', Nat.reduceEqDiff, Nat.reduceLT, Nat.reduceAdd, Nat.reduceLeDiff, Nat.reduceMul, Nat.reduceSub, eq_self_iff_true, forall_const, implies_true, splice, HeldO, imp_self, planOf, Fap33_3, Faq33_3, R31, Lps31, Lsl31, Lsn31, Lw31, Ips31, Isl31, Iw31, R37, Al37, Am37, St37, Fap37_2, Faq37_2, R5, Fap37_4, Faq37_4, R3, Bs38, Fap37_5, Faq37_5, Bs47, Ap47_47, hlt]
    obtain rfl : i = f.blocks.length := by omega
    rw [List.take_length]
    exact SetQ.done rfl hclo (Cn.fzV enc_ints (by simp) (by simp (maxSteps := 10000000) only [cb, Am.look, reduceCtorEq, reduceIte, Nat.reduceEqDiff, Nat.reduceAdd, if_true, if_false]; rfl) (get_stk0 rfl)) ⟨rfl, rfl⟩

/-- The first k nodes' ways. -/
def rowG (l : List Block) (k : Nat) : List V := l.mapIdx fun j b => if j < k then ints (ways b) else .snil
theorem rowG_get {l : List Block} {k j : Nat} : (rowG l k)[j]? = (l[j]?).map fun b => if j < k then ints (ways b) else .snil := by simp [rowG]
theorem rowG_len {l : List Block} {k : Nat} : (rowG l k).length = l.length := by simp [rowG]

set_option maxRecDepth 100000 in
theorem f15 (f : Fun) (hf : f.Fits) (σ : H) : Am.Spec Try.prog 15 [eFun f] σ (fun o s => s = σ ∧ o = .ret (intss (graph f))) := by
  have hl := hf.blocks
  refine Spec.clo fun hclo => Spec.weak ?_
  refine Am.Spec.introS mixed [] Try.func15 rfl (by kernel_rfl) 40 rfl [.tmp 2] rfl (by simp) ?_
  simp (maxSteps := 10000000) only [bs, HeldL, aPick, aNil, Fr.eval, Fr.get, ofVal, Am.look, slotOf, aGuardS, ne_eq, reduceCtorEq, if_true, if_false, ite_true, ite_false, reduceIte, exists_eq_left', exists_eq_left, exists_eq', Nat.reduceEqDiff, Nat.reduceLT, Nat.reduceAdd, Nat.reduceLeDiff, Nat.reduceMul, Nat.reduceSub, eq_self_iff_true, forall_const, implies_true, splice, HeldO, imp_self, planOf, Fap33_3, Faq33_3, R31, Lps31, Lsl31, Lsn31, Lw31, Mk47, Ips31, Isl31, Iw31, R37, Al37, Am37, St37, Fap37_2, Faq37_2, R5, Fap37_4, Faq37_4, R3, Fap37_5, Faq37_5, Bs38, Ips47, Isl47, Iw47, St38, eFun]
  refine ⟨by omega, by simp only [big] at *; omega, by simp only [big] at *; omega, ?_⟩
  refine W_loopC (St := Nat) (fun i => ⟨40, [(3, .sl σ.length 0 f.blocks.length 1), (11, .ps 6 (f.blocks.map eBlock)), (12, .int .i64 f.blocks.length), (13, .int .i64 i)]⟩) (fun i => Stk σ [some (.row (rowG f.blocks i))]) (fun n i => i + n = f.blocks.length) f.blocks.length 0 (by omega) ?_ ?_
  · refine Weak.stk rfl hclo [some 1] rfl ?_ ?_ <;> simp (maxSteps := 10000000) only [cb, Am.look, reduceCtorEq, reduceIte, Nat.reduceEqDiff, Nat.reduceAdd, if_true, if_false]
    intro j c hj
    rw [rowG_get] at hj
    obtain ⟨b, hb, rfl⟩ := map_some hj
    have hjl := lt_of_some hb
    exact ⟨.snil, by rw [zeros_one]; simp [hjl], by rw [if_neg (by omega)]; exact Cn.same rfl⟩
  intro n i hn
  have step : ∀ {s : H} {old : Nat → Option Nat} {N : Nat → Prop} {x : Block} {v : V}, f.blocks[i]? = some x → Cn s old N v (ints (ways x)) → RowCn s old N ((rowG f.blocks i).set (i * 1) v) (rowG f.blocks (i + 1)) := fun {s old N x v} hx hv j c hj => by
    rw [rowG_get] at hj
    obtain ⟨b, hb, rfl⟩ := map_some hj
    have hjl := lt_of_some hb
    rw [Nat.mul_one]
    by_cases q : i = j
    · subst q
      rw [hx] at hb; cases hb
      exact ⟨v, List.getElem?_set_self (by rw [rowG_len]; exact hjl), by rw [if_pos (by omega)]; exact hv⟩
    · refine ⟨if j < i then ints (ways b) else .snil, by rw [List.getElem?_set_ne q, rowG_get, hb]; rfl, ?_⟩
      by_cases q2 : j < i
      · rw [if_pos q2, if_pos (by omega)]; exact Cn.same rfl
      · rw [if_neg q2, if_neg (by omega)]; exact Cn.same rfl
  by_cases hlt : i < f.blocks.length
  · obtain ⟨x, hx⟩ := at_of_lt hlt
    simp (maxSteps := 10000000) only [bs, HeldL, aPick, aNil, Fr.eval, Fr.get, ofVal, Am.look, slotOf, aGuardS, ne_eq, reduceCtorEq, if_true, if_false, ite_true, ite_false, reduceIte, exists_eq_left', exists_eq_left, exists_eq', Nat.reduceEqDiff, Nat.reduceLT, Nat.reduceAdd, Nat.reduceLeDiff, Nat.reduceMul, Nat.reduceSub, eq_self_iff_true, forall_const, implies_true, splice, HeldO, imp_self, planOf, Fap33_3, Faq33_3, R31, Lps31, Lsl31, Lsn31, Lw31, Mk47, Ips31, Isl31, Iw31, R37, Al37, Am37, St37, Fap37_2, Faq37_2, R5, Fap37_4, Faq37_4, R3, Fap37_5, Faq37_5, Bs38, Ips47, Isl47, Iw47, St38, hlt, hx, eBlock, eInsts, wrap_succ (show i ≤ big by omega), rowG_len]
    refine ⟨fun h1 => ⟨by omega, ?_⟩, fun h1 => ⟨fun h2 => ⟨by omega, ?_⟩, fun h2 => ?_⟩⟩
    · have hw : ways x = [x.to, x.els] := by simp [ways, h1]
      refine RndC.mk (n - 1) (i + 1) (by omega) (by omega) ?_
      refine Weak.stk rfl hclo [some 0] rfl ?_ ?_ <;> simp (maxSteps := 10000000) only [cb, Am.look, reduceCtorEq, reduceIte, Nat.reduceEqDiff, Nat.reduceAdd, if_true, if_false]
      refine step hx ?_
      rw [hw]
      exact Cn.fz (enc_int .i64) (l := [x.to, x.els]) rfl (by simp (maxSteps := 10000000) only [cb, Am.look, reduceCtorEq, reduceIte, Nat.reduceEqDiff, Nat.reduceAdd, if_true, if_false]; rfl) (rowAt_stk rfl)
    · have hw : ways x = [x.to] := by simp [ways, h1, h2]
      refine RndC.mk (n - 1) (i + 1) (by omega) (by omega) ?_
      refine Weak.stk rfl hclo [some 0] rfl ?_ ?_ <;> simp (maxSteps := 10000000) only [cb, Am.look, reduceCtorEq, reduceIte, Nat.reduceEqDiff, Nat.reduceAdd, if_true, if_false]
      refine step hx ?_
      rw [hw]
      exact Cn.fz (enc_int .i64) (l := [x.to]) rfl (by simp (maxSteps := 10000000) only [cb, Am.look, reduceCtorEq, reduceIte, Nat.reduceEqDiff, Nat.reduceAdd, if_true, if_false]; rfl) (rowAt_stk rfl)
    · have hw : ways x = [] := by simp [ways, h1, h2]
      refine RndC.mk (n - 1) (i + 1) (by omega) (by omega) ?_
      refine Weak.stk rfl hclo [some 0] rfl ?_ ?_ <;> simp (maxSteps := 10000000) only [cb, Am.look, reduceCtorEq, reduceIte, Nat.reduceEqDiff, Nat.reduceAdd, if_true, if_false]
      have hs : (rowG f.blocks i).set (i * 1) .snil = rowG f.blocks i := by
        apply List.ext_getElem?
        intro j
        rw [Nat.mul_one]
        by_cases q : i = j
        · subst q
          rw [List.getElem?_set_self (by rw [rowG_len]; exact hlt), rowG_get, hx]
          simp
        · rw [List.getElem?_set_ne q]
      rw [← hs]
      refine step hx ?_
      rw [hw]
      exact Cn_snil_ps.2 trivial
  · simp (maxSteps := 10000000) only [bs, HeldL, aPick, aNil, Fr.eval, Fr.get, ofVal, Am.look, slotOf, aGuardS, ne_eq, reduceCtorEq, if_true, if_false, ite_true, ite_false, reduceIte, exists_eq_left', exists_eq_left, exists_eq', Nat.reduceEqDiff, Nat.reduceLT, Nat.reduceAdd, Nat.reduceLeDiff, Nat.reduceMul, Nat.reduceSub, eq_self_iff_true, forall_const, implies_true, splice, HeldO, imp_self, planOf, Fap33_3, Faq33_3, R31, Lps31, Lsl31, Lsn31, Lw31, Mk47, Ips31, Isl31, Iw31, R37, Al37, Am37, St37, Fap37_2, Faq37_2, R5, Fap37_4, Faq37_4, R3, Fap37_5, Faq37_5, Bs38, Ips47, Isl47, Iw47, St38, hlt]
    obtain rfl : i = f.blocks.length := by omega
    have hr : rowG f.blocks f.blocks.length = flat (((f.blocks).map ways).map ints) := by
      rw [flat_ones (f := ints) (fun a => rfl)]
      apply List.ext_getElem?
      intro j
      rw [rowG_get, List.getElem?_map, List.getElem?_map]
      cases hb : f.blocks[j]? with
      | none => rfl
      | some b => simp [lt_of_some hb]
    rw [hr]
    exact SetQ.done rfl hclo (Cn.fz enc_ints (l := f.blocks.map ways) (by simp) (by simp (maxSteps := 10000000) only [cb, Am.look, reduceCtorEq, reduceIte, Nat.reduceEqDiff, Nat.reduceAdd, if_true, if_false]; rfl) (rowAt_stk0 rfl)) ⟨rfl, rfl⟩
end Go.Proofs.Ytbnegbjaoiplmaa
