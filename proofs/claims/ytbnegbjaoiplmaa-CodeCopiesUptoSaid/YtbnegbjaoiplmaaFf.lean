/- Clones of lists. -/
import Derived.Test.YtbnegbjaoiplmaaFe
import Derived.Test.YtbnegbjaoiplmaaAmTr
set_option linter.unusedVariables false
set_option linter.unusedSimpArgs false
namespace Go.Proofs.Ytbnegbjaoiplmaa
open Go Go.Am

/-- What is behind a clone of plain content. -/
def CloneQ (σ : H) (sz : Nat) (xs : List V) : Out → H → Prop := fun o s => (xs = [] ∧ o = .ret .snil ∧ s = σ) ∨ (o = .ret (.sl σ.length 0 xs.length sz) ∧ s = Stk σ [some (.row (flat xs))])

theorem f30 (xs : List V) (h1 : (flat xs).all V.one = true) (h2 : xs.length ≤ big) (h3 : pureL (flat xs) = true) (σ : H) : Am.Spec Try.prog 30 [.ps 4 xs] σ (CloneQ σ 4 xs) := by
  refine Spec.clo fun hclo => Spec.weak ?_
  refine Am.Spec.introS mixed [] Try.func30 rfl (by kernel_rfl) 8 rfl [.tmp 2] rfl (by simp) ?_
  cases xs with
  | nil =>
    simp (maxSteps := 10000000) only [bs, HeldL, aPick, aNil, Fr.eval, Fr.get, ofVal, Am.look, slotOf, aGuardS, ne_eq, reduceCtorEq, if_true, if_false, ite_true, ite_false, reduceIte, exists_eq_left', exists_eq_left, exists_eq', Nat.reduceEqDiff, Nat.reduceLT, Nat.reduceAdd, Nat.reduceLeDiff, Nat.reduceMul, Nat.reduceSub, eq_self_iff_true, forall_const, implies_true, splice, HeldO, imp_self, planOf, Nq22, Bs22, Ap22_22, h1]
    refine ⟨SetQ.done rfl hclo (Cn.same rfl) (.inl ⟨rfl, rfl, rfl⟩), SetQ.stk rfl hclo [some 1] rfl (rows' := [some (.row [])]) ?_ (v' := .sl σ.length 0 0 4) ?_ (.inr ⟨rfl, rfl⟩)⟩
    · simp (maxSteps := 10000000) only [cb, Am.look, reduceCtorEq, reduceIte, Nat.reduceEqDiff, Nat.reduceAdd, if_true, if_false]
    · simp (maxSteps := 10000000) only [cb, Am.look, reduceCtorEq, reduceIte, Nat.reduceEqDiff, Nat.reduceAdd, if_true, if_false]
  | cons x xs =>
    simp (maxSteps := 10000000) only [bs, HeldL, aPick, aNil, Fr.eval, Fr.get, ofVal, Am.look, slotOf, aGuardS, ne_eq, reduceCtorEq, if_true, if_false, ite_true, ite_false, reduceIte, exists_eq_left', exists_eq_left, exists_eq', Nat.reduceEqDiff, Nat.reduceLT, Nat.reduceAdd, Nat.reduceLeDiff, Nat.reduceMul, Nat.reduceSub, eq_self_iff_true, forall_const, implies_true, splice, HeldO, imp_self, planOf, Nq22, Bs22, Ap22_22, h1]
    refine ⟨by simp only [big, List.length_cons] at h2; omega, by simp only [big, List.length_cons] at h2; omega, ?_⟩
    refine SetQ.stk rfl hclo [some 1] rfl (rows' := [some (.row (flat (x :: xs)))]) ?_ (v' := .sl σ.length 0 (xs.length + 1) 4) ?_ (.inr ⟨rfl, rfl⟩)
    · simp (maxSteps := 10000000) only [cb, Am.look, reduceCtorEq, reduceIte, Nat.reduceEqDiff, Nat.reduceAdd, if_true, if_false]; exact RowCn.same h3
    · simp (maxSteps := 10000000) only [cb, Am.look, reduceCtorEq, reduceIte, Nat.reduceEqDiff, Nat.reduceAdd, if_true, if_false]
theorem f31 (xs : List V) (h1 : (flat xs).all V.one = true) (h2 : xs.length ≤ big) (h3 : pureL (flat xs) = true) (σ : H) : Am.Spec Try.prog 31 [.ps 1 xs] σ (CloneQ σ 1 xs) := by
  refine Spec.clo fun hclo => Spec.weak ?_
  refine Am.Spec.introS mixed [] Try.func31 rfl (by kernel_rfl) 8 rfl [.tmp 2] rfl (by simp) ?_
  cases xs with
  | nil =>
    simp (maxSteps := 10000000) only [bs, HeldL, aPick, aNil, Fr.eval, Fr.get, ofVal, Am.look, slotOf, aGuardS, ne_eq, reduceCtorEq, if_true, if_false, ite_true, ite_false, reduceIte, exists_eq_left', exists_eq_left, exists_eq', Nat.reduceEqDiff, Nat.reduceLT, Nat.reduceAdd, Nat.reduceLeDiff, Nat.reduceMul, Nat.reduceSub, eq_self_iff_true, forall_const, implies_true, splice, HeldO, imp_self, planOf, Nq23, Bs23, Ap23_23, h1]
    refine ⟨SetQ.done rfl hclo (Cn.same rfl) (.inl ⟨rfl, rfl, rfl⟩), SetQ.stk rfl hclo [some 1] rfl (rows' := [some (.row [])]) ?_ (v' := .sl σ.length 0 0 1) ?_ (.inr ⟨rfl, rfl⟩)⟩
    · simp (maxSteps := 10000000) only [cb, Am.look, reduceCtorEq, reduceIte, Nat.reduceEqDiff, Nat.reduceAdd, if_true, if_false]
    · simp (maxSteps := 10000000) only [cb, Am.look, reduceCtorEq, reduceIte, Nat.reduceEqDiff, Nat.reduceAdd, if_true, if_false]
  | cons x xs =>
    simp (maxSteps := 10000000) only [bs, HeldL, aPick, aNil, Fr.eval, Fr.get, ofVal, Am.look, slotOf, aGuardS, ne_eq, reduceCtorEq, if_true, if_false, ite_true, ite_false, reduceIte, exists_eq_left', exists_eq_left, exists_eq', Nat.reduceEqDiff, Nat.reduceLT, Nat.reduceAdd, Nat.reduceLeDiff, Nat.reduceMul, Nat.reduceSub, eq_self_iff_true, forall_const, implies_true, splice, HeldO, imp_self, planOf, Nq23, Bs23, Ap23_23, h1]
    refine ⟨by simp only [big, List.length_cons] at h2; omega, by simp only [big, List.length_cons] at h2; omega, ?_⟩
    refine SetQ.stk rfl hclo [some 1] rfl (rows' := [some (.row (flat (x :: xs)))]) ?_ (v' := .sl σ.length 0 (xs.length + 1) 1) ?_ (.inr ⟨rfl, rfl⟩)
    · simp (maxSteps := 10000000) only [cb, Am.look, reduceCtorEq, reduceIte, Nat.reduceEqDiff, Nat.reduceAdd, if_true, if_false]; exact RowCn.same h3
    · simp (maxSteps := 10000000) only [cb, Am.look, reduceCtorEq, reduceIte, Nat.reduceEqDiff, Nat.reduceAdd, if_true, if_false]
theorem f32 (xs : List V) (h1 : (flat xs).all V.one = true) (h2 : xs.length ≤ big) (h3 : pureL (flat xs) = true) (σ : H) : Am.Spec Try.prog 32 [.ps 2 xs] σ (CloneQ σ 2 xs) := by
  refine Spec.clo fun hclo => Spec.weak ?_
  refine Am.Spec.introS mixed [] Try.func32 rfl (by kernel_rfl) 8 rfl [.tmp 2] rfl (by simp) ?_
  cases xs with
  | nil =>
    simp (maxSteps := 10000000) only [bs, HeldL, aPick, aNil, Fr.eval, Fr.get, ofVal, Am.look, slotOf, aGuardS, ne_eq, reduceCtorEq, if_true, if_false, ite_true, ite_false, reduceIte, exists_eq_left', exists_eq_left, exists_eq', Nat.reduceEqDiff, Nat.reduceLT, Nat.reduceAdd, Nat.reduceLeDiff, Nat.reduceMul, Nat.reduceSub, eq_self_iff_true, forall_const, implies_true, splice, HeldO, imp_self, planOf, Nq50, Bs50, Ap50_50, h1]
    refine ⟨SetQ.done rfl hclo (Cn.same rfl) (.inl ⟨rfl, rfl, rfl⟩), SetQ.stk rfl hclo [some 1] rfl (rows' := [some (.row [])]) ?_ (v' := .sl σ.length 0 0 2) ?_ (.inr ⟨rfl, rfl⟩)⟩
    · simp (maxSteps := 10000000) only [cb, Am.look, reduceCtorEq, reduceIte, Nat.reduceEqDiff, Nat.reduceAdd, if_true, if_false]
    · simp (maxSteps := 10000000) only [cb, Am.look, reduceCtorEq, reduceIte, Nat.reduceEqDiff, Nat.reduceAdd, if_true, if_false]
  | cons x xs =>
    simp (maxSteps := 10000000) only [bs, HeldL, aPick, aNil, Fr.eval, Fr.get, ofVal, Am.look, slotOf, aGuardS, ne_eq, reduceCtorEq, if_true, if_false, ite_true, ite_false, reduceIte, exists_eq_left', exists_eq_left, exists_eq', Nat.reduceEqDiff, Nat.reduceLT, Nat.reduceAdd, Nat.reduceLeDiff, Nat.reduceMul, Nat.reduceSub, eq_self_iff_true, forall_const, implies_true, splice, HeldO, imp_self, planOf, Nq50, Bs50, Ap50_50, h1]
    refine ⟨by simp only [big, List.length_cons] at h2; omega, by simp only [big, List.length_cons] at h2; omega, ?_⟩
    refine SetQ.stk rfl hclo [some 1] rfl (rows' := [some (.row (flat (x :: xs)))]) ?_ (v' := .sl σ.length 0 (xs.length + 1) 2) ?_ (.inr ⟨rfl, rfl⟩)
    · simp (maxSteps := 10000000) only [cb, Am.look, reduceCtorEq, reduceIte, Nat.reduceEqDiff, Nat.reduceAdd, if_true, if_false]; exact RowCn.same h3
    · simp (maxSteps := 10000000) only [cb, Am.look, reduceCtorEq, reduceIte, Nat.reduceEqDiff, Nat.reduceAdd, if_true, if_false]
theorem f33 (xs : List V) (h1 : (flat xs).all V.one = true) (h2 : xs.length ≤ big) (h3 : pureL (flat xs) = true) (σ : H) : Am.Spec Try.prog 33 [.ps 6 xs] σ (CloneQ σ 6 xs) := by
  refine Spec.clo fun hclo => Spec.weak ?_
  refine Am.Spec.introS mixed [] Try.func33 rfl (by kernel_rfl) 8 rfl [.tmp 2] rfl (by simp) ?_
  cases xs with
  | nil =>
    simp (maxSteps := 10000000) only [bs, HeldL, aPick, aNil, Fr.eval, Fr.get, ofVal, Am.look, slotOf, aGuardS, ne_eq, reduceCtorEq, if_true, if_false, ite_true, ite_false, reduceIte, exists_eq_left', exists_eq_left, exists_eq', Nat.reduceEqDiff, Nat.reduceLT, Nat.reduceAdd, Nat.reduceLeDiff, Nat.reduceMul, Nat.reduceSub, eq_self_iff_true, forall_const, implies_true, splice, HeldO, imp_self, planOf, Nq31, Bs31, Ap31_31, h1]
    refine ⟨SetQ.done rfl hclo (Cn.same rfl) (.inl ⟨rfl, rfl, rfl⟩), SetQ.stk rfl hclo [some 1] rfl (rows' := [some (.row [])]) ?_ (v' := .sl σ.length 0 0 6) ?_ (.inr ⟨rfl, rfl⟩)⟩
    · simp (maxSteps := 10000000) only [cb, Am.look, reduceCtorEq, reduceIte, Nat.reduceEqDiff, Nat.reduceAdd, if_true, if_false]
    · simp (maxSteps := 10000000) only [cb, Am.look, reduceCtorEq, reduceIte, Nat.reduceEqDiff, Nat.reduceAdd, if_true, if_false]
  | cons x xs =>
    simp (maxSteps := 10000000) only [bs, HeldL, aPick, aNil, Fr.eval, Fr.get, ofVal, Am.look, slotOf, aGuardS, ne_eq, reduceCtorEq, if_true, if_false, ite_true, ite_false, reduceIte, exists_eq_left', exists_eq_left, exists_eq', Nat.reduceEqDiff, Nat.reduceLT, Nat.reduceAdd, Nat.reduceLeDiff, Nat.reduceMul, Nat.reduceSub, eq_self_iff_true, forall_const, implies_true, splice, HeldO, imp_self, planOf, Nq31, Bs31, Ap31_31, h1]
    refine ⟨by simp only [big, List.length_cons] at h2; omega, by simp only [big, List.length_cons] at h2; omega, ?_⟩
    refine SetQ.stk rfl hclo [some 1] rfl (rows' := [some (.row (flat (x :: xs)))]) ?_ (v' := .sl σ.length 0 (xs.length + 1) 6) ?_ (.inr ⟨rfl, rfl⟩)
    · simp (maxSteps := 10000000) only [cb, Am.look, reduceCtorEq, reduceIte, Nat.reduceEqDiff, Nat.reduceAdd, if_true, if_false]; exact RowCn.same h3
    · simp (maxSteps := 10000000) only [cb, Am.look, reduceCtorEq, reduceIte, Nat.reduceEqDiff, Nat.reduceAdd, if_true, if_false]
theorem f60 (xs : List V) (h1 : (flat xs).all V.one = true) (h2 : xs.length ≤ big) (h3 : pureL (flat xs) = true) (σ : H) : Am.Spec Try.prog 60 [.ps 6 xs] σ (CloneQ σ 6 xs) := by
  refine Spec.clo fun hclo => Spec.weak ?_
  refine Am.Spec.introS mixed [] Try.func60 rfl (by kernel_rfl) 8 rfl [.tmp 2] rfl (by simp) ?_
  cases xs with
  | nil =>
    simp (maxSteps := 10000000) only [bs, HeldL, aPick, aNil, Fr.eval, Fr.get, ofVal, Am.look, slotOf, aGuardS, ne_eq, reduceCtorEq, if_true, if_false, ite_true, ite_false, reduceIte, exists_eq_left', exists_eq_left, exists_eq', Nat.reduceEqDiff, Nat.reduceLT, Nat.reduceAdd, Nat.reduceLeDiff, Nat.reduceMul, Nat.reduceSub, eq_self_iff_true, forall_const, implies_true, splice, HeldO, imp_self, planOf, Nq35, Bs35, Ap35_35, h1]
    refine ⟨SetQ.done rfl hclo (Cn.same rfl) (.inl ⟨rfl, rfl, rfl⟩), SetQ.stk rfl hclo [some 1] rfl (rows' := [some (.row [])]) ?_ (v' := .sl σ.length 0 0 6) ?_ (.inr ⟨rfl, rfl⟩)⟩
    · simp (maxSteps := 10000000) only [cb, Am.look, reduceCtorEq, reduceIte, Nat.reduceEqDiff, Nat.reduceAdd, if_true, if_false]
    · simp (maxSteps := 10000000) only [cb, Am.look, reduceCtorEq, reduceIte, Nat.reduceEqDiff, Nat.reduceAdd, if_true, if_false]
  | cons x xs =>
    simp (maxSteps := 10000000) only [bs, HeldL, aPick, aNil, Fr.eval, Fr.get, ofVal, Am.look, slotOf, aGuardS, ne_eq, reduceCtorEq, if_true, if_false, ite_true, ite_false, reduceIte, exists_eq_left', exists_eq_left, exists_eq', Nat.reduceEqDiff, Nat.reduceLT, Nat.reduceAdd, Nat.reduceLeDiff, Nat.reduceMul, Nat.reduceSub, eq_self_iff_true, forall_const, implies_true, splice, HeldO, imp_self, planOf, Nq35, Bs35, Ap35_35, h1]
    refine ⟨by simp only [big, List.length_cons] at h2; omega, by simp only [big, List.length_cons] at h2; omega, ?_⟩
    refine SetQ.stk rfl hclo [some 1] rfl (rows' := [some (.row (flat (x :: xs)))]) ?_ (v' := .sl σ.length 0 (xs.length + 1) 6) ?_ (.inr ⟨rfl, rfl⟩)
    · simp (maxSteps := 10000000) only [cb, Am.look, reduceCtorEq, reduceIte, Nat.reduceEqDiff, Nat.reduceAdd, if_true, if_false]; exact RowCn.same h3
    · simp (maxSteps := 10000000) only [cb, Am.look, reduceCtorEq, reduceIte, Nat.reduceEqDiff, Nat.reduceAdd, if_true, if_false]
theorem f61 (xs : List V) (h1 : (flat xs).all V.one = true) (h2 : xs.length ≤ big) (h3 : pureL (flat xs) = true) (σ : H) : Am.Spec Try.prog 61 [.ps 1 xs] σ (CloneQ σ 1 xs) := by
  refine Spec.clo fun hclo => Spec.weak ?_
  refine Am.Spec.introS mixed [] Try.func61 rfl (by kernel_rfl) 8 rfl [.tmp 2] rfl (by simp) ?_
  cases xs with
  | nil =>
    simp (maxSteps := 10000000) only [bs, HeldL, aPick, aNil, Fr.eval, Fr.get, ofVal, Am.look, slotOf, aGuardS, ne_eq, reduceCtorEq, if_true, if_false, ite_true, ite_false, reduceIte, exists_eq_left', exists_eq_left, exists_eq', Nat.reduceEqDiff, Nat.reduceLT, Nat.reduceAdd, Nat.reduceLeDiff, Nat.reduceMul, Nat.reduceSub, eq_self_iff_true, forall_const, implies_true, splice, HeldO, imp_self, planOf, Nq38, Bs38, Ap38_38, h1]
    refine ⟨SetQ.done rfl hclo (Cn.same rfl) (.inl ⟨rfl, rfl, rfl⟩), SetQ.stk rfl hclo [some 1] rfl (rows' := [some (.row [])]) ?_ (v' := .sl σ.length 0 0 1) ?_ (.inr ⟨rfl, rfl⟩)⟩
    · simp (maxSteps := 10000000) only [cb, Am.look, reduceCtorEq, reduceIte, Nat.reduceEqDiff, Nat.reduceAdd, if_true, if_false]
    · simp (maxSteps := 10000000) only [cb, Am.look, reduceCtorEq, reduceIte, Nat.reduceEqDiff, Nat.reduceAdd, if_true, if_false]
  | cons x xs =>
    simp (maxSteps := 10000000) only [bs, HeldL, aPick, aNil, Fr.eval, Fr.get, ofVal, Am.look, slotOf, aGuardS, ne_eq, reduceCtorEq, if_true, if_false, ite_true, ite_false, reduceIte, exists_eq_left', exists_eq_left, exists_eq', Nat.reduceEqDiff, Nat.reduceLT, Nat.reduceAdd, Nat.reduceLeDiff, Nat.reduceMul, Nat.reduceSub, eq_self_iff_true, forall_const, implies_true, splice, HeldO, imp_self, planOf, Nq38, Bs38, Ap38_38, h1]
    refine ⟨by simp only [big, List.length_cons] at h2; omega, by simp only [big, List.length_cons] at h2; omega, ?_⟩
    refine SetQ.stk rfl hclo [some 1] rfl (rows' := [some (.row (flat (x :: xs)))]) ?_ (v' := .sl σ.length 0 (xs.length + 1) 1) ?_ (.inr ⟨rfl, rfl⟩)
    · simp (maxSteps := 10000000) only [cb, Am.look, reduceCtorEq, reduceIte, Nat.reduceEqDiff, Nat.reduceAdd, if_true, if_false]; exact RowCn.same h3
    · simp (maxSteps := 10000000) only [cb, Am.look, reduceCtorEq, reduceIte, Nat.reduceEqDiff, Nat.reduceAdd, if_true, if_false]
theorem f62 (xs : List V) (h1 : (flat xs).all V.one = true) (h2 : xs.length ≤ big) (h3 : pureL (flat xs) = true) (σ : H) : Am.Spec Try.prog 62 [.ps 6 xs] σ (CloneQ σ 6 xs) := by
  refine Spec.clo fun hclo => Spec.weak ?_
  refine Am.Spec.introS mixed [] Try.func62 rfl (by kernel_rfl) 8 rfl [.tmp 2] rfl (by simp) ?_
  cases xs with
  | nil =>
    simp (maxSteps := 10000000) only [bs, HeldL, aPick, aNil, Fr.eval, Fr.get, ofVal, Am.look, slotOf, aGuardS, ne_eq, reduceCtorEq, if_true, if_false, ite_true, ite_false, reduceIte, exists_eq_left', exists_eq_left, exists_eq', Nat.reduceEqDiff, Nat.reduceLT, Nat.reduceAdd, Nat.reduceLeDiff, Nat.reduceMul, Nat.reduceSub, eq_self_iff_true, forall_const, implies_true, splice, HeldO, imp_self, planOf, Nq39, Bs39, Ap39_39, h1]
    refine ⟨SetQ.done rfl hclo (Cn.same rfl) (.inl ⟨rfl, rfl, rfl⟩), SetQ.stk rfl hclo [some 1] rfl (rows' := [some (.row [])]) ?_ (v' := .sl σ.length 0 0 6) ?_ (.inr ⟨rfl, rfl⟩)⟩
    · simp (maxSteps := 10000000) only [cb, Am.look, reduceCtorEq, reduceIte, Nat.reduceEqDiff, Nat.reduceAdd, if_true, if_false]
    · simp (maxSteps := 10000000) only [cb, Am.look, reduceCtorEq, reduceIte, Nat.reduceEqDiff, Nat.reduceAdd, if_true, if_false]
  | cons x xs =>
    simp (maxSteps := 10000000) only [bs, HeldL, aPick, aNil, Fr.eval, Fr.get, ofVal, Am.look, slotOf, aGuardS, ne_eq, reduceCtorEq, if_true, if_false, ite_true, ite_false, reduceIte, exists_eq_left', exists_eq_left, exists_eq', Nat.reduceEqDiff, Nat.reduceLT, Nat.reduceAdd, Nat.reduceLeDiff, Nat.reduceMul, Nat.reduceSub, eq_self_iff_true, forall_const, implies_true, splice, HeldO, imp_self, planOf, Nq39, Bs39, Ap39_39, h1]
    refine ⟨by simp only [big, List.length_cons] at h2; omega, by simp only [big, List.length_cons] at h2; omega, ?_⟩
    refine SetQ.stk rfl hclo [some 1] rfl (rows' := [some (.row (flat (x :: xs)))]) ?_ (v' := .sl σ.length 0 (xs.length + 1) 6) ?_ (.inr ⟨rfl, rfl⟩)
    · simp (maxSteps := 10000000) only [cb, Am.look, reduceCtorEq, reduceIte, Nat.reduceEqDiff, Nat.reduceAdd, if_true, if_false]; exact RowCn.same h3
    · simp (maxSteps := 10000000) only [cb, Am.look, reduceCtorEq, reduceIte, Nat.reduceEqDiff, Nat.reduceAdd, if_true, if_false]

/-- A clone of plain content, told alike in all cases. -/
def cV (b n sz : Nat) : V := if n = 0 then .ps sz [] else .sl b 0 n sz
theorem cV_one {b n sz : Nat} : (cV b n sz).one = true := by unfold cV; split <;> rfl
theorem cV_cells {b n sz : Nat} : (cV b n sz).cells = some [cV b n sz] := by unfold cV; split <;> rfl
theorem cV_len {P : Program} {t e : TypeId} (hu : P.underlying t = some (.slice e)) {s : H} {b n sz : Nat} : aLen P t s (cV b n sz) = some (.int .i64 n) := by
  unfold cV
  split
  · rename_i q; rw [q]; exact Len_ps hu
  · exact Len_sl hu
theorem cV_ix {P : Program} {t e : TypeId} {sz : Nat} (hu : P.underlying t = some (.slice e)) (hs : sizeT P e = some sz) {b n : Nat} {k : IntKind} {i : Int} : aIndexAddr P t (cV b n sz) (.int k i) = if 0 ≤ i ∧ i < n then some (.ptr b (0 + i.toNat * sz)) else none := by
  unfold cV
  split
  · rename_i q
    rw [q, if_neg (by omega), Ix_ps hu hs]
    simp
  · exact Ix_sl hu hs
theorem SpK_cV {n d : Nat} {m : List (Nat × V)} {K : Fr → H → Prop} {σ : H} {b l z : Nat} : SpK n d m K σ (cV b l z) ↔ SetK n d m K σ (cV b l z) := by unfold cV; split <;> exact .rfl

theorem CloneQ.det {P : Program} {g : FuncId} {α : Type} {sz : Nat} {f : α → V} (he : Enc sz f) {l : List α} {σ : H} (h : Am.Spec P g [.ps sz (l.map f)] σ (CloneQ σ sz (l.map f))) : Am.Spec P g [.ps sz (l.map f)] σ (fun o s => o = .ret (cV σ.length l.length sz) ∧ s = Stk σ [aN l.length (flat (l.map f))]) := by
  refine Spec.clo fun hclo => Spec.weak (h.mono fun o s hq => ?_)
  rcases hq with ⟨h1, rfl, rfl⟩ | ⟨rfl, rfl⟩
  · have : l = [] := List.map_eq_nil_iff.1 h1
    subst this
    conv => rhs; rw [← Stk_nil s]
    refine SetQ.stk rfl hclo [none] rfl (rows' := [none]) trivial (v' := .ps sz []) ?_ ⟨rfl, rfl⟩
    exact Cn_snil_ps.2 trivial
  · rw [List.length_map]
    by_cases q : l = []
    · subst q
      refine SetQ.stk rfl hclo [none] rfl (rows' := [none]) trivial (v' := .ps sz []) ?_ ⟨rfl, rfl⟩
      exact Cn.fz he (l := []) rfl (by simp (maxSteps := 10000000) only [cb, Am.look, reduceCtorEq, reduceIte, Nat.reduceEqDiff, Nat.reduceAdd, if_true, if_false]; rfl) (rowAt_stk0 rfl)
    · obtain ⟨n, hn⟩ : ∃ n, l.length = n + 1 := by
        cases l with
        | nil => exact absurd rfl q
        | cons a l => exact ⟨_, rfl⟩
      refine SetQ.stk rfl hclo [some 0] rfl (rows' := [some (.row (flat (l.map f)))]) ?_ (v' := .sl σ.length 0 l.length sz) ?_ ⟨by simp [cV, hn], by rw [hn, aN_succ]⟩
      · simp (maxSteps := 10000000) only [cb, Am.look, reduceCtorEq, reduceIte, Nat.reduceEqDiff, Nat.reduceAdd, if_true, if_false]; exact RowCn.same (he.pureL l)
      · simp (maxSteps := 10000000) only [cb, Am.look, reduceCtorEq, reduceIte, Nat.reduceEqDiff, Nat.reduceAdd, if_true, if_false]

theorem g30 (l : List Fun) (h : l.length ≤ big) (σ : H) : Am.Spec Try.prog 30 [.ps 4 (l.map eFun)] σ (fun o s => o = .ret (cV σ.length l.length 4) ∧ s = Stk σ [aN l.length (flat (l.map eFun))]) := (f30 _ (enc_fun.ones l) (by simpa using h) (enc_fun.pureL l) σ |> fun h => CloneQ.det enc_fun h)
theorem g31 (l : List (List Spot)) (h : l.length ≤ big) (σ : H) : Am.Spec Try.prog 31 [.ps 1 (l.map eStop)] σ (fun o s => o = .ret (cV σ.length l.length 1) ∧ s = Stk σ [aN l.length (flat (l.map eStop))]) := CloneQ.det enc_stop (f31 _ (enc_stop.ones l) (by simpa using h) (enc_stop.pureL l) σ)
theorem g32 (l : List Spot) (h : l.length ≤ big) (σ : H) : Am.Spec Try.prog 32 [.ps 2 (l.map eSpot)] σ (fun o s => o = .ret (cV σ.length l.length 2) ∧ s = Stk σ [aN l.length (flat (l.map eSpot))]) := CloneQ.det enc_spot (f32 _ (enc_spot.ones l) (by simpa using h) (enc_spot.pureL l) σ)
theorem g33 (l : List Block) (h : l.length ≤ big) (σ : H) : Am.Spec Try.prog 33 [.ps 6 (l.map eBlock)] σ (fun o s => o = .ret (cV σ.length l.length 6) ∧ s = Stk σ [aN l.length (flat (l.map eBlock))]) := CloneQ.det enc_block (f33 _ (enc_block.ones l) (by simpa using h) (enc_block.pureL l) σ)
end Go.Proofs.Ytbnegbjaoiplmaa
