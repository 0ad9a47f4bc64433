/- Small functions of lists. -/
import Derived.Test.YtbnegbjaoiplmaaTy
import Derived.Test.YtbnegbjaoiplmaaTz
set_option linter.unusedVariables false
set_option linter.unusedSimpArgs false
namespace Go.Proofs.Ytbnegbjaoiplmaa
open Go Go.Am

/-- No list is longer. -/
abbrev big : Nat := 1000000000000

def ints (l : List Int) : V := .ps 1 (l.map (.int .i64))

theorem wrap_succ {i : Nat} (h : i ≤ big) : IntKind.i64.wrap ((i : Int) + 1) = ((i + 1 : Nat) : Int) := by
  rw [wrap_i64 (by omega) (by simp only [big] at h; omega)]
  simp

theorem at_of_lt {α : Type} {l : List α} {i : Nat} (h : i < l.length) : ∃ x, l[i]? = some x := ⟨_, List.getElem?_eq_getElem h⟩

theorem take_succ_of {α : Type} {l : List α} {i : Nat} {x : α} (h : l[i]? = some x) : l.take (i + 1) = l.take i ++ [x] := by
  rw [List.take_add_one, h]; rfl

theorem f36 (a b : List Int) (ha : a.length ≤ big) (σ : H) : Am.Spec Try.prog 36 [ints a, ints b] σ (fun o s => s = σ ∧ o = .ret (.bool (decide (a = b)))) := by
  refine Am.Spec.introW mixed pl36 Try.func36 rfl (by kernel_rfl) 26 rfl [.tmp 4] rfl (by simp) ?_
  simp (maxSteps := 10000000) only [bs, HeldL, aPick, aNil, Fr.eval, Fr.get, ofVal, Am.look, slotOf, aGuardS, ne_eq, reduceCtorEq, if_true, if_false, ite_true, ite_false, reduceIte, exists_eq_left', exists_eq_left, exists_eq', Nat.reduceEqDiff, Nat.reduceLT, Nat.reduceAdd, Nat.reduceLeDiff, Nat.reduceMul, Nat.reduceSub, eq_self_iff_true, forall_const, implies_true, splice, HeldO, imp_self, planOf, pl36, Lps38, Lsl38, Lsn38, Lw38, Ips38, Isl38, Iw38, R3, ints]
  refine ⟨fun h => ?_, fun h => ?_⟩
  · have hne : a ≠ b := fun e => h (by rw [e])
    simp [hne]
  have hlen : a.length = b.length := Int.ofNat.inj h
  refine W_loop (fun n f s => s = σ ∧ f.n = 26 ∧ ∃ i : Nat, f.get 13 = .int .i64 i ∧ f.get 12 = .int .i64 a.length ∧ f.get 0 = .ps 1 (a.map (.int .i64)) ∧ f.get 1 = .ps 1 (b.map (.int .i64)) ∧ i + n = a.length ∧ a.take i = b.take i) a.length ?_ ?_
  · exact ⟨rfl, rfl, 0, rfl, rfl, rfl, rfl, by omega, rfl⟩
  rintro n ⟨k, m⟩ s ⟨rfl, hk, i, h13, h12, h0, h1, hn, ht⟩
  simp only [Fr.get] at hk h13 h12 h0 h1
  subst hk
  by_cases hlt : i < a.length
  · obtain ⟨x, hx⟩ := at_of_lt hlt
    obtain ⟨y, hy⟩ := at_of_lt (l := b) (hlen ▸ hlt)
    simp (maxSteps := 10000000) only [bs, HeldL, aPick, aNil, Fr.eval, Fr.get, ofVal, Am.look, slotOf, aGuardS, ne_eq, reduceCtorEq, if_true, if_false, ite_true, ite_false, reduceIte, exists_eq_left', exists_eq_left, exists_eq', Nat.reduceEqDiff, Nat.reduceLT, Nat.reduceAdd, Nat.reduceLeDiff, Nat.reduceMul, Nat.reduceSub, eq_self_iff_true, forall_const, implies_true, splice, HeldO, imp_self, planOf, pl36, Lps38, Lsl38, Lsn38, Lw38, Ips38, Isl38, Iw38, R3, h13, h12, h0, h1, hlt, hx, hy]
    refine ⟨fun hne => ?_, fun he => ⟨n - 1, by omega, i + 1, wrap_succ (by omega), by omega, ?_⟩⟩
    · have : a ≠ b := fun e => hne (by rw [e, hy] at hx; exact (Option.some.inj hx).symm)
      simp [this]
    · rw [take_succ_of hx, take_succ_of hy, ht, he]
  · simp (maxSteps := 10000000) only [bs, HeldL, aPick, aNil, Fr.eval, Fr.get, ofVal, Am.look, slotOf, aGuardS, ne_eq, reduceCtorEq, if_true, if_false, ite_true, ite_false, reduceIte, exists_eq_left', exists_eq_left, exists_eq', Nat.reduceEqDiff, Nat.reduceLT, Nat.reduceAdd, Nat.reduceLeDiff, Nat.reduceMul, Nat.reduceSub, eq_self_iff_true, forall_const, implies_true, splice, HeldO, imp_self, planOf, pl36, Lps38, Lsl38, Lsn38, Lw38, Ips38, Isl38, Iw38, R3, h13, h12, h0, h1, hlt]
    have : a = b := by
      have h1 := List.take_of_length_le (l := a) (i := i) (by omega)
      have h2 := List.take_of_length_le (l := b) (i := i) (by omega)
      rw [← h1, ← h2, ht]
    simp [this]

def intss (l : List (List Int)) : V := .ps 1 (l.map ints)

theorem f16 (a b : List (List Int)) (ha : a.length ≤ big) (hb : ∀ l, l ∈ a → l.length ≤ big) (σ : H) : Am.Spec Try.prog 16 [intss a, intss b] σ (fun o s => s = σ ∧ o = .ret (.bool (decide (a = b)))) := by
  refine Am.Spec.introW mixed pl16 Try.func16 rfl (by kernel_rfl) 27 rfl [.tmp 4] rfl (by simp) ?_
  simp (maxSteps := 10000000) only [bs, HeldL, aPick, aNil, Fr.eval, Fr.get, ofVal, Am.look, slotOf, aGuardS, ne_eq, reduceCtorEq, if_true, if_false, ite_true, ite_false, reduceIte, exists_eq_left', exists_eq_left, exists_eq', Nat.reduceEqDiff, Nat.reduceLT, Nat.reduceAdd, Nat.reduceLeDiff, Nat.reduceMul, Nat.reduceSub, eq_self_iff_true, forall_const, implies_true, splice, HeldO, imp_self, planOf, pl16, Lps47, Lsl47, Lsn47, Lw47, Ips47, Isl47, Iw47, R38, CB36, intss]
  refine ⟨fun h => ?_, fun h => ?_⟩
  · have hne : a ≠ b := fun e => h (by rw [e])
    simp [hne]
  have hlen : a.length = b.length := Int.ofNat.inj h
  refine W_loop (fun n f s => s = σ ∧ f.n = 27 ∧ ∃ i : Nat, f.get 13 = .int .i64 i ∧ f.get 12 = .int .i64 a.length ∧ f.get 0 = .ps 1 (a.map ints) ∧ f.get 1 = .ps 1 (b.map ints) ∧ i + n = a.length ∧ a.take i = b.take i) a.length ?_ ?_
  · exact ⟨rfl, rfl, 0, rfl, rfl, rfl, rfl, by omega, rfl⟩
  rintro n ⟨k, m⟩ s ⟨rfl, hk, i, h13, h12, h0, h1, hn, ht⟩
  simp only [Fr.get] at hk h13 h12 h0 h1
  subst hk
  by_cases hlt : i < a.length
  · obtain ⟨x, hx⟩ := at_of_lt hlt
    obtain ⟨y, hy⟩ := at_of_lt (l := b) (hlen ▸ hlt)
    simp (maxSteps := 10000000) only [bs, HeldL, aPick, aNil, Fr.eval, Fr.get, ofVal, Am.look, slotOf, aGuardS, ne_eq, reduceCtorEq, if_true, if_false, ite_true, ite_false, reduceIte, exists_eq_left', exists_eq_left, exists_eq', Nat.reduceEqDiff, Nat.reduceLT, Nat.reduceAdd, Nat.reduceLeDiff, Nat.reduceMul, Nat.reduceSub, eq_self_iff_true, forall_const, implies_true, splice, HeldO, imp_self, planOf, pl16, Lps47, Lsl47, Lsn47, Lw47, Ips47, Isl47, Iw47, R38, CB36, h13, h12, h0, h1, hlt, hx, hy, ints]
    refine L_of (f36 x y (hb x (List.mem_of_getElem? hx)) s) ?_
    simp (maxSteps := 10000000) only [bs, HeldL, aPick, aNil, Fr.eval, Fr.get, ofVal, Am.look, slotOf, aGuardS, ne_eq, reduceCtorEq, if_true, if_false, ite_true, ite_false, reduceIte, exists_eq_left', exists_eq_left, exists_eq', Nat.reduceEqDiff, Nat.reduceLT, Nat.reduceAdd, Nat.reduceLeDiff, Nat.reduceMul, Nat.reduceSub, eq_self_iff_true, forall_const, implies_true, splice, HeldO, imp_self, planOf, pl16, Lps47, Lsl47, Lsn47, Lw47, Ips47, Isl47, Iw47, R38, CB36, h13, h12, h0, h1, hlt, hx, hy, ints]
    refine ⟨fun he => ⟨n - 1, by omega, i + 1, wrap_succ (by omega), by omega, ?_⟩, fun hne => ?_⟩
    · rw [take_succ_of hx, take_succ_of hy, ht, he]
    · have : a ≠ b := fun e => hne (by rw [e, hy] at hx; exact (Option.some.inj hx).symm)
      simp [this]
  · simp (maxSteps := 10000000) only [bs, HeldL, aPick, aNil, Fr.eval, Fr.get, ofVal, Am.look, slotOf, aGuardS, ne_eq, reduceCtorEq, if_true, if_false, ite_true, ite_false, reduceIte, exists_eq_left', exists_eq_left, exists_eq', Nat.reduceEqDiff, Nat.reduceLT, Nat.reduceAdd, Nat.reduceLeDiff, Nat.reduceMul, Nat.reduceSub, eq_self_iff_true, forall_const, implies_true, splice, HeldO, imp_self, planOf, pl16, Lps47, Lsl47, Lsn47, Lw47, Ips47, Isl47, Iw47, R38, CB36, h13, h12, h0, h1, hlt]
    have : a = b := by
      have h1 := List.take_of_length_le (l := a) (i := i) (by omega)
      have h2 := List.take_of_length_le (l := b) (i := i) (by omega)
      rw [← h1, ← h2, ht]
    simp [this]
end Go.Proofs.Ytbnegbjaoiplmaa
