/- Are two codes the same? The whole. -/
import Derived.Test.YtbnegbjaoiplmaaFc
set_option linter.unusedVariables false
set_option linter.unusedSimpArgs false
namespace Go.Proofs.Ytbnegbjaoiplmaa
open Go Go.Am

structure Block.Fits (b : Block) : Prop where
  phis : b.phis.length ≤ big
  insts : b.insts.length ≤ big
  allP : ∀ x, x ∈ b.phis → x.Fits
  allI : ∀ x, x ∈ b.insts → x.Fits
structure Fun.Fits (f : Fun) : Prop where
  blocks : f.blocks.length ≤ big
  all : ∀ b, b ∈ f.blocks → b.Fits
structure Code.Fits (c : Code) : Prop where
  funs : c.funs.length ≤ big
  stops : c.stops.length ≤ big
  allF : ∀ f, f ∈ c.funs → f.Fits
  allS : ∀ l, l ∈ c.stops → l.length ≤ big

theorem ne_at {α : Type} {l r : List α} {i : Nat} {x y : α} (hx : l[i]? = some x) (hy : r[i]? = some y) (h : x ≠ y) : l ≠ r := fun e => h (by rw [e, hy] at hx; exact (Option.some.inj hx).symm)

theorem eq_of_takes {α : Type} {l r : List α} {i : Nat} (hl : l.length = r.length) (h : ¬ i < l.length) (ht : l.take i = r.take i) : l = r := by
  have h1 := List.take_of_length_le (l := l) (i := i) (by omega)
  have h2 := List.take_of_length_le (l := r) (i := i) (by omega)
  rw [← h1, ← h2, ht]

def rCode (c : Code) : List V := [.ps 4 (c.funs.map eFun), .ps 1 (c.stops.map eStop), .int .i64 c.main]

set_option maxRecDepth 100000 in
set_option maxHeartbeats 2000000 in
theorem f14 (a b : Code) (fa : a.Fits) (σ : H) : Am.Spec Try.prog 14 [eCode a, eCode b] σ (fun o s => s = σ ∧ o = .ret (.bool (decide (a = b)))) := by
  refine Spec.plain1 rfl ?_
  have hneq : a ≠ b → false = decide (a = b) := fun h => by simp [h]
  refine Am.Spec.introS mixed pl14 Try.func14 rfl (by kernel_rfl) 187 rfl [.tmp 4] rfl (by simp) ?_
  simp (maxSteps := 10000000) only [bs, HeldL, aPick, aNil, Fr.eval, Fr.get, ofVal, Am.look, slotOf, aGuardS, ne_eq, reduceCtorEq, if_true, if_false, ite_true, ite_false, reduceIte, exists_eq_left', exists_eq_left, exists_eq', Nat.reduceEqDiff, Nat.reduceLT, Nat.reduceAdd, Nat.reduceLeDiff, Nat.reduceMul, Nat.reduceSub, eq_self_iff_true, forall_const, implies_true, splice, HeldO, imp_self, planOf, pl14, Fap25_2, Faq25_2, R3, Fap25_0, Faq25_0, R22, Lps22, Lsl22, Lsn22, Lw22, Fap25_1, Faq25_1, R23, Lps23, Lsl23, Lsn23, Lw23, Ips23, Isl23, Iw23, R50, Lps50, Lsl50, Lsn50, Lw50, Ips50, Isl50, Iw50, R52, Ips22, Isl22, Iw22, R33, Al33, Am33, St33, Fap33_0, Faq33_0, Fap33_1, Faq33_1, Fap33_2, Faq33_2, Fap33_3, Faq33_3, R31, Lps31, Lsl31, Lsn31, Lw31, Ips31, Isl31, Iw31, R37, Al37, Am37, St37, Fap37_2, Faq37_2, R5, Fap37_3, Faq37_3, Fap37_4, Faq37_4, Fap37_5, Faq37_5, Fap37_0, Faq37_0, R35, CB35, Fap37_1, Faq37_1, eCode, Old.stk (Old.refl σ)]
  refine ⟨fun h => hneq (fun e => h (by rw [e])), fun e1 => ⟨fun h => hneq (fun e => h (by rw [e])), fun e2 => ⟨fun h => hneq (fun e => h (by rw [e])), fun e3 => ?_⟩⟩⟩
  have l2 : a.funs.length = b.funs.length := Int.ofNat.inj e2
  have l3 : a.stops.length = b.stops.length := Int.ofNat.inj e3
  refine W_loop (fun n f s => s = Stk σ [some (.row (rCode a)), some (.row (rCode b))] ∧ f.n = 187 ∧ ∃ i : Nat, f.get 39 = .int .i64 i ∧ f.get 38 = .int .i64 a.stops.length ∧ f.get 2 = .ptr σ.length 0 ∧ f.get 3 = .ptr (σ.length + 1) 0 ∧ i + n = a.stops.length ∧ a.stops.take i = b.stops.take i) a.stops.length ?_ ?_
  · refine ⟨rfl, rfl, 0, rfl, rfl, rfl, rfl, by omega, rfl⟩
  rintro n ⟨k, m⟩ s ⟨rfl, hk, i, g39, g38, g2, g3, hn, ht⟩
  simp only [Fr.get] at hk g39 g38 g2 g3
  subst hk
  by_cases hlt : i < a.stops.length
  · obtain ⟨x, hx⟩ := at_of_lt hlt
    obtain ⟨y, hy⟩ := at_of_lt (l := b.stops) (l3 ▸ hlt)
    simp (maxSteps := 10000000) only [bs, HeldL, aPick, aNil, Fr.eval, Fr.get, ofVal, Am.look, slotOf, aGuardS, ne_eq, reduceCtorEq, if_true, if_false, ite_true, ite_false, reduceIte, exists_eq_left', exists_eq_left, exists_eq', Nat.reduceEqDiff, Nat.reduceLT, Nat.reduceAdd, Nat.reduceLeDiff, Nat.reduceMul, Nat.reduceSub, eq_self_iff_true, forall_const, implies_true, splice, HeldO, imp_self, planOf, pl14, Fap25_2, Faq25_2, R3, Fap25_0, Faq25_0, R22, Lps22, Lsl22, Lsn22, Lw22, Fap25_1, Faq25_1, R23, Lps23, Lsl23, Lsn23, Lw23, Ips23, Isl23, Iw23, R50, Lps50, Lsl50, Lsn50, Lw50, Ips50, Isl50, Iw50, R52, Ips22, Isl22, Iw22, R33, Al33, Am33, St33, Fap33_0, Faq33_0, Fap33_1, Faq33_1, Fap33_2, Faq33_2, Fap33_3, Faq33_3, R31, Lps31, Lsl31, Lsn31, Lw31, Ips31, Isl31, Iw31, R37, Al37, Am37, St37, Fap37_2, Faq37_2, R5, Fap37_3, Faq37_3, Fap37_4, Faq37_4, Fap37_5, Faq37_5, Fap37_0, Faq37_0, R35, CB35, Fap37_1, Faq37_1, g39, g38, g2, g3, hlt, hx, hy, rCode, eStop, Old.stk (Old.refl σ)]
    have hsx := fa.allS x (List.mem_of_getElem? hx)
    have hxy : x ≠ y → false = decide (a = b) := fun h => hneq (fun e => ne_at hx hy h (by rw [e]))
    refine ⟨fun h => hxy (fun e => h (by rw [e])), fun e4 => ?_⟩
    have l4 : x.length = y.length := Int.ofNat.inj e4
    refine W_loop (fun n2 f s => s = Stk σ [some (.row (rCode a)), some (.row (rCode b))] ∧ f.n = 187 ∧ ∃ j : Nat, f.get 61 = .int .i64 j ∧ f.get 60 = .int .i64 x.length ∧ f.get 5 = .int .i64 i ∧ f.get 39 = .int .i64 i ∧ f.get 38 = .int .i64 a.stops.length ∧ f.get 2 = .ptr σ.length 0 ∧ f.get 3 = .ptr (σ.length + 1) 0 ∧ j + n2 = x.length ∧ x.take j = y.take j) x.length ?_ ?_
    · refine ⟨rfl, rfl, 0, ?_⟩
      simp [Fr.get, Am.look, g39, g38, g2, g3]
    rintro n2 ⟨k2, m2⟩ s2 ⟨rfl, hk2, j, h61, h60, h5, h39, h38, h2, h3, hn2, ht2⟩
    simp only [Fr.get] at hk2 h61 h60 h5 h39 h38 h2 h3
    subst hk2
    by_cases hj : j < x.length
    · obtain ⟨p, hp⟩ := at_of_lt hj
      obtain ⟨q, hq⟩ := at_of_lt (l := y) (l4 ▸ hj)
      simp (maxSteps := 10000000) only [bs, HeldL, aPick, aNil, Fr.eval, Fr.get, ofVal, Am.look, slotOf, aGuardS, ne_eq, reduceCtorEq, if_true, if_false, ite_true, ite_false, reduceIte, exists_eq_left', exists_eq_left, exists_eq', Nat.reduceEqDiff, Nat.reduceLT, Nat.reduceAdd, Nat.reduceLeDiff, Nat.reduceMul, Nat.reduceSub, eq_self_iff_true, forall_const, implies_true, splice, HeldO, imp_self, planOf, pl14, Fap25_2, Faq25_2, R3, Fap25_0, Faq25_0, R22, Lps22, Lsl22, Lsn22, Lw22, Fap25_1, Faq25_1, R23, Lps23, Lsl23, Lsn23, Lw23, Ips23, Isl23, Iw23, R50, Lps50, Lsl50, Lsn50, Lw50, Ips50, Isl50, Iw50, R52, Ips22, Isl22, Iw22, R33, Al33, Am33, St33, Fap33_0, Faq33_0, Fap33_1, Faq33_1, Fap33_2, Faq33_2, Fap33_3, Faq33_3, R31, Lps31, Lsl31, Lsn31, Lw31, Ips31, Isl31, Iw31, R37, Al37, Am37, St37, Fap37_2, Faq37_2, R5, Fap37_3, Faq37_3, Fap37_4, Faq37_4, Fap37_5, Faq37_5, Fap37_0, Faq37_0, R35, CB35, Fap37_1, Faq37_1, h61, h60, h5, h39, h38, h2, h3, hj, hx, hy, hp, hq, rCode, eStop, eSpot, neq_spotU, Old.stk (Old.refl σ)]
      refine ⟨fun h => hxy (fun e => ne_at hp hq h e), fun e5 => ⟨n2 - 1, by omega, j + 1, wrap_succ (by omega), by omega, ?_⟩⟩
      rw [take_succ_of hp, take_succ_of hq, ht2, e5]
    · simp (maxSteps := 10000000) only [bs, HeldL, aPick, aNil, Fr.eval, Fr.get, ofVal, Am.look, slotOf, aGuardS, ne_eq, reduceCtorEq, if_true, if_false, ite_true, ite_false, reduceIte, exists_eq_left', exists_eq_left, exists_eq', Nat.reduceEqDiff, Nat.reduceLT, Nat.reduceAdd, Nat.reduceLeDiff, Nat.reduceMul, Nat.reduceSub, eq_self_iff_true, forall_const, implies_true, splice, HeldO, imp_self, planOf, pl14, Fap25_2, Faq25_2, R3, Fap25_0, Faq25_0, R22, Lps22, Lsl22, Lsn22, Lw22, Fap25_1, Faq25_1, R23, Lps23, Lsl23, Lsn23, Lw23, Ips23, Isl23, Iw23, R50, Lps50, Lsl50, Lsn50, Lw50, Ips50, Isl50, Iw50, R52, Ips22, Isl22, Iw22, R33, Al33, Am33, St33, Fap33_0, Faq33_0, Fap33_1, Faq33_1, Fap33_2, Faq33_2, Fap33_3, Faq33_3, R31, Lps31, Lsl31, Lsn31, Lw31, Ips31, Isl31, Iw31, R37, Al37, Am37, St37, Fap37_2, Faq37_2, R5, Fap37_3, Faq37_3, Fap37_4, Faq37_4, Fap37_5, Faq37_5, Fap37_0, Faq37_0, R35, CB35, Fap37_1, Faq37_1, h61, h60, h5, h39, h38, h2, h3, hj, Old.stk (Old.refl σ)]
      refine ⟨n - 1, by omega, rfl, i + 1, wrap_succ (by have := fa.stops; omega), by omega, ?_⟩
      rw [take_succ_of hx, take_succ_of hy, ht, eq_of_takes l4 hj ht2]
  have estops : a.stops = b.stops := eq_of_takes l3 hlt ht
  clear ht hn
  simp (maxSteps := 10000000) only [bs, HeldL, aPick, aNil, Fr.eval, Fr.get, ofVal, Am.look, slotOf, aGuardS, ne_eq, reduceCtorEq, if_true, if_false, ite_true, ite_false, reduceIte, exists_eq_left', exists_eq_left, exists_eq', Nat.reduceEqDiff, Nat.reduceLT, Nat.reduceAdd, Nat.reduceLeDiff, Nat.reduceMul, Nat.reduceSub, eq_self_iff_true, forall_const, implies_true, splice, HeldO, imp_self, planOf, pl14, Fap25_2, Faq25_2, R3, Fap25_0, Faq25_0, R22, Lps22, Lsl22, Lsn22, Lw22, Fap25_1, Faq25_1, R23, Lps23, Lsl23, Lsn23, Lw23, Ips23, Isl23, Iw23, R50, Lps50, Lsl50, Lsn50, Lw50, Ips50, Isl50, Iw50, R52, Ips22, Isl22, Iw22, R33, Al33, Am33, St33, Fap33_0, Faq33_0, Fap33_1, Faq33_1, Fap33_2, Faq33_2, Fap33_3, Faq33_3, R31, Lps31, Lsl31, Lsn31, Lw31, Ips31, Isl31, Iw31, R37, Al37, Am37, St37, Fap37_2, Faq37_2, R5, Fap37_3, Faq37_3, Fap37_4, Faq37_4, Fap37_5, Faq37_5, Fap37_0, Faq37_0, R35, CB35, Fap37_1, Faq37_1, g39, g38, g2, g3, hlt, rCode, eStop, Old.stk (Old.refl σ)]
  refine W_loop (fun n f s => Old σ s ∧ Am.rowAt s σ.length = some (rCode a) ∧ Am.rowAt s (σ.length + 1) = some (rCode b) ∧ f.n = 187 ∧ ∃ i : Nat, f.get 86 = .int .i64 i ∧ f.get 85 = .int .i64 a.funs.length ∧ f.get 2 = .ptr σ.length 0 ∧ f.get 3 = .ptr (σ.length + 1) 0 ∧ i + n = a.funs.length ∧ a.funs.take i = b.funs.take i) a.funs.length ?_ ?_
  · refine ⟨Old.stk (Old.refl σ) _, rowAt_stk0 rfl, rowAt_stk rfl, rfl, 0, ?_⟩
    simp [Fr.get, Am.look, g2, g3]
  clear g39 g38 g2 g3 hlt
  rintro n ⟨k, m⟩ s ⟨hold, ra, rb, hk, i, g86, g85, g2, g3, hn, ht⟩
  simp only [Fr.get] at hk g86 g85 g2 g3
  subst hk
  refine W_stk ?_
  have ra' : ∀ rows, Am.rowAt (Stk s rows) σ.length = some (rCode a) := fun rows => (rowAt_old (rowAt_lt ra)).trans ra
  have rb' : ∀ rows, Am.rowAt (Stk s rows) (σ.length + 1) = some (rCode b) := fun rows => (rowAt_old (rowAt_lt rb)).trans rb
  by_cases hlt : i < a.funs.length
  · obtain ⟨x, hx⟩ := at_of_lt hlt
    obtain ⟨y, hy⟩ := at_of_lt (l := b.funs) (l2 ▸ hlt)
    have fx := fa.allF x (List.mem_of_getElem? hx)
    have hxy : x ≠ y → false = decide (a = b) := fun h => hneq (fun e => ne_at hx hy h (by rw [e]))
    simp (maxSteps := 10000000) only [bs, HeldL, aPick, aNil, Fr.eval, Fr.get, ofVal, Am.look, slotOf, aGuardS, ne_eq, reduceCtorEq, if_true, if_false, ite_true, ite_false, reduceIte, exists_eq_left', exists_eq_left, exists_eq', Nat.reduceEqDiff, Nat.reduceLT, Nat.reduceAdd, Nat.reduceLeDiff, Nat.reduceMul, Nat.reduceSub, eq_self_iff_true, forall_const, implies_true, splice, HeldO, imp_self, planOf, pl14, Fap25_2, Faq25_2, R3, Fap25_0, Faq25_0, R22, Lps22, Lsl22, Lsn22, Lw22, Fap25_1, Faq25_1, R23, Lps23, Lsl23, Lsn23, Lw23, Ips23, Isl23, Iw23, R50, Lps50, Lsl50, Lsn50, Lw50, Ips50, Isl50, Iw50, R52, Ips22, Isl22, Iw22, R33, Al33, Am33, St33, Fap33_0, Faq33_0, Fap33_1, Faq33_1, Fap33_2, Faq33_2, Fap33_3, Faq33_3, R31, Lps31, Lsl31, Lsn31, Lw31, Ips31, Isl31, Iw31, R37, Al37, Am37, St37, Fap37_2, Faq37_2, R5, Fap37_3, Faq37_3, Fap37_4, Faq37_4, Fap37_5, Faq37_5, Fap37_0, Faq37_0, R35, CB35, Fap37_1, Faq37_1, g86, g85, g2, g3, ra', rb', hlt, hx, hy, rCode, eFun, Old.stk hold]
    refine ⟨fun h => hxy (fun e => h (by rw [e])), fun e4 => ⟨fun h => hxy (fun e => h (by rw [e])), fun e5 => ⟨fun h => hxy (fun e => h (by rw [e])), fun e6 => ⟨fun h => hxy (fun e => h (by rw [e])), fun e7 => ?_⟩⟩⟩⟩
    have l4 : x.blocks.length = y.blocks.length := Int.ofNat.inj e7
    refine W_loop (fun n2 f s2 => Old σ s2 ∧ Am.rowAt s2 σ.length = some (rCode a) ∧ Am.rowAt s2 (σ.length + 1) = some (rCode b) ∧ Am.rowAt s2 s.length = some [.int .i64 x.params, .int .i64 x.vars, .int .i64 x.vals, .ps 6 (x.blocks.map eBlock)] ∧ Am.rowAt s2 (s.length + 1) = some [.int .i64 y.params, .int .i64 y.vars, .int .i64 y.vals, .ps 6 (y.blocks.map eBlock)] ∧ f.n = 187 ∧ ∃ j : Nat, f.get 130 = .int .i64 j ∧ f.get 129 = .int .i64 x.blocks.length ∧ f.get 8 = .ptr s.length 0 ∧ f.get 9 = .ptr (s.length + 1) 0 ∧ f.get 86 = .int .i64 i ∧ f.get 85 = .int .i64 a.funs.length ∧ f.get 2 = .ptr σ.length 0 ∧ f.get 3 = .ptr (σ.length + 1) 0 ∧ j + n2 = x.blocks.length ∧ x.blocks.take j = y.blocks.take j) x.blocks.length ?_ ?_
    · refine ⟨Old.stk hold _, ra' _, rb' _, rowAt_stk0 rfl, rowAt_stk rfl, rfl, 0, ?_⟩
      simp [Fr.get, Am.look, g86, g85, g2, g3]
    rintro n2 ⟨k2, m2⟩ s2 ⟨hold2, qa, qb, qx, qy, hk2, j, h130, h129, h8, h9, h86, h85, h2, h3, hn2, ht2⟩
    simp only [Fr.get] at hk2 h130 h129 h8 h9 h86 h85 h2 h3
    subst hk2
    refine W_stk ?_
    have qx' : ∀ rows, Am.rowAt (Stk s2 rows) s.length = some [.int .i64 x.params, .int .i64 x.vars, .int .i64 x.vals, .ps 6 (x.blocks.map eBlock)] := fun rows => (rowAt_old (rowAt_lt qx)).trans qx
    have qy' : ∀ rows, Am.rowAt (Stk s2 rows) (s.length + 1) = some [.int .i64 y.params, .int .i64 y.vars, .int .i64 y.vals, .ps 6 (y.blocks.map eBlock)] := fun rows => (rowAt_old (rowAt_lt qy)).trans qy
    have qa' : ∀ rows, Am.rowAt (Stk s2 rows) σ.length = some (rCode a) := fun rows => (rowAt_old (rowAt_lt qa)).trans qa
    have qb' : ∀ rows, Am.rowAt (Stk s2 rows) (σ.length + 1) = some (rCode b) := fun rows => (rowAt_old (rowAt_lt qb)).trans qb
    by_cases hj : j < x.blocks.length
    · obtain ⟨p, hp⟩ := at_of_lt hj
      obtain ⟨q, hq⟩ := at_of_lt (l := y.blocks) (l4 ▸ hj)
      have fp := fx.all p (List.mem_of_getElem? hp)
      have hpq : p ≠ q → false = decide (a = b) := fun h => hxy (fun e => ne_at hp hq h (by rw [e]))
      simp (maxSteps := 10000000) only [bs, HeldL, aPick, aNil, Fr.eval, Fr.get, ofVal, Am.look, slotOf, aGuardS, ne_eq, reduceCtorEq, if_true, if_false, ite_true, ite_false, reduceIte, exists_eq_left', exists_eq_left, exists_eq', Nat.reduceEqDiff, Nat.reduceLT, Nat.reduceAdd, Nat.reduceLeDiff, Nat.reduceMul, Nat.reduceSub, eq_self_iff_true, forall_const, implies_true, splice, HeldO, imp_self, planOf, pl14, Fap25_2, Faq25_2, R3, Fap25_0, Faq25_0, R22, Lps22, Lsl22, Lsn22, Lw22, Fap25_1, Faq25_1, R23, Lps23, Lsl23, Lsn23, Lw23, Ips23, Isl23, Iw23, R50, Lps50, Lsl50, Lsn50, Lw50, Ips50, Isl50, Iw50, R52, Ips22, Isl22, Iw22, R33, Al33, Am33, St33, Fap33_0, Faq33_0, Fap33_1, Faq33_1, Fap33_2, Faq33_2, Fap33_3, Faq33_3, R31, Lps31, Lsl31, Lsn31, Lw31, Ips31, Isl31, Iw31, R37, Al37, Am37, St37, Fap37_2, Faq37_2, R5, Fap37_3, Faq37_3, Fap37_4, Faq37_4, Fap37_5, Faq37_5, Fap37_0, Faq37_0, R35, CB35, Fap37_1, Faq37_1, h130, h129, h8, h9, h86, h85, h2, h3, qx', qy', hj, hp, hq, eBlock, eInsts, Old.stk hold2]
      refine ⟨fun h => hpq (fun e => h (by rw [e])), fun d1 => ⟨fun h => hpq (fun e => h (by rw [e])), fun d2 => ⟨fun h => hpq (fun e => h (by rw [e])), fun d3 => ⟨fun h => hpq (fun e => h (by rw [e])), fun d4 => ?_⟩⟩⟩⟩
      refine L_of (f35 p.phis q.phis fp.phis fp.allP _) ?_
      simp (maxSteps := 10000000) only [bs, HeldL, aPick, aNil, Fr.eval, Fr.get, ofVal, Am.look, slotOf, aGuardS, ne_eq, reduceCtorEq, if_true, if_false, ite_true, ite_false, reduceIte, exists_eq_left', exists_eq_left, exists_eq', Nat.reduceEqDiff, Nat.reduceLT, Nat.reduceAdd, Nat.reduceLeDiff, Nat.reduceMul, Nat.reduceSub, eq_self_iff_true, forall_const, implies_true, splice, HeldO, imp_self, planOf, pl14, Fap25_2, Faq25_2, R3, Fap25_0, Faq25_0, R22, Lps22, Lsl22, Lsn22, Lw22, Fap25_1, Faq25_1, R23, Lps23, Lsl23, Lsn23, Lw23, Ips23, Isl23, Iw23, R50, Lps50, Lsl50, Lsn50, Lw50, Ips50, Isl50, Iw50, R52, Ips22, Isl22, Iw22, R33, Al33, Am33, St33, Fap33_0, Faq33_0, Fap33_1, Faq33_1, Fap33_2, Faq33_2, Fap33_3, Faq33_3, R31, Lps31, Lsl31, Lsn31, Lw31, Ips31, Isl31, Iw31, R37, Al37, Am37, St37, Fap37_2, Faq37_2, R5, Fap37_3, Faq37_3, Fap37_4, Faq37_4, Fap37_5, Faq37_5, Fap37_0, Faq37_0, R35, CB35, Fap37_1, Faq37_1, h130, h129, h8, h9, h86, h85, h2, h3, qx', qy', Old.stk hold2]
      refine ⟨fun d5 => ?_, fun h => hpq (fun e => h (by rw [e]))⟩
      refine L_of (f35 p.insts q.insts fp.insts fp.allI _) ?_
      simp (maxSteps := 10000000) only [bs, HeldL, aPick, aNil, Fr.eval, Fr.get, ofVal, Am.look, slotOf, aGuardS, ne_eq, reduceCtorEq, if_true, if_false, ite_true, ite_false, reduceIte, exists_eq_left', exists_eq_left, exists_eq', Nat.reduceEqDiff, Nat.reduceLT, Nat.reduceAdd, Nat.reduceLeDiff, Nat.reduceMul, Nat.reduceSub, eq_self_iff_true, forall_const, implies_true, splice, HeldO, imp_self, planOf, pl14, Fap25_2, Faq25_2, R3, Fap25_0, Faq25_0, R22, Lps22, Lsl22, Lsn22, Lw22, Fap25_1, Faq25_1, R23, Lps23, Lsl23, Lsn23, Lw23, Ips23, Isl23, Iw23, R50, Lps50, Lsl50, Lsn50, Lw50, Ips50, Isl50, Iw50, R52, Ips22, Isl22, Iw22, R33, Al33, Am33, St33, Fap33_0, Faq33_0, Fap33_1, Faq33_1, Fap33_2, Faq33_2, Fap33_3, Faq33_3, R31, Lps31, Lsl31, Lsn31, Lw31, Ips31, Isl31, Iw31, R37, Al37, Am37, St37, Fap37_2, Faq37_2, R5, Fap37_3, Faq37_3, Fap37_4, Faq37_4, Fap37_5, Faq37_5, Fap37_0, Faq37_0, R35, CB35, Fap37_1, Faq37_1, h130, h129, h8, h9, h86, h85, h2, h3, qa', qb', qx', qy', Old.stk hold2]
      refine ⟨fun d6 => ⟨n2 - 1, by omega, j + 1, wrap_succ (by have := fx.blocks; omega), by omega, ?_⟩, fun h => hpq (fun e => h (by rw [e]))⟩
      have hpe : p = q := by
        cases p; cases q
        simp only at d1 d2 d3 d4 d5 d6
        subst d1 d2 d3 d4 d5 d6
        rfl
      rw [take_succ_of hp, take_succ_of hq, ht2, hpe]
    · simp (maxSteps := 10000000) only [bs, HeldL, aPick, aNil, Fr.eval, Fr.get, ofVal, Am.look, slotOf, aGuardS, ne_eq, reduceCtorEq, if_true, if_false, ite_true, ite_false, reduceIte, exists_eq_left', exists_eq_left, exists_eq', Nat.reduceEqDiff, Nat.reduceLT, Nat.reduceAdd, Nat.reduceLeDiff, Nat.reduceMul, Nat.reduceSub, eq_self_iff_true, forall_const, implies_true, splice, HeldO, imp_self, planOf, pl14, Fap25_2, Faq25_2, R3, Fap25_0, Faq25_0, R22, Lps22, Lsl22, Lsn22, Lw22, Fap25_1, Faq25_1, R23, Lps23, Lsl23, Lsn23, Lw23, Ips23, Isl23, Iw23, R50, Lps50, Lsl50, Lsn50, Lw50, Ips50, Isl50, Iw50, R52, Ips22, Isl22, Iw22, R33, Al33, Am33, St33, Fap33_0, Faq33_0, Fap33_1, Faq33_1, Fap33_2, Faq33_2, Fap33_3, Faq33_3, R31, Lps31, Lsl31, Lsn31, Lw31, Ips31, Isl31, Iw31, R37, Al37, Am37, St37, Fap37_2, Faq37_2, R5, Fap37_3, Faq37_3, Fap37_4, Faq37_4, Fap37_5, Faq37_5, Fap37_0, Faq37_0, R35, CB35, Fap37_1, Faq37_1, h130, h129, h8, h9, h86, h85, h2, h3, hj, Stk_nil]
      refine ⟨n - 1, by omega, hold2, qa, qb, i + 1, wrap_succ (by have := fa.funs; omega), by omega, ?_⟩
      have hb : x.blocks = y.blocks := eq_of_takes l4 hj ht2
      have hxe : x = y := by
        cases x; cases y
        simp only at e4 e5 e6 hb
        subst e4 e5 e6 hb
        rfl
      rw [take_succ_of hx, take_succ_of hy, ht, hxe]
  · simp (maxSteps := 10000000) only [bs, HeldL, aPick, aNil, Fr.eval, Fr.get, ofVal, Am.look, slotOf, aGuardS, ne_eq, reduceCtorEq, if_true, if_false, ite_true, ite_false, reduceIte, exists_eq_left', exists_eq_left, exists_eq', Nat.reduceEqDiff, Nat.reduceLT, Nat.reduceAdd, Nat.reduceLeDiff, Nat.reduceMul, Nat.reduceSub, eq_self_iff_true, forall_const, implies_true, splice, HeldO, imp_self, planOf, pl14, Fap25_2, Faq25_2, R3, Fap25_0, Faq25_0, R22, Lps22, Lsl22, Lsn22, Lw22, Fap25_1, Faq25_1, R23, Lps23, Lsl23, Lsn23, Lw23, Ips23, Isl23, Iw23, R50, Lps50, Lsl50, Lsn50, Lw50, Ips50, Isl50, Iw50, R52, Ips22, Isl22, Iw22, R33, Al33, Am33, St33, Fap33_0, Faq33_0, Fap33_1, Faq33_1, Fap33_2, Faq33_2, Fap33_3, Faq33_3, R31, Lps31, Lsl31, Lsn31, Lw31, Ips31, Isl31, Iw31, R37, Al37, Am37, St37, Fap37_2, Faq37_2, R5, Fap37_3, Faq37_3, Fap37_4, Faq37_4, Fap37_5, Faq37_5, Fap37_0, Faq37_0, R35, CB35, Fap37_1, Faq37_1, g86, g85, g2, g3, hlt, Stk_nil]
    have : a = b := by
      have := eq_of_takes l2 hlt ht
      cases a; cases b
      simp only at e1 estops this
      subst e1 estops this
      rfl
    exact ⟨hold, by simp [this]⟩
end Go.Proofs.Ytbnegbjaoiplmaa
