/- Code of one's own that may be written: the whole. -/
import Derived.Test.YtbnegbjaoiplmaaFg
set_option linter.unusedVariables false
set_option linter.unusedSimpArgs false
namespace Go.Proofs.Ytbnegbjaoiplmaa
open Go Go.Am

def cSpot (p : Spot) : List V := [.int .i64 p.fn, .int .i64 p.stmt]
def TSpots (N : Nat → Prop) (s : H) (v : V) (l : List Spot) : Prop := TSl N s 2 (fun _ p j c => (cSpot p)[j]? = some c) v l
def TStops (N : Nat → Prop) (s : H) (v : V) (l : List (List Spot)) : Prop := TSl N s 1 (fun _ x _ c => TSpots N s c x) v l
def CBlock (N : Nat → Prop) (s : H) (a : Block) : Nat → V → Prop
  | 0, c => TInsts N s c a.phis
  | 1, c => TInsts N s c a.insts
  | 2, c => c = .int .u8 a.fin
  | 3, c => c = .int .i64 a.arg
  | 4, c => c = .int .i64 a.to
  | 5, c => c = .int .i64 a.els
  | _, _ => False
def TBlocks (N : Nat → Prop) (s : H) (v : V) (l : List Block) : Prop := TSl N s 6 (fun _ a j c => CBlock N s a j c) v l
def CFun (N : Nat → Prop) (s : H) (a : Fun) : Nat → V → Prop
  | 0, c => c = .int .i64 a.params
  | 1, c => c = .int .i64 a.vars
  | 2, c => c = .int .i64 a.vals
  | 3, c => TBlocks N s c a.blocks
  | _, _ => False
def TFuns (N : Nat → Prop) (s : H) (v : V) (l : List Fun) : Prop := TSl N s 4 (fun _ a j c => CFun N s a j c) v l

section mono
variable {N N' : Nat → Prop} {s s' : H} (hN : ∀ b, N b → N' b) (hs : ∀ b r, N b → Am.rowAt s b = some r → Am.rowAt s' b = some r)
include hN hs
theorem TSpots.mono {v : V} {l : List Spot} (h : TSpots N s v l) : TSpots N' s' v l := TSl.mono h hN hs (fun _ _ _ _ _ h => h)
theorem TStops.mono {v : V} {l : List (List Spot)} (h : TStops N s v l) : TStops N' s' v l := TSl.mono h hN hs (fun _ _ _ _ _ h => h.mono hN hs)
theorem CBlock.mono {a : Block} {j : Nat} {c : V} (h : CBlock N s a j c) : CBlock N' s' a j c := by
  unfold CBlock at h ⊢
  split at h <;> first | exact h | exact TInsts.mono hN hs h
theorem TBlocks.mono {v : V} {l : List Block} (h : TBlocks N s v l) : TBlocks N' s' v l := TSl.mono h hN hs (fun _ _ _ _ _ h => h.mono hN hs)
theorem CFun.mono {a : Fun} {j : Nat} {c : V} (h : CFun N s a j c) : CFun N' s' a j c := by
  unfold CFun at h ⊢
  split at h <;> first | exact h | exact TBlocks.mono hN hs h
theorem TFuns.mono {v : V} {l : List Fun} (h : TFuns N s v l) : TFuns N' s' v l := TSl.mono h hN hs (fun _ _ _ _ _ h => h.mono hN hs)
end mono

/-- What lies there stays, but for one row. -/
structure Keep (e : Nat) (s s' : H) : Prop where
  len : s.length ≤ s'.length
  row : ∀ b r, b ≠ e → Am.rowAt s b = some r → Am.rowAt s' b = some r

theorem Keep.trans {e : Nat} {s s1 s2 : H} (h : Keep e s s1) (k : Keep e s1 s2) : Keep e s s2 := ⟨Nat.le_trans h.len k.len, fun b r hb hr => k.row b r hb (h.row b r hb hr)⟩

def plt13 : PlanT := ⟨.one 0 (.one 1 (.one 2 (.one 3 (.one 5 (.one 6 (.two 4 (.two 7 (.one 8 (.one 9 (.one 10 .nil))) 9 (.one 7 (.one 8 (.one 10 .nil)))) 9 (.one 4 (.one 7 (.one 8 (.one 10 .nil)))))))))), [0, 1, 0, 4, 12, 0, 32, 124, 255, 0, 1023], [[], [], [], [], [1, 6], [], [], [1]], [], [0, 0, 0, 0, 1, 0, 0, 1], 1⟩

theorem L_to {P : Program} {g : FuncId} {args : List V} {v : V} {n d : Nat} {m : List (Nat × V)} {K : Fr → H → Prop} {X : V → H → Prop} {σ s0 : H} (h : Am.Spec P g args σ fun o s => o = .ret v ∧ s = s0) (hk : SpK n d m K s0 v) : Am.Spec P g args σ (CallK n d m K X) :=
  h.mono fun o s hq => by
    obtain ⟨rfl, rfl⟩ := hq
    exact hk

/-- A clone that lies there, as a tree. -/
theorem cV_tree {α : Type} {sz : Nat} {f : α → V} (he : Enc sz f) {N : Nat → Prop} {C : Nat → α → Nat → V → Prop} {s : H} {b : Nat} {l : List α} (hN : l ≠ [] → N b) (hr : s[b]? = some (aN l.length (flat (l.map f)))) (hC : ∀ i a cs j c, l[i]? = some a → (f a).cells = some cs → cs[j]? = some c → C i a j c) : TSl N s sz C (cV b l.length sz) l := by
  by_cases q : l = []
  · subst q; exact .inl ⟨rfl, .inr rfl⟩
  · obtain ⟨n, hn⟩ : ∃ n, l.length = n + 1 := by
      cases l with
      | nil => exact absurd rfl q
      | cons a l => exact ⟨_, rfl⟩
    refine .inr ⟨b, flat (l.map f), by simp [cV, hn], hN q, by rw [rowAt_eq, hr, hn, aN_succ]; rfl, he.len l, fun i a j c ha hj hc => ?_⟩
    obtain ⟨cs, h1, h2, _⟩ := he a
    rw [he.cell l ha h1 hj] at hc
    exact hC i a cs j c ha h1 hc

/-- All that lies there stays, but for one place. -/
structure KeepG (e : Nat) (s s' : H) : Prop where
  len : s.length ≤ s'.length
  get : ∀ b, b < s.length → b ≠ e → s'[b]? = s[b]?
theorem KeepG.refl (e : Nat) (s : H) : KeepG e s s := ⟨Nat.le_refl _, fun _ _ _ => rfl⟩
theorem KeepG.trans {e : Nat} {s s1 s2 : H} (h : KeepG e s s1) (k : KeepG e s1 s2) : KeepG e s s2 := ⟨Nat.le_trans h.len k.len, fun b hb he => (k.get b (Nat.lt_of_lt_of_le hb h.len) he).trans (h.get b hb he)⟩
theorem KeepG.stk {e : Nat} {s : H} {rows : List (Option Ent)} : KeepG e s (Stk s rows) := ⟨by rw [Stk_len]; omega, fun b hb _ => get_old hb⟩
theorem KeepG.upd {e : Nat} {s : H} {r : List V} {rows : List (Option Ent)} : KeepG e s (Stk (Am.upd s e r) rows) := ⟨by rw [Stk_len, upd_len]; omega, fun b hb he => by rw [get_old (by rw [upd_len]; exact hb), get_upd_ne (fun h => he h.symm)]⟩
/-- The place lies beyond: nothing has changed. -/
theorem KeepG.out {e e' : Nat} {s s' : H} (h : KeepG e s s') (he : s.length ≤ e) : KeepG e' s s' := ⟨h.len, fun b hb _ => h.get b hb (by omega)⟩
theorem KeepG.row {e : Nat} {s s' : H} (h : KeepG e s s') {b : Nat} {r : List V} (hr : Am.rowAt s b = some r) (hb : b ≠ e) : Am.rowAt s' b = some r := by
  rw [rowAt_eq] at hr ⊢
  rw [h.get b (by rw [← rowAt_eq] at hr; exact rowAt_lt hr) hb]; exact hr

/-- What holds behind the first statement. -/
structure Core (σ : H) (c : Code) (b2 b3 bF bS n0 : Nat) (s : H) : Prop where
  l0 : σ.length ≤ n0
  l2 : σ.length ≤ b2 ∧ b2 < n0
  l3 : σ.length ≤ b3 ∧ b3 < n0
  lF : σ.length ≤ bF ∧ bF < n0
  lS : σ.length ≤ bS ∧ bS < n0
  ne : b2 ≠ b3 ∧ b2 ≠ bF ∧ b2 ≠ bS ∧ b3 ≠ bF ∧ b3 ≠ bS ∧ bF ≠ bS
  len : n0 ≤ s.length
  old : ∀ b, b < σ.length → s[b]? = σ[b]?
  r2 : Am.rowAt s b2 = some [.snil, .snil, .int .i64 0]
  r3 : Am.rowAt s b3 = some [cV bF c.funs.length 4, cV bS c.stops.length 1, .int .i64 c.main]
theorem Core.keep {σ : H} {c : Code} {b2 b3 bF bS n0 : Nat} {s s' : H} (h : Core σ c b2 b3 bF bS n0 s) {e : Nat} (k : KeepG e s s') (he : e = bF ∨ e = bS ∨ n0 ≤ e) : Core σ c b2 b3 bF bS n0 s' := by
  have h2 := h.l2; have h3 := h.l3; have hF := h.lF; have hS := h.lS; have hn := h.ne; have hl := h.len; have h0 := h.l0
  refine { h with len := Nat.le_trans h.len k.len, old := fun b hb => (k.get b (by omega) (by omega)).trans (h.old b hb), r2 := k.row h.r2 (by omega), r3 := k.row h.r3 (by omega) }

theorem core_of {σ : H} {c : Code} {rows : List (Option Ent)} {j2 j3 jF jS : Nat} (ne : j2 ≠ j3 ∧ j2 ≠ jF ∧ j2 ≠ jS ∧ j3 ≠ jF ∧ j3 ≠ jS ∧ jF ≠ jS) (hF : jF < rows.length) (hS : jS < rows.length) (h2 : rows[j2]? = some (some (.row [.snil, .snil, .int .i64 0]))) (h3 : rows[j3]? = some (some (.row [cV (σ.length + jF) c.funs.length 4, cV (σ.length + jS) c.stops.length 1, .int .i64 c.main]))) :
    Core σ c (σ.length + j2) (σ.length + j3) (σ.length + jF) (σ.length + jS) (Stk σ rows).length (Stk σ rows) := by
  have l2 := lt_of_some h2
  have l3 := lt_of_some h3
  have e := Stk_len (σ := σ) (rows := rows)
  exact ⟨by omega, by omega, by omega, by omega, by omega, by omega, Nat.le_refl _, fun b hb => get_old hb, by rw [rowAt_stk rfl, h2]; rfl, by rw [rowAt_stk rfl, h3]; rfl⟩

def Inv13f (σ : H) (c : Code) : Ex → Fr → H → Prop
  | .normal, f, s => ∃ b2 b3 bF bS, Core σ c b2 b3 bF bS s.length s ∧ s[bF]? = some (aN c.funs.length (flat (c.funs.map eFun))) ∧ s[bS]? = some (aN c.stops.length (flat (c.stops.map eStop))) ∧ f.n = 82 ∧ f.get 2 = .ptr b2 0 ∧ f.get 3 = .ptr b3 0
  | _, _, _ => False

theorem dt4 {row : List V} {k : Nat} {a b c d : V} (h0 : row[k]? = some a) (h1 : row[k + 1]? = some b) (h2 : row[k + 2]? = some c) (h3 : row[k + 3]? = some d) : (row.drop k).take 4 = [a, b, c, d] := by
  apply List.ext_getElem?
  intro j
  rw [List.getElem?_take]
  split
  · rw [List.getElem?_drop]
    have : j = 0 ∨ j = 1 ∨ j = 2 ∨ j = 3 := by omega
    rcases this with rfl | rfl | rfl | rfl <;> simpa
  · rw [List.getElem?_eq_none (by simp; omega)]
theorem dt6 {row : List V} {k : Nat} {a b c d e f : V} (h0 : row[k]? = some a) (h1 : row[k + 1]? = some b) (h2 : row[k + 2]? = some c) (h3 : row[k + 3]? = some d) (h4 : row[k + 4]? = some e) (h5 : row[k + 5]? = some f) : (row.drop k).take 6 = [a, b, c, d, e, f] := by
  apply List.ext_getElem?
  intro j
  rw [List.getElem?_take]
  split
  · rw [List.getElem?_drop]
    have : j = 0 ∨ j = 1 ∨ j = 2 ∨ j = 3 ∨ j = 4 ∨ j = 5 := by omega
    rcases this with rfl | rfl | rfl | rfl | rfl | rfl <;> simpa
  · rw [List.getElem?_eq_none (by simp; omega)]
theorem splice_get {row cs : List V} {k p : Nat} (h : k + cs.length ≤ row.length) : (splice row k cs)[p]? = if k ≤ p ∧ p < k + cs.length then cs[p - k]? else row[p]? := by
  unfold splice
  by_cases q : p < k
  · rw [List.append_assoc, List.getElem?_append_left (by simp; omega), List.getElem?_take, if_pos q, if_neg (by omega)]
  · by_cases q2 : p < k + cs.length
    · rw [List.append_assoc, List.getElem?_append_right (by simp; omega), if_pos ⟨by omega, q2⟩]
      have : p - (row.take k).length = p - k := by simp; omega
      rw [this, List.getElem?_append_left (by omega)]
    · rw [List.getElem?_append_right (by simp; omega), if_neg (by omega), List.getElem?_drop]
      congr 1
      simp; omega
theorem splice_len {row cs : List V} {k : Nat} (h : k + cs.length ≤ row.length) : (splice row k cs).length = row.length := by
  unfold splice; simp; omega

theorem row_keepC {s : H} {b b0 : Nat} {r r0 : List V} {a a' : Option Ent} {rows rows2 : List (Option Ent)} (h : Am.rowAt (Stk s (a :: rows)) b = some r) (hb : b ≠ b0) (hs : b ≠ s.length) : Am.rowAt (Stk (upd s b0 r0) (a' :: (rows ++ rows2))) b = some r := by
  by_cases q : b < s.length
  · rw [rowAt_old q] at h
    rw [rowAt_old (by rw [upd_len]; exact q), rowAt_upd_ne (fun e => hb e.symm)]; exact h
  · obtain ⟨j, rfl⟩ : ∃ j, b = s.length + (j + 1) := ⟨b - s.length - 1, by omega⟩
    rw [rowAt_stk rfl, List.getElem?_cons_succ] at h
    rw [rowAt_stk upd_len, List.getElem?_cons_succ]
    have : j < rows.length := by
      by_cases q2 : j < rows.length
      · exact q2
      · rw [List.getElem?_eq_none (by omega)] at h; cases h
    rw [List.getElem?_append_left this]; exact h

/-- The first k lists of stops are one's own already. -/
def PartS (n0 bS : Nat) (s : H) (l : List (List Spot)) (k : Nat) : Prop :=
  l = [] ∨ ∃ row, Am.rowAt s bS = some row ∧ row.length = l.length ∧ ∀ (i : Nat) (x : List Spot) (v : V), l[i]? = some x → row[i]? = some v → if i < k then TSpots (fun b => n0 ≤ b) s v x else v = eStop x

/-- The first k functions are one's own already. -/
def PartF (n0 bF : Nat) (s : H) (l : List Fun) (k : Nat) : Prop :=
  l = [] ∨ ∃ row, Am.rowAt s bF = some row ∧ row.length = l.length * 4 ∧ ∀ (i : Nat) (x : Fun) (j : Nat) (v : V), l[i]? = some x → j < 4 → row[i * 4 + j]? = some v → if i < k then CFun (fun b => n0 ≤ b) s x j v else ((eFun x).cells.bind (·[j]?)) = some v
/-- The first k blocks are one's own already. -/
def PartB (n0 bB : Nat) (s : H) (l : List Block) (k : Nat) : Prop :=
  l = [] ∨ ∃ row, Am.rowAt s bB = some row ∧ row.length = l.length * 6 ∧ ∀ (i : Nat) (x : Block) (j : Nat) (v : V), l[i]? = some x → j < 6 → row[i * 6 + j]? = some v → if i < k then CBlock (fun b => n0 ≤ b) s x j v else ((eBlock x).cells.bind (·[j]?)) = some v

theorem succ_of_ne {α : Type} {l : List α} (q : l ≠ []) : ∃ n, l.length = n + 1 := by
  cases l with
  | nil => exact absurd rfl q
  | cons a l => exact ⟨_, rfl⟩

set_option maxRecDepth 100000 in
theorem f13 (c : Code) (fc : c.Fits) (σ : H) : Am.Spec Try.prog 13 [eCode c] σ (fun o s => ∃ vF vS rows, o = .ret (.agg [vF, vS, .int .i64 c.main]) ∧ s = Stk σ rows ∧ TFuns (fun b => σ.length ≤ b) s vF c.funs ∧ TStops (fun b => σ.length ≤ b) s vS c.stops) := by
  refine Am.Spec.introS mixed pl13 Try.func13 rfl (by kernel_rfl) 82 rfl [.cell 2 25] rfl (by simp) ?_
  simp (maxSteps := 10000000) only [bs, HeldL, aPick, aNil, Fr.eval, Fr.get, ofVal, Am.look, slotOf, aGuardS, ne_eq, reduceCtorEq, if_true, if_false, ite_true, ite_false, reduceIte, exists_eq_left', exists_eq_left, exists_eq', Nat.reduceEqDiff, Nat.reduceLT, Nat.reduceAdd, Nat.reduceLeDiff, Nat.reduceMul, Nat.reduceSub, eq_self_iff_true, forall_const, implies_true, splice, HeldO, imp_self, planOf, pl13, Al25, Am25, Fap25_2, Faq25_2, R3, Fap25_0, Faq25_0, R22, CB30, Fap25_1, Faq25_1, R23, CB31, Bu25, St25, Lps23, Lsl23, Lsn23, Lw23, Ips23, Isl23, Iw23, R50, CB32, St50, Lps22, Lsl22, Lsn22, Lw22, Ips22, Isl22, Iw22, R33, Al33, Am33, St33, Fap33_3, Faq33_3, R31, CB33, St31, Lps31, Lsl31, Lsn31, Lw31, Ips31, Isl31, Iw31, R37, Al37, Am37, St37, Fap37_0, Faq37_0, R35, CB34, Fap37_1, Faq37_1, St35, R25, eCode]
  refine (Rcode.drawS mixed plt13 (by kernel_rfl) (Q := Inv13f σ c) ?_).mono ?_
  · unfold plt13
    have l1 := fc.funs
    have l2 := fc.stops
    simp (maxSteps := 10000000) only [bs, HeldL, aPick, aNil, Fr.eval, Fr.get, ofVal, Am.look, slotOf, aGuardS, ne_eq, reduceCtorEq, if_true, if_false, ite_true, ite_false, reduceIte, exists_eq_left', exists_eq_left, exists_eq', Nat.reduceEqDiff, Nat.reduceLT, Nat.reduceAdd, Nat.reduceLeDiff, Nat.reduceMul, Nat.reduceSub, eq_self_iff_true, forall_const, implies_true, splice, HeldO, imp_self, planOf, pl13, Al25, Am25, Fap25_2, Faq25_2, R3, Fap25_0, Faq25_0, R22, CB30, Fap25_1, Faq25_1, R23, CB31, Bu25, St25, Lps23, Lsl23, Lsn23, Lw23, Ips23, Isl23, Iw23, R50, CB32, St50, Lps22, Lsl22, Lsn22, Lw22, Ips22, Isl22, Iw22, R33, Al33, Am33, St33, Fap33_3, Faq33_3, R31, CB33, St31, Lps31, Lsl31, Lsn31, Lw31, Ips31, Isl31, Iw31, R37, Al37, Am37, St37, Fap37_0, Faq37_0, R35, CB34, Fap37_1, Faq37_1, St35, R25, AL2_one, AL2_two, AL2_nil, SL_some, kindOf, SK_0, SK_1, SK_2, SK_3, AtK_iff, CaK_iff, shape_rank, shape_pad, shape_holds, List.replicate_succ, List.replicate_zero, Z25, place_in, place_in0, SpK_cV, cV_cells, cV_one]
    refine ⟨L_to (g30 c.funs l1 _) ?_, L_to (g30 c.funs l1 _) ?_⟩
    · simp (maxSteps := 10000000) only [bs, HeldL, aPick, aNil, Fr.eval, Fr.get, ofVal, Am.look, slotOf, aGuardS, ne_eq, reduceCtorEq, if_true, if_false, ite_true, ite_false, reduceIte, exists_eq_left', exists_eq_left, exists_eq', Nat.reduceEqDiff, Nat.reduceLT, Nat.reduceAdd, Nat.reduceLeDiff, Nat.reduceMul, Nat.reduceSub, eq_self_iff_true, forall_const, implies_true, splice, HeldO, imp_self, planOf, pl13, Al25, Am25, Fap25_2, Faq25_2, R3, Fap25_0, Faq25_0, R22, CB30, Fap25_1, Faq25_1, R23, CB31, Bu25, St25, Lps23, Lsl23, Lsn23, Lw23, Ips23, Isl23, Iw23, R50, CB32, St50, Lps22, Lsl22, Lsn22, Lw22, Ips22, Isl22, Iw22, R33, Al33, Am33, St33, Fap33_3, Faq33_3, R31, CB33, St31, Lps31, Lsl31, Lsn31, Lw31, Ips31, Isl31, Iw31, R37, Al37, Am37, St37, Fap37_0, Faq37_0, R35, CB34, Fap37_1, Faq37_1, St35, R25, AL2_one, AL2_two, AL2_nil, SL_some, kindOf, SK_0, SK_1, SK_2, SK_3, AtK_iff, CaK_iff, shape_rank, shape_pad, shape_holds, List.replicate_succ, List.replicate_zero, Z25, place_in, place_in0, SpK_cV, cV_cells, cV_one]
      refine ⟨L_to (g31 c.stops l2 _) ?_, L_to (g31 c.stops l2 _) ?_⟩
      · simp (maxSteps := 10000000) only [bs, HeldL, aPick, aNil, Fr.eval, Fr.get, ofVal, Am.look, slotOf, aGuardS, ne_eq, reduceCtorEq, if_true, if_false, ite_true, ite_false, reduceIte, exists_eq_left', exists_eq_left, exists_eq', Nat.reduceEqDiff, Nat.reduceLT, Nat.reduceAdd, Nat.reduceLeDiff, Nat.reduceMul, Nat.reduceSub, eq_self_iff_true, forall_const, implies_true, splice, HeldO, imp_self, planOf, pl13, Al25, Am25, Fap25_2, Faq25_2, R3, Fap25_0, Faq25_0, R22, CB30, Fap25_1, Faq25_1, R23, CB31, Bu25, St25, Lps23, Lsl23, Lsn23, Lw23, Ips23, Isl23, Iw23, R50, CB32, St50, Lps22, Lsl22, Lsn22, Lw22, Ips22, Isl22, Iw22, R33, Al33, Am33, St33, Fap33_3, Faq33_3, R31, CB33, St31, Lps31, Lsl31, Lsn31, Lw31, Ips31, Isl31, Iw31, R37, Al37, Am37, St37, Fap37_0, Faq37_0, R35, CB34, Fap37_1, Faq37_1, St35, R25, AL2_one, AL2_two, AL2_nil, SL_some, kindOf, SK_0, SK_1, SK_2, SK_3, AtK_iff, CaK_iff, shape_rank, shape_pad, shape_holds, List.replicate_succ, List.replicate_zero, Z25, place_in, place_in0, SpK_cV, cV_cells, cV_one]
        exact ⟨_, _, _, _, core_of (j2 := 1) (j3 := 6) (jF := 3) (jS := 5) (by decide) (by simp) (by simp) rfl rfl, get_stk rfl, get_stk rfl, rfl, rfl, rfl⟩
      · simp (maxSteps := 10000000) only [bs, HeldL, aPick, aNil, Fr.eval, Fr.get, ofVal, Am.look, slotOf, aGuardS, ne_eq, reduceCtorEq, if_true, if_false, ite_true, ite_false, reduceIte, exists_eq_left', exists_eq_left, exists_eq', Nat.reduceEqDiff, Nat.reduceLT, Nat.reduceAdd, Nat.reduceLeDiff, Nat.reduceMul, Nat.reduceSub, eq_self_iff_true, forall_const, implies_true, splice, HeldO, imp_self, planOf, pl13, Al25, Am25, Fap25_2, Faq25_2, R3, Fap25_0, Faq25_0, R22, CB30, Fap25_1, Faq25_1, R23, CB31, Bu25, St25, Lps23, Lsl23, Lsn23, Lw23, Ips23, Isl23, Iw23, R50, CB32, St50, Lps22, Lsl22, Lsn22, Lw22, Ips22, Isl22, Iw22, R33, Al33, Am33, St33, Fap33_3, Faq33_3, R31, CB33, St31, Lps31, Lsl31, Lsn31, Lw31, Ips31, Isl31, Iw31, R37, Al37, Am37, St37, Fap37_0, Faq37_0, R35, CB34, Fap37_1, Faq37_1, St35, R25, AL2_one, AL2_two, AL2_nil, SL_some, kindOf, SK_0, SK_1, SK_2, SK_3, AtK_iff, CaK_iff, shape_rank, shape_pad, shape_holds, List.replicate_succ, List.replicate_zero, Z25, place_in, place_in0, SpK_cV, cV_cells, cV_one]
        exact ⟨_, _, _, _, core_of (j2 := 1) (j3 := 4) (jF := 3) (jS := 5) (by decide) (by simp) (by simp) rfl rfl, get_stk rfl, get_stk rfl, rfl, rfl, rfl⟩
    · simp (maxSteps := 10000000) only [bs, HeldL, aPick, aNil, Fr.eval, Fr.get, ofVal, Am.look, slotOf, aGuardS, ne_eq, reduceCtorEq, if_true, if_false, ite_true, ite_false, reduceIte, exists_eq_left', exists_eq_left, exists_eq', Nat.reduceEqDiff, Nat.reduceLT, Nat.reduceAdd, Nat.reduceLeDiff, Nat.reduceMul, Nat.reduceSub, eq_self_iff_true, forall_const, implies_true, splice, HeldO, imp_self, planOf, pl13, Al25, Am25, Fap25_2, Faq25_2, R3, Fap25_0, Faq25_0, R22, CB30, Fap25_1, Faq25_1, R23, CB31, Bu25, St25, Lps23, Lsl23, Lsn23, Lw23, Ips23, Isl23, Iw23, R50, CB32, St50, Lps22, Lsl22, Lsn22, Lw22, Ips22, Isl22, Iw22, R33, Al33, Am33, St33, Fap33_3, Faq33_3, R31, CB33, St31, Lps31, Lsl31, Lsn31, Lw31, Ips31, Isl31, Iw31, R37, Al37, Am37, St37, Fap37_0, Faq37_0, R35, CB34, Fap37_1, Faq37_1, St35, R25, AL2_one, AL2_two, AL2_nil, SL_some, kindOf, SK_0, SK_1, SK_2, SK_3, AtK_iff, CaK_iff, shape_rank, shape_pad, shape_holds, List.replicate_succ, List.replicate_zero, Z25, place_in, place_in0, SpK_cV, cV_cells, cV_one]
      refine L_to (g31 c.stops l2 _) ?_
      simp (maxSteps := 10000000) only [bs, HeldL, aPick, aNil, Fr.eval, Fr.get, ofVal, Am.look, slotOf, aGuardS, ne_eq, reduceCtorEq, if_true, if_false, ite_true, ite_false, reduceIte, exists_eq_left', exists_eq_left, exists_eq', Nat.reduceEqDiff, Nat.reduceLT, Nat.reduceAdd, Nat.reduceLeDiff, Nat.reduceMul, Nat.reduceSub, eq_self_iff_true, forall_const, implies_true, splice, HeldO, imp_self, planOf, pl13, Al25, Am25, Fap25_2, Faq25_2, R3, Fap25_0, Faq25_0, R22, CB30, Fap25_1, Faq25_1, R23, CB31, Bu25, St25, Lps23, Lsl23, Lsn23, Lw23, Ips23, Isl23, Iw23, R50, CB32, St50, Lps22, Lsl22, Lsn22, Lw22, Ips22, Isl22, Iw22, R33, Al33, Am33, St33, Fap33_3, Faq33_3, R31, CB33, St31, Lps31, Lsl31, Lsn31, Lw31, Ips31, Isl31, Iw31, R37, Al37, Am37, St37, Fap37_0, Faq37_0, R35, CB34, Fap37_1, Faq37_1, St35, R25, AL2_one, AL2_two, AL2_nil, SL_some, kindOf, SK_0, SK_1, SK_2, SK_3, AtK_iff, CaK_iff, shape_rank, shape_pad, shape_holds, List.replicate_succ, List.replicate_zero, Z25, place_in, place_in0, SpK_cV, cV_cells, cV_one]
      exact ⟨_, _, _, _, core_of (j2 := 1) (j3 := 2) (jF := 3) (jS := 5) (by decide) (by simp) (by simp) rfl rfl, get_stk rfl, get_stk rfl, rfl, rfl, rfl⟩
  rintro e ⟨k, m⟩ s hi
  cases e with
  | normal => ?_
  | _ => exact hi.elim
  obtain ⟨b2, b3, bF, bS, hc, hF, hS, hk, g2, g3⟩ := hi
  simp only [Fr.get] at hk g2 g3
  subst hk
  have d3 := hc.r3
  have e3 : b3 < s.length := hc.l3.2
  refine W_stk (σ := s) ?_
  simp (maxSteps := 10000000) only [bs, HeldL, aPick, aNil, Fr.eval, Fr.get, ofVal, Am.look, slotOf, aGuardS, ne_eq, reduceCtorEq, if_true, if_false, ite_true, ite_false, reduceIte, exists_eq_left', exists_eq_left, exists_eq', Nat.reduceEqDiff, Nat.reduceLT, Nat.reduceAdd, Nat.reduceLeDiff, Nat.reduceMul, Nat.reduceSub, eq_self_iff_true, forall_const, implies_true, splice, HeldO, imp_self, planOf, pl13, Al25, Am25, Fap25_2, Faq25_2, R3, Fap25_0, Faq25_0, R22, CB30, Fap25_1, Faq25_1, R23, CB31, Bu25, St25, Lps23, Lsl23, Lsn23, Lw23, Ips23, Isl23, Iw23, R50, CB32, St50, Lps22, Lsl22, Lsn22, Lw22, Ips22, Isl22, Iw22, R33, Al33, Am33, St33, Fap33_3, Faq33_3, R31, CB33, St31, Lps31, Lsl31, Lsn31, Lw31, Ips31, Isl31, Iw31, R37, Al37, Am37, St37, Fap37_0, Faq37_0, R35, CB34, Fap37_1, Faq37_1, St35, R25, g2, g3, d3, e3, cV_len U23]
  refine W_loopC (St := Nat × H) (fun p => ⟨82, [(2, .ptr b2 0), (3, .ptr b3 0), (20, cV bS c.stops.length 1), (21, .int .i64 c.stops.length), (22, .int .i64 p.1)]⟩) (fun p => p.2) (fun n p => p.1 + n = c.stops.length ∧ Core σ c b2 b3 bF bS s.length p.2 ∧ p.2[bF]? = some (aN c.funs.length (flat (c.funs.map eFun))) ∧ PartS s.length bS p.2 c.stops p.1) c.stops.length (0, s) ?_ ?_ ?_
  · refine ⟨by simp, hc, hF, ?_⟩
    by_cases q : c.stops = []
    · exact .inl q
    · obtain ⟨n, hn⟩ : ∃ n, c.stops.length = n + 1 := by
        cases hh : c.stops with
        | nil => exact absurd hh q
        | cons a l => exact ⟨_, rfl⟩
      refine .inr ⟨flat (c.stops.map eStop), by rw [rowAt_eq, hS, hn, aN_succ]; rfl, by rw [enc_stop.len]; omega, fun i x v hx hv => ?_⟩
      rw [if_neg (by omega)]
      have := enc_stop.cell c.stops hx rfl (j := 0) (by omega)
      simp only [Nat.mul_one, Nat.add_zero] at this
      rw [this] at hv
      simpa using hv.symm
  · rw [Stk_nil]; exact Weak.slots (by simp (maxSteps := 10000000) only [cb, Am.look, reduceCtorEq, reduceIte, Nat.reduceEqDiff, Nat.reduceAdd, if_true, if_false, SlotsOf_nil, SlotsOf_cons, g2, g3])
  rintro n ⟨i, t⟩ ⟨hn, hct, hFt, hpt⟩
  simp only at hn hct hFt hpt
  refine W_stk (σ := t) ?_
  have d3 := hct.r3
  have e3 : b3 < t.length := rowAt_lt d3
  by_cases hlt : i < c.stops.length
  · obtain ⟨x, hx⟩ := at_of_lt hlt
    have hbx : x.length ≤ big := fc.allS x (List.mem_of_getElem? hx)
    obtain ⟨row, hrow, hrl, hcell⟩ := hpt.resolve_left (by rintro h; rw [h] at hlt; simp at hlt)
    have eS : bS < t.length := rowAt_lt hrow
    have c1 : row[i]? = some (.ps 2 (x.map eSpot)) := by
      obtain ⟨v, hv⟩ := some_of_lt (l := row) (j := i) (by omega)
      have := hcell i x v hx hv
      rw [if_neg (by omega)] at this
      rw [hv, this]; rfl
    simp (maxSteps := 10000000) only [bs, HeldL, aPick, aNil, Fr.eval, Fr.get, ofVal, Am.look, slotOf, aGuardS, ne_eq, reduceCtorEq, if_true, if_false, ite_true, ite_false, reduceIte, exists_eq_left', exists_eq_left, exists_eq', Nat.reduceEqDiff, Nat.reduceLT, Nat.reduceAdd, Nat.reduceLeDiff, Nat.reduceMul, Nat.reduceSub, eq_self_iff_true, forall_const, implies_true, splice, HeldO, imp_self, planOf, pl13, Al25, Am25, Fap25_2, Faq25_2, R3, Fap25_0, Faq25_0, R22, CB30, Fap25_1, Faq25_1, R23, CB31, Bu25, St25, Lps23, Lsl23, Lsn23, Lw23, Ips23, Isl23, Iw23, R50, CB32, St50, Lps22, Lsl22, Lsn22, Lw22, Ips22, Isl22, Iw22, R33, Al33, Am33, St33, Fap33_3, Faq33_3, R31, CB33, St31, Lps31, Lsl31, Lsn31, Lw31, Ips31, Isl31, Iw31, R37, Al37, Am37, St37, Fap37_0, Faq37_0, R35, CB34, Fap37_1, Faq37_1, St35, R25, hlt, d3, e3, cV_ix U23 S50, hrow, eS, c1, Nat.mul_one]
    refine L_to (g32 x hbx _) ?_
    have wsu := wrap_succ (show i ≤ big by have := fc.stops; omega)
    simp (maxSteps := 10000000) only [bs, HeldL, aPick, aNil, Fr.eval, Fr.get, ofVal, Am.look, slotOf, aGuardS, ne_eq, reduceCtorEq, if_true, if_false, ite_true, ite_false, reduceIte, exists_eq_left', exists_eq_left, exists_eq', Nat.reduceEqDiff, Nat.reduceLT, Nat.reduceAdd, Nat.reduceLeDiff, Nat.reduceMul, Nat.reduceSub, eq_self_iff_true, forall_const, implies_true, splice, HeldO, imp_self, planOf, pl13, Al25, Am25, Fap25_2, Faq25_2, R3, Fap25_0, Faq25_0, R22, CB30, Fap25_1, Faq25_1, R23, CB31, Bu25, St25, Lps23, Lsl23, Lsn23, Lw23, Ips23, Isl23, Iw23, R50, CB32, St50, Lps22, Lsl22, Lsn22, Lw22, Ips22, Isl22, Iw22, R33, Al33, Am33, St33, Fap33_3, Faq33_3, R31, CB33, St31, Lps31, Lsl31, Lsn31, Lw31, Ips31, Isl31, Iw31, R37, Al37, Am37, St37, Fap37_0, Faq37_0, R35, CB34, Fap37_1, Faq37_1, St35, R25, hlt, d3, e3, cV_ix U23 S50, hrow, eS, c1, Nat.mul_one, SpK_cV, cV_cells, cV_one, wsu]
    refine ⟨by omega, RndC.mk (n - 1) (i + 1, Stk (upd t bS (row.set i (cV t.length x.length 2))) [aN x.length (flat (x.map eSpot))]) (by omega) ?_ (Weak.slots (by simp (maxSteps := 10000000) only [cb, Am.look, reduceCtorEq, reduceIte, Nat.reduceEqDiff, Nat.reduceAdd, if_true, if_false, SlotsOf_nil, SlotsOf_cons]))⟩
    have kg : KeepG bS t (Stk (upd t bS (row.set i (cV t.length x.length 2))) [aN x.length (flat (x.map eSpot))]) := KeepG.upd
    have lS := hct.lS
    have ll := hct.len
    refine ⟨by simp only; omega, hct.keep kg (.inr (.inl rfl)), (kg.get bF (by have := hct.lF; omega) hct.ne.2.2.2.2.2).trans hFt, .inr ⟨_, by rw [rowAt_old (by rw [upd_len]; exact eS), rowAt_upd eS], by simp [hrl], fun i' x' v hx' hv => ?_⟩⟩
    by_cases q : i' = i
    · subst q
      rw [List.getElem?_set_self (by omega)] at hv
      cases hv
      rw [hx] at hx'; cases hx'
      rw [if_pos (by simp only; omega)]
      exact cV_tree enc_spot (fun _ => ll) (get_stk0 upd_len) (fun i a cs j c _ h1 h2 => by simp only [V.cells, eSpot, Option.some.injEq] at h1; subst h1; exact h2)
    · rw [List.getElem?_set_ne (fun e => q e.symm)] at hv
      have h0 := hcell i' x' v hx' hv
      by_cases q2 : i' < i
      · rw [if_pos q2] at h0
        rw [if_pos (by simp only; omega)]
        exact h0.mono (fun _ h => h) (fun b r hb hr => kg.row hr (by omega))
      · rw [if_neg q2] at h0
        rw [if_neg (by simp only; omega)]
        exact h0
  have hST : TStops (fun b => σ.length ≤ b ∧ b ≠ bF ∧ b ≠ b2) t (cV bS c.stops.length 1) c.stops := by
    rcases hpt with q | ⟨row, hrow, hrl, hcell⟩
    · rw [q]; exact .inl ⟨rfl, .inr rfl⟩
    · by_cases q : c.stops = []
      · rw [q]; exact .inl ⟨rfl, .inr rfl⟩
      · obtain ⟨k, hk⟩ := succ_of_ne q
        have lF := hct.lF; have lS := hct.lS; have l0 := hct.l0; have ne := hct.ne; have l2 := hct.l2
        refine .inr ⟨bS, row, by simp [cV, hk], ⟨by omega, by omega, by omega⟩, hrow, by omega, fun i' a j v ha hj hv => ?_⟩
        have hj0 : j = 0 := by omega
        subst hj0
        simp only [Nat.mul_one, Nat.add_zero] at hv
        have h0 := hcell i' a v ha hv
        rw [if_pos (by have := lt_of_some ha; omega)] at h0
        exact h0.mono (fun b hb => ⟨by omega, by omega, by omega⟩) (fun _ _ _ h => h)
  clear hpt
  simp (maxSteps := 10000000) only [bs, HeldL, aPick, aNil, Fr.eval, Fr.get, ofVal, Am.look, slotOf, aGuardS, ne_eq, reduceCtorEq, if_true, if_false, ite_true, ite_false, reduceIte, exists_eq_left', exists_eq_left, exists_eq', Nat.reduceEqDiff, Nat.reduceLT, Nat.reduceAdd, Nat.reduceLeDiff, Nat.reduceMul, Nat.reduceSub, eq_self_iff_true, forall_const, implies_true, splice, HeldO, imp_self, planOf, pl13, Al25, Am25, Fap25_2, Faq25_2, R3, Fap25_0, Faq25_0, R22, CB30, Fap25_1, Faq25_1, R23, CB31, Bu25, St25, Lps23, Lsl23, Lsn23, Lw23, Ips23, Isl23, Iw23, R50, CB32, St50, Lps22, Lsl22, Lsn22, Lw22, Ips22, Isl22, Iw22, R33, Al33, Am33, St33, Fap33_3, Faq33_3, R31, CB33, St31, Lps31, Lsl31, Lsn31, Lw31, Ips31, Isl31, Iw31, R37, Al37, Am37, St37, Fap37_0, Faq37_0, R35, CB34, Fap37_1, Faq37_1, St35, R25, hlt, d3, e3, cV_len U22]
  refine W_loopC (St := Nat × H) (fun p => ⟨82, [(2, .ptr b2 0), (3, .ptr b3 0), (35, cV bF c.funs.length 4), (36, .int .i64 c.funs.length), (37, .int .i64 p.1)]⟩) (fun p => p.2) (fun n p => p.1 + n = c.funs.length ∧ Core σ c b2 b3 bF bS s.length p.2 ∧ TStops (fun b => σ.length ≤ b ∧ b ≠ bF ∧ b ≠ b2) p.2 (cV bS c.stops.length 1) c.stops ∧ PartF s.length bF p.2 c.funs p.1) c.funs.length (0, t) ?_ ?_ ?_
  · refine ⟨by simp, hct, hST, ?_⟩
    by_cases q : c.funs = []
    · exact .inl q
    · obtain ⟨n, hn⟩ := succ_of_ne q
      refine .inr ⟨flat (c.funs.map eFun), by rw [rowAt_eq, hFt, hn, aN_succ]; rfl, enc_fun.len _, fun i x j v hx hj hv => ?_⟩
      rw [if_neg (by omega)]
      rw [enc_fun.cell c.funs hx rfl hj] at hv
      exact hv
  · rw [Stk_nil]; exact Weak.slots (by simp (maxSteps := 10000000) only [cb, Am.look, reduceCtorEq, reduceIte, Nat.reduceEqDiff, Nat.reduceAdd, if_true, if_false, SlotsOf_nil, SlotsOf_cons])
  clear hn hct hFt hST d3 e3 hlt
  clear t i n
  rintro n ⟨i, t⟩ ⟨hn, hct, hST, hpt⟩
  simp only at hn hct hST hpt
  refine W_stk (σ := t) ?_
  have d3 := hct.r3
  have e3 : b3 < t.length := rowAt_lt d3
  by_cases hlt : i < c.funs.length
  · obtain ⟨x, hx⟩ := at_of_lt hlt
    have fx := fc.allF x (List.mem_of_getElem? hx)
    have hbx := fx.blocks
    obtain ⟨row, hrow, hrl, hcell⟩ := hpt.resolve_left (by rintro h; rw [h] at hlt; simp at hlt)
    have eF : bF < t.length := rowAt_lt hrow
    have hcx : ∀ j v, j < 4 → (eFun x).cells.bind (·[j]?) = some v → row[i * 4 + j]? = some v := fun j v hj hv => by
      obtain ⟨u, hu⟩ := some_of_lt (l := row) (j := i * 4 + j) (by omega)
      have := hcell i x j u hx hj hu
      rw [if_neg (by omega), hv] at this
      rw [hu]; exact this.symm
    have c3 := hcx 3 _ (by omega) rfl
    have t4 := dt4 (k := i * 4) (hcx 0 _ (by omega) rfl) (hcx 1 _ (by omega) rfl) (hcx 2 _ (by omega) rfl) c3
    have hle : i * 4 + 4 ≤ row.length := by omega
    simp (maxSteps := 10000000) only [bs, HeldL, aPick, aNil, Fr.eval, Fr.get, ofVal, Am.look, slotOf, aGuardS, ne_eq, reduceCtorEq, if_true, if_false, ite_true, ite_false, reduceIte, exists_eq_left', exists_eq_left, exists_eq', Nat.reduceEqDiff, Nat.reduceLT, Nat.reduceAdd, Nat.reduceLeDiff, Nat.reduceMul, Nat.reduceSub, eq_self_iff_true, forall_const, implies_true, splice, HeldO, imp_self, planOf, pl13, Al25, Am25, Fap25_2, Faq25_2, R3, Fap25_0, Faq25_0, R22, CB30, Fap25_1, Faq25_1, R23, CB31, Bu25, St25, Lps23, Lsl23, Lsn23, Lw23, Ips23, Isl23, Iw23, R50, CB32, St50, Lps22, Lsl22, Lsn22, Lw22, Ips22, Isl22, Iw22, R33, Al33, Am33, St33, Fap33_3, Faq33_3, R31, CB33, St31, Lps31, Lsl31, Lsn31, Lw31, Ips31, Isl31, Iw31, R37, Al37, Am37, St37, Fap37_0, Faq37_0, R35, CB34, Fap37_1, Faq37_1, St35, R25, hlt, d3, e3, cV_ix U22 S33, hrow, eF, t4, hle]
    refine L_to (g33 x.blocks hbx _) ?_
    have gs : (row.set (i * 4 + 3) (cV (t.length + 1) x.blocks.length 6))[i * 4 + 3]? = some (cV (t.length + 1) x.blocks.length 6) := List.getElem?_set_self (by omega)
    have n3F : bF ≠ b3 := fun e => hct.ne.2.2.2.1 e.symm
    simp (maxSteps := 10000000) only [bs, HeldL, aPick, aNil, Fr.eval, Fr.get, ofVal, Am.look, slotOf, aGuardS, ne_eq, reduceCtorEq, if_true, if_false, ite_true, ite_false, reduceIte, exists_eq_left', exists_eq_left, exists_eq', Nat.reduceEqDiff, Nat.reduceLT, Nat.reduceAdd, Nat.reduceLeDiff, Nat.reduceMul, Nat.reduceSub, eq_self_iff_true, forall_const, implies_true, splice, HeldO, imp_self, planOf, pl13, Al25, Am25, Fap25_2, Faq25_2, R3, Fap25_0, Faq25_0, R22, CB30, Fap25_1, Faq25_1, R23, CB31, Bu25, St25, Lps23, Lsl23, Lsn23, Lw23, Ips23, Isl23, Iw23, R50, CB32, St50, Lps22, Lsl22, Lsn22, Lw22, Ips22, Isl22, Iw22, R33, Al33, Am33, St33, Fap33_3, Faq33_3, R31, CB33, St31, Lps31, Lsl31, Lsn31, Lw31, Ips31, Isl31, Iw31, R37, Al37, Am37, St37, Fap37_0, Faq37_0, R35, CB34, Fap37_1, Faq37_1, St35, R25, hlt, d3, e3, cV_ix U22 S33, hrow, eF, t4, hle, SpK_cV, cV_cells, cV_one, gs, cV_len U31, rowAt_upd_ne n3F]
    refine ⟨by omega, ?_⟩
    let row1 := row.set (i * 4 + 3) (cV (t.length + 1) x.blocks.length 6)
    let t1 := Stk (upd t bF row1) [some (.row [.int .i64 x.params, .int .i64 x.vars, .int .i64 x.vals, .ps 6 (x.blocks.map eBlock)]), aN x.blocks.length (flat (x.blocks.map eBlock))]
    have gs1 : row1[i * 4 + 3]? = some (cV (t.length + 1) x.blocks.length 6) := gs
    have kg1 : KeepG bF t t1 := KeepG.upd
    have ht1 : t1.length = t.length + 2 := by simp only [t1, Stk_len, upd_len]; rfl
    have hF1 : Am.rowAt t1 bF = some row1 := by simp only [t1]; rw [rowAt_old (by rw [upd_len]; exact eF), rowAt_upd eF]
    refine W_loopC (St := Nat × H) (fun p => ⟨82, [(2, .ptr b2 0), (3, .ptr b3 0), (6, .int .i64 i), (35, cV bF c.funs.length 4), (36, .int .i64 c.funs.length), (37, .int .i64 i), (55, cV (t.length + 1) x.blocks.length 6), (56, .int .i64 x.blocks.length), (57, .int .i64 p.1)]⟩) (fun p => p.2) (fun n p => p.1 + n = x.blocks.length ∧ KeepG (t.length + 1) t1 p.2 ∧ PartB t1.length (t.length + 1) p.2 x.blocks p.1) x.blocks.length (0, t1) ?_ ?_ ?_
    · refine ⟨by simp, KeepG.refl _ _, ?_⟩
      by_cases q : x.blocks = []
      · exact .inl q
      · obtain ⟨n, hn⟩ := succ_of_ne q
        refine .inr ⟨flat (x.blocks.map eBlock), by rw [rowAt_eq]; simp only [t1]; rw [get_stk upd_len, List.getElem?_cons_succ, List.getElem?_cons_zero, hn, aN_succ]; rfl, enc_block.len _, fun i x j v hx hj hv => ?_⟩
        rw [if_neg (by omega)]
        rw [enc_block.cell _ hx rfl hj] at hv
        exact hv
    · exact Weak.slots (by simp (maxSteps := 10000000) only [cb, Am.look, reduceCtorEq, reduceIte, Nat.reduceEqDiff, Nat.reduceAdd, if_true, if_false, SlotsOf_nil, SlotsOf_cons])
    rintro n2 ⟨k, u⟩ ⟨hn2, kgu, hpu⟩
    simp only at hn2 kgu hpu
    refine W_stk (σ := u) ?_
    have u3 : Am.rowAt u b3 = some _ := kgu.row (kg1.row d3 (fun e => n3F e.symm)) (by omega)
    have uF : Am.rowAt u bF = some _ := kgu.row hF1 (by omega)
    have m3 : b3 < u.length := rowAt_lt u3
    have mF : bF < u.length := rowAt_lt uF
    by_cases hlk : k < x.blocks.length
    · obtain ⟨y, hy⟩ := at_of_lt hlk
      have fy := fx.all y (List.mem_of_getElem? hy)
      obtain ⟨rowB, hrowB, hrlB, hcellB⟩ := hpu.resolve_left (by rintro h; rw [h] at hlk; simp at hlk)
      have mB : t.length + 1 < u.length := rowAt_lt hrowB
      have hcy : ∀ j v, j < 6 → (eBlock y).cells.bind (·[j]?) = some v → rowB[k * 6 + j]? = some v := fun j v hj hv => by
        obtain ⟨w, hw⟩ := some_of_lt (l := rowB) (j := k * 6 + j) (by omega)
        have := hcellB k y j w hy hj hw
        rw [if_neg (by omega), hv] at this
        rw [hw]; exact this.symm
      have t6 := dt6 (k := k * 6) (hcy 0 _ (by omega) rfl) (hcy 1 _ (by omega) rfl) (hcy 2 _ (by omega) rfl) (hcy 3 _ (by omega) rfl) (hcy 4 _ (by omega) rfl) (hcy 5 _ (by omega) rfl)
      have hle6 : k * 6 + 6 ≤ rowB.length := by omega
      simp (maxSteps := 10000000) only [bs, HeldL, aPick, aNil, Fr.eval, Fr.get, ofVal, Am.look, slotOf, aGuardS, ne_eq, reduceCtorEq, if_true, if_false, ite_true, ite_false, reduceIte, exists_eq_left', exists_eq_left, exists_eq', Nat.reduceEqDiff, Nat.reduceLT, Nat.reduceAdd, Nat.reduceLeDiff, Nat.reduceMul, Nat.reduceSub, eq_self_iff_true, forall_const, implies_true, splice, HeldO, imp_self, planOf, pl13, Al25, Am25, Fap25_2, Faq25_2, R3, Fap25_0, Faq25_0, R22, CB30, Fap25_1, Faq25_1, R23, CB31, Bu25, St25, Lps23, Lsl23, Lsn23, Lw23, Ips23, Isl23, Iw23, R50, CB32, St50, Lps22, Lsl22, Lsn22, Lw22, Ips22, Isl22, Iw22, R33, Al33, Am33, St33, Fap33_3, Faq33_3, R31, CB33, St31, Lps31, Lsl31, Lsn31, Lw31, Ips31, Isl31, Iw31, R37, Al37, Am37, St37, Fap37_0, Faq37_0, R35, CB34, Fap37_1, Faq37_1, St35, R25, hlk, cV_ix U31 S37, hrowB, mB, t6, hle6, eInsts]
      refine (f34 y.phis fy.phis fy.allP _).mono ?_
      rintro o s1 ⟨v1, rows1, rfl, rfl, nb1, one1, cells1, tr1⟩
      simp (maxSteps := 10000000) only [bs, HeldL, aPick, aNil, Fr.eval, Fr.get, ofVal, Am.look, slotOf, aGuardS, ne_eq, reduceCtorEq, if_true, if_false, ite_true, ite_false, reduceIte, exists_eq_left', exists_eq_left, exists_eq', Nat.reduceEqDiff, Nat.reduceLT, Nat.reduceAdd, Nat.reduceLeDiff, Nat.reduceMul, Nat.reduceSub, eq_self_iff_true, forall_const, implies_true, splice, HeldO, imp_self, planOf, pl13, Al25, Am25, Fap25_2, Faq25_2, R3, Fap25_0, Faq25_0, R22, CB30, Fap25_1, Faq25_1, R23, CB31, Bu25, St25, Lps23, Lsl23, Lsn23, Lw23, Ips23, Isl23, Iw23, R50, CB32, St50, Lps22, Lsl22, Lsn22, Lw22, Ips22, Isl22, Iw22, R33, Al33, Am33, St33, Fap33_3, Faq33_3, R31, CB33, St31, Lps31, Lsl31, Lsn31, Lw31, Ips31, Isl31, Iw31, R37, Al37, Am37, St37, Fap37_0, Faq37_0, R35, CB34, Fap37_1, Faq37_1, St35, R25, hlk, cV_ix U31 S37, hrowB, mB, t6, hle6, eInsts, CallK_go, SpK_nb nb1]
      refine (f34 y.insts fy.insts fy.allI _).mono ?_
      rintro o s2 ⟨v2, rows2, rfl, rfl, nb2, one2, cells2, tr2⟩
      have wsk := wrap_succ (show k ≤ big by omega)
      simp (maxSteps := 10000000) only [bs, HeldL, aPick, aNil, Fr.eval, Fr.get, ofVal, Am.look, slotOf, aGuardS, ne_eq, reduceCtorEq, if_true, if_false, ite_true, ite_false, reduceIte, exists_eq_left', exists_eq_left, exists_eq', Nat.reduceEqDiff, Nat.reduceLT, Nat.reduceAdd, Nat.reduceLeDiff, Nat.reduceMul, Nat.reduceSub, eq_self_iff_true, forall_const, implies_true, splice, HeldO, imp_self, planOf, pl13, Al25, Am25, Fap25_2, Faq25_2, R3, Fap25_0, Faq25_0, R22, CB30, Fap25_1, Faq25_1, R23, CB31, Bu25, St25, Lps23, Lsl23, Lsn23, Lw23, Ips23, Isl23, Iw23, R50, CB32, St50, Lps22, Lsl22, Lsn22, Lw22, Ips22, Isl22, Iw22, R33, Al33, Am33, St33, Fap33_3, Faq33_3, R31, CB33, St31, Lps31, Lsl31, Lsn31, Lw31, Ips31, Isl31, Iw31, R37, Al37, Am37, St37, Fap37_0, Faq37_0, R35, CB34, Fap37_1, Faq37_1, St35, R25, hlk, cV_ix U31 S37, hrowB, mB, t6, hle6, CallK_go, SpK_nb nb2, cells1, cells2, one1, one2, u3, uF, m3, mF, cV_ix U22 S33, hlt, gs1, wsk]
      let cs := [v1, v2, .int .u8 y.fin, .int .i64 y.arg, .int .i64 y.to, .int .i64 y.els]
      let u' := Stk (upd u (t.length + 1) (splice rowB (k * 6) cs)) (some (.row cs) :: (rows1 ++ rows2))
      refine RndC.mk (n2 - 1) (k + 1, u') (by omega) ?_ (Weak.slots (by simp (maxSteps := 10000000) only [cb, Am.look, reduceCtorEq, reduceIte, Nat.reduceEqDiff, Nat.reduceAdd, if_true, if_false, SlotsOf_nil, SlotsOf_cons]))
      have kg' : KeepG (t.length + 1) u u' := KeepG.upd
      have hsp : k * 6 + cs.length ≤ rowB.length := hle6
      refine ⟨by simp only; omega, kgu.trans kg', .inr ⟨splice rowB (k * 6) cs, by simp only [u']; rw [rowAt_old (by rw [upd_len]; exact mB), rowAt_upd mB], by rw [splice_len hsp]; exact hrlB, fun i' z j v hz hj hv => ?_⟩⟩
      have k1 : TInsts (fun b => t1.length ≤ b) u' v1 y.phis := TInsts.mono (fun b hb => by simp only [Stk_len, List.length_cons, List.length_nil] at hb; have := kgu.len; omega) (fun b r hb hr => by
        simp only [Stk_stk, Stk_len, Stk_nil, List.length_cons, List.length_nil, List.cons_append, List.nil_append] at hr hb
        exact row_keepC (rows2 := rows2) hr (by omega) (by omega)) tr1
      have k2 : TInsts (fun b => t1.length ≤ b) u' v2 y.insts := TInsts.mono (fun b hb => by simp only [Stk_len, List.length_cons, List.length_nil] at hb; have := kgu.len; omega) (fun b r hb hr => by
        simp only [Stk_stk, Stk_len, Stk_nil, List.length_cons, List.length_nil, List.cons_append, List.nil_append] at hr hb
        have := row_keepC (b0 := t.length + 1) (r0 := splice rowB (k * 6) cs) (a' := some (.row cs)) (rows2 := []) hr (by omega) (by omega)
        rwa [List.append_nil] at this) tr2
      have hcl : cs.length = 6 := rfl
      rw [splice_get hsp, hcl] at hv
      by_cases q : i' = k
      · subst q
        rw [if_pos ⟨by omega, by omega⟩, show i' * 6 + j - i' * 6 = j by omega] at hv
        rw [hy] at hz; cases hz
        rw [if_pos (by simp only; omega)]
        have : j = 0 ∨ j = 1 ∨ j = 2 ∨ j = 3 ∨ j = 4 ∨ j = 5 := by omega
        rcases this with rfl | rfl | rfl | rfl | rfl | rfl <;> (simp only [cs, List.getElem?_cons_zero, List.getElem?_cons_succ, Option.some.injEq] at hv; subst hv; first | exact k1 | exact k2 | rfl)
      · rw [if_neg (by omega)] at hv
        have h0 := hcellB i' z j v hz hj hv
        by_cases q2 : i' < k
        · rw [if_pos q2] at h0
          rw [if_pos (by simp only; omega)]
          exact h0.mono (fun _ h => h) (fun b r hb hr => kg'.row hr (by omega))
        · rw [if_neg q2] at h0
          rw [if_neg (by simp only; omega)]
          exact h0
    · simp (maxSteps := 10000000) only [bs, HeldL, aPick, aNil, Fr.eval, Fr.get, ofVal, Am.look, slotOf, aGuardS, ne_eq, reduceCtorEq, if_true, if_false, ite_true, ite_false, reduceIte, exists_eq_left', exists_eq_left, exists_eq', Nat.reduceEqDiff, Nat.reduceLT, Nat.reduceAdd, Nat.reduceLeDiff, Nat.reduceMul, Nat.reduceSub, eq_self_iff_true, forall_const, implies_true, splice, HeldO, imp_self, planOf, pl13, Al25, Am25, Fap25_2, Faq25_2, R3, Fap25_0, Faq25_0, R22, CB30, Fap25_1, Faq25_1, R23, CB31, Bu25, St25, Lps23, Lsl23, Lsn23, Lw23, Ips23, Isl23, Iw23, R50, CB32, St50, Lps22, Lsl22, Lsn22, Lw22, Ips22, Isl22, Iw22, R33, Al33, Am33, St33, Fap33_3, Faq33_3, R31, CB33, St31, Lps31, Lsl31, Lsn31, Lw31, Ips31, Isl31, Iw31, R37, Al37, Am37, St37, Fap37_0, Faq37_0, R35, CB34, Fap37_1, Faq37_1, St35, R25, hlk]
      have wsi := wrap_succ (show i ≤ big by have := fc.funs; omega)
      simp (maxSteps := 10000000) only [bs, HeldL, aPick, aNil, Fr.eval, Fr.get, ofVal, Am.look, slotOf, aGuardS, ne_eq, reduceCtorEq, if_true, if_false, ite_true, ite_false, reduceIte, exists_eq_left', exists_eq_left, exists_eq', Nat.reduceEqDiff, Nat.reduceLT, Nat.reduceAdd, Nat.reduceLeDiff, Nat.reduceMul, Nat.reduceSub, eq_self_iff_true, forall_const, implies_true, splice, HeldO, imp_self, planOf, pl13, Al25, Am25, Fap25_2, Faq25_2, R3, Fap25_0, Faq25_0, R22, CB30, Fap25_1, Faq25_1, R23, CB31, Bu25, St25, Lps23, Lsl23, Lsn23, Lw23, Ips23, Isl23, Iw23, R50, CB32, St50, Lps22, Lsl22, Lsn22, Lw22, Ips22, Isl22, Iw22, R33, Al33, Am33, St33, Fap33_3, Faq33_3, R31, CB33, St31, Lps31, Lsl31, Lsn31, Lw31, Ips31, Isl31, Iw31, R37, Al37, Am37, St37, Fap37_0, Faq37_0, R35, CB34, Fap37_1, Faq37_1, St35, R25, wsi]
      have kgt : KeepG bF t u := ⟨by have := kg1.len; have := kgu.len; omega, fun b hb he => (kgu.get b (by omega) (by omega)).trans (kg1.get b hb he)⟩
      refine RndC.mk (n - 1) (i + 1, u) (by omega) ?_ (by rw [Stk_nil]; exact Weak.slots (by simp (maxSteps := 10000000) only [cb, Am.look, reduceCtorEq, reduceIte, Nat.reduceEqDiff, Nat.reduceAdd, if_true, if_false, SlotsOf_nil, SlotsOf_cons]))
      have ll := hct.len
      refine ⟨by simp only; omega, hct.keep kgt (.inl rfl), hST.mono (fun _ h => h) (fun b r hb hr => kgt.row hr hb.2.1), .inr ⟨row1, uF, by simp only [row1, List.length_set]; exact hrl, fun i' z j v hz hj hv => ?_⟩⟩
      simp only [row1] at hv
      by_cases q : i' * 4 + j = i * 4 + 3
      · obtain ⟨rfl, rfl⟩ : i' = i ∧ j = 3 := by omega
        rw [gs] at hv; cases hv
        rw [hx] at hz; cases hz
        rw [if_pos (by simp only; omega)]
        show TBlocks _ _ _ _
        rcases hpu with q | ⟨rowB, hrowB, hrlB, hcellB⟩
        · rw [q]; exact .inl ⟨rfl, .inr rfl⟩
        · by_cases q : x.blocks = []
          · rw [q]; exact .inl ⟨rfl, .inr rfl⟩
          · obtain ⟨w, hw⟩ := succ_of_ne q
            refine .inr ⟨t.length + 1, rowB, by simp [cV, hw], by simp only; omega, hrowB, hrlB, fun i2 a j2 v2 ha2 hj2 hv2 => ?_⟩
            have h0 := hcellB i2 a j2 v2 ha2 hj2 hv2
            rw [if_pos (by have := lt_of_some ha2; omega)] at h0
            exact h0.mono (fun b hb => by omega) (fun _ _ _ h => h)
      · rw [List.getElem?_set_ne (fun e => q e.symm)] at hv
        have h0 := hcell i' z j v hz hj hv
        by_cases q2 : i' < i
        · rw [if_pos q2] at h0
          rw [if_pos (by simp only; omega)]
          exact h0.mono (fun _ h => h) (fun b r hb hr => kgt.row hr (by have := hct.lF; omega))
        · rw [if_neg q2] at h0
          by_cases q3 : i' = i
          · subst q3
            rw [hx] at hz; cases hz
            rw [if_pos (by simp only; omega)]
            have : j = 0 ∨ j = 1 ∨ j = 2 := by omega
            rcases this with rfl | rfl | rfl <;> simp [eFun, V.cells] at h0 <;> exact h0.symm
          · rw [if_neg (by simp only; omega)]
            exact h0
  · have d2 := hct.r2
    have e2 : b2 < t.length := rowAt_lt d2
    simp (maxSteps := 10000000) only [bs, HeldL, aPick, aNil, Fr.eval, Fr.get, ofVal, Am.look, slotOf, aGuardS, ne_eq, reduceCtorEq, if_true, if_false, ite_true, ite_false, reduceIte, exists_eq_left', exists_eq_left, exists_eq', Nat.reduceEqDiff, Nat.reduceLT, Nat.reduceAdd, Nat.reduceLeDiff, Nat.reduceMul, Nat.reduceSub, eq_self_iff_true, forall_const, implies_true, splice, HeldO, imp_self, planOf, pl13, Al25, Am25, Fap25_2, Faq25_2, R3, Fap25_0, Faq25_0, R22, CB30, Fap25_1, Faq25_1, R23, CB31, Bu25, St25, Lps23, Lsl23, Lsn23, Lw23, Ips23, Isl23, Iw23, R50, CB32, St50, Lps22, Lsl22, Lsn22, Lw22, Ips22, Isl22, Iw22, R33, Al33, Am33, St33, Fap33_3, Faq33_3, R31, CB33, St31, Lps31, Lsl31, Lsn31, Lw31, Ips31, Isl31, Iw31, R37, Al37, Am37, St37, Fap37_0, Faq37_0, R35, CB34, Fap37_1, Faq37_1, St35, R25, hlt, d3, e3, d2, e2, cV_one]
    have lF := hct.lF; have l0 := hct.l0; have ll := hct.len; have l2 := hct.l2
    have kg : KeepG b2 t (Stk (upd t b2 [cV bF c.funs.length 4, cV bS c.stops.length 1, .int .i64 c.main]) []) := KeepG.upd
    obtain ⟨rows, hrows⟩ := Old.eq (σ := σ) (s := Stk (upd t b2 [cV bF c.funs.length 4, cV bS c.stops.length 1, .int .i64 c.main]) []) ⟨by have := kg.len; omega, fun b hb => (kg.get b (by omega) (by omega)).trans (hct.old b hb)⟩
    refine ⟨_, _, rows, rfl, hrows, ?_, hST.mono (fun b hb => hb.1) (fun b r hb hr => kg.row hr hb.2.2)⟩
    rcases hpt with q | ⟨row, hrow, hrl, hcell⟩
    · rw [q]; exact .inl ⟨rfl, .inr rfl⟩
    · by_cases q : c.funs = []
      · rw [q]; exact .inl ⟨rfl, .inr rfl⟩
      · obtain ⟨w, hw⟩ := succ_of_ne q
        have ne := hct.ne
        refine .inr ⟨bF, row, by simp [cV, hw], by simp only; omega, kg.row hrow (by omega), hrl, fun i' a j v ha hj hv => ?_⟩
        have h0 := hcell i' a j v ha hj hv
        rw [if_pos (by have := lt_of_some ha; omega)] at h0
        exact h0.mono (fun b hb => by omega) (fun b r hb hr => kg.row hr (by omega))
end Go.Proofs.Ytbnegbjaoiplmaa
