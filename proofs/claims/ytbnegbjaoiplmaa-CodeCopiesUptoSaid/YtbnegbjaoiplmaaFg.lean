/- Code of one's own that may be written: instructions. -/
import Derived.Test.YtbnegbjaoiplmaaFf
import Derived.Test.YtbnegbjaoiplmaaAmTr
set_option linter.unusedVariables false
set_option linter.unusedSimpArgs false
namespace Go.Proofs.Ytbnegbjaoiplmaa
open Go Go.Am

/-- No truth value. -/
def NB (v : V) : Prop := ∀ b, v ≠ .bool b
theorem SpK_nb {v : V} (h : NB v) {n d : Nat} {m : List (Nat × V)} {K : Fr → H → Prop} {σ : H} : SpK n d m K σ v ↔ SetK n d m K σ v := by
  cases v <;> first | rfl | exact absurd rfl (h _)

theorem Old.eq {σ s : H} (h : Old σ s) : ∃ rows, s = Stk σ rows := by
  refine ⟨s.drop σ.length, ?_⟩
  unfold Stk
  conv => lhs; rw [← List.take_append_drop σ.length s]
  congr 1
  apply List.ext_getElem?
  intro i
  rw [List.getElem?_take]
  split
  · rename_i hi; exact h.2 i hi
  · rename_i hi; rw [List.getElem?_eq_none (by omega)]

theorem row_keep {s : H} {b b0 : Nat} {r r0 : List V} {rows : List (Option Ent)} (h : Am.rowAt s b = some r) (hb : b ≠ b0) : Am.rowAt (Stk (upd s b0 r0) rows) b = some r := by
  rw [rowAt_old (by rw [upd_len]; exact rowAt_lt h), rowAt_upd_ne (fun e => hb e.symm)]; exact h
theorem row_keepS {s : H} {b : Nat} {r : List V} {rows : List (Option Ent)} (h : Am.rowAt s b = some r) : Am.rowAt (Stk s rows) b = some r := by
  rw [rowAt_old (rowAt_lt h)]; exact h

theorem row_keepA {s : H} {b b0 : Nat} {r r0 : List V} {rows rows2 : List (Option Ent)} (h : Am.rowAt (Stk s rows) b = some r) (hb : b ≠ b0) : Am.rowAt (Stk (upd s b0 r0) (rows ++ rows2)) b = some r := by
  by_cases q : b < s.length
  · rw [rowAt_old q] at h
    rw [rowAt_old (by rw [upd_len]; exact q), rowAt_upd_ne (fun e => hb e.symm)]; exact h
  · obtain ⟨j, rfl⟩ : ∃ j, b = s.length + j := ⟨b - s.length, by omega⟩
    rw [rowAt_stk rfl] at h
    rw [rowAt_stk upd_len]
    have : j < rows.length := by
      by_cases q2 : j < rows.length
      · exact q2
      · rw [List.getElem?_eq_none (by omega)] at h; cases h
    rw [List.getElem?_append_left this]; exact h
theorem row_keepB {s : H} {b b0 : Nat} {r r0 : List V} {rows rows2 : List (Option Ent)} (h : Am.rowAt (Stk (Stk s rows) rows2) b = some r) (hb : b ≠ b0) : Am.rowAt (Stk (upd s b0 r0) (rows ++ rows2)) b = some r := by
  rw [Stk_stk] at h
  have := row_keepA (b0 := b0) (r0 := r0) (rows2 := []) h hb
  rwa [List.append_nil] at this

def cDbg (d : Dbg) : List V := [.int .i64 d.depth, .int .i64 d.var, .int .u8 d.kind, .int .i64 d.arg, .int .i64 d.a, .int .i64 d.b]

def TInts (N : Nat → Prop) (s : H) (v : V) (l : List Int) : Prop := TSl N s 1 (fun _ x _ c => c = .int .i64 x) v l
def TDbgs (N : Nat → Prop) (s : H) (v : V) (l : List Dbg) : Prop := TSl N s 6 (fun _ d j c => (cDbg d)[j]? = some c) v l
def CInst (N : Nat → Prop) (s : H) (a : Inst) : Nat → V → Prop
  | 0, c => c = .int .u8 a.op
  | 1, c => c = .int .i64 a.dst
  | 2, c => TInts N s c a.args
  | 3, c => c = .int .i64 a.imm
  | 4, c => c = .int .i64 a.site
  | 5, c => TDbgs N s c a.dbg
  | _, _ => False
def TInsts (N : Nat → Prop) (s : H) (v : V) (l : List Inst) : Prop := TSl N s 6 (fun _ a j c => CInst N s a j c) v l

theorem CInst.mono {N N' : Nat → Prop} {s s' : H} (hN : ∀ b, N b → N' b) (hs : ∀ b r, N b → Am.rowAt s b = some r → Am.rowAt s' b = some r) {a : Inst} {j : Nat} {c : V} (h : CInst N s a j c) : CInst N' s' a j c := by
  unfold CInst at h ⊢
  split at h <;> first | exact h | exact TSl.mono h hN hs (fun _ _ _ _ _ h => h)
theorem TInsts.mono {N N' : Nat → Prop} {s s' : H} (hN : ∀ b, N b → N' b) (hs : ∀ b r, N b → Am.rowAt s b = some r → Am.rowAt s' b = some r) {v : V} {l : List Inst} (h : TInsts N s v l) : TInsts N' s' v l :=
  TSl.mono h hN hs (fun _ _ _ _ _ h => h.mono hN hs)

/-- A clone, as a tree. -/
theorem CloneQ.tree {α : Type} {sz : Nat} {f : α → V} (he : Enc sz f) {C : Nat → α → Nat → V → Prop} {σ : H} {l : List α} {o : Out} {s : H} (h : CloneQ σ sz (l.map f) o s) (hC : ∀ i a cs j c, l[i]? = some a → (f a).cells = some cs → cs[j]? = some c → C i a j c) :
    ∃ v rows, o = .ret v ∧ s = Stk σ rows ∧ NB v ∧ v.one = true ∧ v.cells = some [v] ∧ (l = [] ∨ (v = .sl σ.length 0 l.length sz ∧ Am.rowAt s σ.length = some (flat (l.map f)))) ∧ (∀ P t e s, P.underlying t = some (.slice e) → aLen P t s v = some (.int .i64 l.length)) ∧ TSl (fun b => σ.length ≤ b) s sz C v l := by
  rcases h with ⟨h1, rfl, rfl⟩ | ⟨rfl, rfl⟩
  · have : l = [] := List.map_eq_nil_iff.1 h1
    subst this
    exact ⟨.snil, [], rfl, (Stk_nil _).symm, fun b e => (by cases e), rfl, rfl, .inl rfl, fun P t e s hu => Len_snil hu, .inl ⟨rfl, .inl rfl⟩⟩
  · rw [List.length_map]
    refine ⟨_, _, rfl, rfl, fun b e => (by cases e), rfl, rfl, .inr ⟨rfl, rowAt_stk0 rfl⟩, fun P t e s hu => Len_sl hu, .inr ⟨σ.length, _, rfl, Nat.le_refl _, rowAt_stk0 rfl, he.len l, fun i a j c ha hj hc => ?_⟩⟩
    obtain ⟨cs, h1, h2, _⟩ := he a
    rw [he.cell l ha h1 hj] at hc
    exact hC i a cs j c ha h1 hc

theorem idx6 {n i j : Nat} (hi : i < n) (hj : j < 6) : i * 6 + j < n * 6 := by omega

/-- Where the first k instructions are one's own already. -/
def Part34 (σ s : H) (l : List Inst) (k : Nat) : Prop :=
  l ≠ [] ∧ σ.length < s.length ∧ (∀ b, b < σ.length → s[b]? = σ[b]?) ∧ ∃ row, Am.rowAt s σ.length = some row ∧ row.length = l.length * 6 ∧
    ∀ (i : Nat) (a : Inst) (j : Nat) (c : V), l[i]? = some a → j < 6 → row[i * 6 + j]? = some c → if i < k then CInst (fun b => σ.length < b) s a j c else ((eInst a).cells.bind (·[j]?)) = some c

set_option maxRecDepth 100000 in
theorem f34 (l : List Inst) (hl : l.length ≤ big) (hf : ∀ x, x ∈ l → x.Fits) (σ : H) : Am.Spec Try.prog 34 [eInsts l] σ (fun o s => ∃ v rows, o = .ret v ∧ s = Stk σ rows ∧ NB v ∧ v.one = true ∧ v.cells = some [v] ∧ TInsts (fun b => σ.length ≤ b) s v l) := by
  refine Am.Spec.introS mixed pl34 Try.func34 rfl (by kernel_rfl) 34 rfl [.tmp 2] rfl (by simp) ?_
  simp (maxSteps := 10000000) only [bs, HeldL, aPick, aNil, Fr.eval, Fr.get, ofVal, Am.look, slotOf, aGuardS, ne_eq, reduceCtorEq, if_true, if_false, ite_true, ite_false, reduceIte, exists_eq_left', exists_eq_left, exists_eq', Nat.reduceEqDiff, Nat.reduceLT, Nat.reduceAdd, Nat.reduceLeDiff, Nat.reduceMul, Nat.reduceSub, eq_self_iff_true, forall_const, implies_true, splice, HeldO, imp_self, planOf, pl34, CB60, Lps35, Lsl35, Lsn35, Lw35, Ips35, Isl35, Iw35, Fap41_2, Faq41_2, R38, CB61, Fap41_5, Faq41_5, R39, CB62, St38, St39, eInsts]
  refine (f60 (l.map eInst) (enc_inst.ones l) (by simpa using hl) (enc_inst.pureL l) _).mono ?_
  intro o s0 hq
  simp only [Stk_nil] at hq
  obtain ⟨v0, rows0, rfl, rfl, hnb, hone, hcells, hv0, hlen, ht0⟩ := hq.tree enc_inst (C := fun _ a j c => CInst (fun b => σ.length < b) [] a j c ∨ True) (fun _ _ _ _ _ _ _ _ => .inr trivial)
  simp (maxSteps := 10000000) only [bs, HeldL, aPick, aNil, Fr.eval, Fr.get, ofVal, Am.look, slotOf, aGuardS, ne_eq, reduceCtorEq, if_true, if_false, ite_true, ite_false, reduceIte, exists_eq_left', exists_eq_left, exists_eq', Nat.reduceEqDiff, Nat.reduceLT, Nat.reduceAdd, Nat.reduceLeDiff, Nat.reduceMul, Nat.reduceSub, eq_self_iff_true, forall_const, implies_true, splice, HeldO, imp_self, planOf, pl34, CB60, Lps35, Lsl35, Lsn35, Lw35, Ips35, Isl35, Iw35, Fap41_2, Faq41_2, R38, CB61, Fap41_5, Faq41_5, R39, CB62, St38, St39, CallK_go, SpK_nb hnb, hlen Try.prog 35 41 _ U35, Stk_nil]
  refine W_loopC (St := Nat × H) (fun p => ⟨34, [(3, v0), (8, .int .i64 l.length), (9, .int .i64 p.1)]⟩) (fun p => p.2) (fun n p => p.1 + n = l.length ∧ ((l = [] ∧ p.2 = Stk σ rows0) ∨ Part34 σ p.2 l p.1)) l.length (0, Stk σ rows0) ?_ ?_ ?_
  · refine ⟨by simp, ?_⟩
    by_cases hle : l = []
    · exact .inl ⟨hle, rfl⟩
    rcases hv0 with h | ⟨h1, h2⟩
    · exact absurd h hle
    · refine .inr ⟨hle, by have := rowAt_lt h2; simpa using this, fun b hb => get_old hb, flat (l.map eInst), h2, enc_inst.len l, fun i a j c ha hj hc => ?_⟩
      rw [if_neg (by simp)]
      rw [enc_inst.cell l ha rfl hj] at hc
      exact hc
  · refine Weak.slots ?_
    simp (maxSteps := 10000000) only [cb, Am.look, reduceCtorEq, reduceIte, Nat.reduceEqDiff, Nat.reduceAdd, if_true, if_false, SlotsOf_nil, SlotsOf_cons]
  rintro n ⟨i, s⟩ ⟨hn, hp⟩
  simp only at hn hp
  refine W_stk ?_
  by_cases hlt : i < l.length
  · obtain ⟨x, hx⟩ := at_of_lt hlt
    have fx := hf x (List.mem_of_getElem? hx)
    obtain ⟨rfl, _⟩ : v0 = .sl σ.length 0 l.length 6 ∧ True := by
      rcases hv0 with rfl | h
      · simp at hlt
      · exact ⟨h.1, trivial⟩
    have hp : Part34 σ s l i := hp.resolve_left (by rintro ⟨rfl, _⟩; simp at hlt)
    obtain ⟨hle, hsl, hold, row, hrow, hrl, hcell⟩ := hp
    have c2 : row[i * 6 + 2]? = some (.ps 1 (x.args.map (.int .i64))) := by
      obtain ⟨c, hc⟩ := some_of_lt (l := row) (j := i * 6 + 2) (by rw [hrl]; omega)
      have := hcell i x 2 c hx (by omega) hc
      rw [if_neg (by omega)] at this
      rw [hc]; exact this.symm
    have c5 : row[i * 6 + 5]? = some (.ps 6 (x.dbg.map eDbg)) := by
      obtain ⟨c, hc⟩ := some_of_lt (l := row) (j := i * 6 + 5) (by rw [hrl]; omega)
      have := hcell i x 5 c hx (by omega) hc
      rw [if_neg (by omega)] at this
      rw [hc]; exact this.symm
    simp (maxSteps := 10000000) only [bs, HeldL, aPick, aNil, Fr.eval, Fr.get, ofVal, Am.look, slotOf, aGuardS, ne_eq, reduceCtorEq, if_true, if_false, ite_true, ite_false, reduceIte, exists_eq_left', exists_eq_left, exists_eq', Nat.reduceEqDiff, Nat.reduceLT, Nat.reduceAdd, Nat.reduceLeDiff, Nat.reduceMul, Nat.reduceSub, eq_self_iff_true, forall_const, implies_true, splice, HeldO, imp_self, planOf, pl34, CB60, Lps35, Lsl35, Lsn35, Lw35, Ips35, Isl35, Iw35, Fap41_2, Faq41_2, R38, CB61, Fap41_5, Faq41_5, R39, CB62, St38, St39, hlt, hsl, hrow, c2, c5]
    refine (f61 (x.args.map (.int .i64)) ((enc_int .i64).ones _) (by simpa using fx.args) ((enc_int .i64).pureL _) _).mono ?_
    intro o s1 hq1
    simp only [Stk_nil] at hq1
    obtain ⟨v1, rows1, rfl, rfl, hnb1, hone1, hcells1, hv1, hlen1, ht1⟩ := hq1.tree (enc_int .i64) (C := fun _ x _ c => c = .int .i64 x) (fun i a cs j c _ h1 h2 => by
      simp only [V.cells, Option.some.injEq] at h1; subst h1
      cases j with
      | zero => simpa using h2.symm
      | succ j => simp at h2)
    simp (maxSteps := 10000000) only [bs, HeldL, aPick, aNil, Fr.eval, Fr.get, ofVal, Am.look, slotOf, aGuardS, ne_eq, reduceCtorEq, if_true, if_false, ite_true, ite_false, reduceIte, exists_eq_left', exists_eq_left, exists_eq', Nat.reduceEqDiff, Nat.reduceLT, Nat.reduceAdd, Nat.reduceLeDiff, Nat.reduceMul, Nat.reduceSub, eq_self_iff_true, forall_const, implies_true, splice, HeldO, imp_self, planOf, pl34, CB60, Lps35, Lsl35, Lsn35, Lw35, Ips35, Isl35, Iw35, Fap41_2, Faq41_2, R38, CB61, Fap41_5, Faq41_5, R39, CB62, St38, St39, hlt, hsl, hrow, c2, c5, CallK_go, SpK_nb hnb1, Stk_stk]
    refine (f62 (x.dbg.map eDbg) (enc_dbg.ones _) (by simpa using fx.dbg) (enc_dbg.pureL _) _).mono ?_
    intro o s2 hq2
    obtain ⟨v2, rows2, rfl, rfl, hnb2, hone2, hcells2, hv2, hlen2, ht2⟩ := hq2.tree enc_dbg (C := fun _ d j c => (cDbg d)[j]? = some c) (fun i a cs j c _ h1 h2 => by
      simp only [V.cells, eDbg, Option.some.injEq] at h1; subst h1; exact h2)
    have wsu := wrap_succ (show i ≤ big by omega)
    simp (maxSteps := 10000000) only [bs, HeldL, aPick, aNil, Fr.eval, Fr.get, ofVal, Am.look, slotOf, aGuardS, ne_eq, reduceCtorEq, if_true, if_false, ite_true, ite_false, reduceIte, exists_eq_left', exists_eq_left, exists_eq', Nat.reduceEqDiff, Nat.reduceLT, Nat.reduceAdd, Nat.reduceLeDiff, Nat.reduceMul, Nat.reduceSub, eq_self_iff_true, forall_const, implies_true, splice, HeldO, imp_self, planOf, pl34, CB60, Lps35, Lsl35, Lsn35, Lw35, Ips35, Isl35, Iw35, Fap41_2, Faq41_2, R38, CB61, Fap41_5, Faq41_5, R39, CB62, St38, St39, hlt, hsl, hrow, c2, c5, CallK_go, SpK_nb hnb2, Stk_stk, hcells1, hcells2, hone1, hone2, hrl, List.length_set, wsu]
    refine ⟨by omega, by omega, RndC.mk (n - 1) (i + 1, Stk (upd s σ.length ((row.set (i * 6 + 2) v1).set (i * 6 + 5) v2)) (rows1 ++ rows2)) (by omega) ⟨by simp only; omega, .inr ?_⟩ (Weak.slots (by simp (maxSteps := 10000000) only [cb, Am.look, reduceCtorEq, reduceIte, Nat.reduceEqDiff, Nat.reduceAdd, if_true, if_false, SlotsOf_nil, SlotsOf_cons]))⟩
    refine ⟨hle, by simp only [Stk_len, upd_len]; omega, fun b hb => ?_, _, by rw [rowAt_old (by rw [upd_len]; exact hsl), rowAt_upd hsl], by simp [hrl], fun i' a j c ha hj hc => ?_⟩
    · rw [get_old (by rw [upd_len]; omega), get_upd_ne (by omega)]; exact hold b hb
    · have hi' := lt_of_some ha
      have t1 : TInts (fun b => σ.length < b) (Stk (upd s σ.length ((row.set (i * 6 + 2) v1).set (i * 6 + 5) v2)) (rows1 ++ rows2)) v1 x.args := TSl.mono ht1 (fun b hb => by omega) (fun b r hb hr => row_keepA hr (by omega)) (fun _ _ _ _ _ h => h)
      have t2 : TDbgs (fun b => σ.length < b) (Stk (upd s σ.length ((row.set (i * 6 + 2) v1).set (i * 6 + 5) v2)) (rows1 ++ rows2)) v2 x.dbg := TSl.mono ht2 (fun b hb => by rw [Stk_len] at hb; omega) (fun b r hb hr => row_keepB hr (by rw [Stk_len] at hb; omega)) (fun _ _ _ _ _ h => h)
      by_cases e5 : i' * 6 + j = i * 6 + 5
      · obtain ⟨rfl, rfl⟩ : i' = i ∧ j = 5 := by omega
        rw [List.getElem?_set_self (by rw [List.length_set]; omega)] at hc
        cases hc
        rw [hx] at ha; cases ha
        rw [if_pos (by omega)]
        exact t2
      rw [List.getElem?_set_ne (fun e => e5 e.symm)] at hc
      by_cases e2 : i' * 6 + j = i * 6 + 2
      · obtain ⟨rfl, rfl⟩ : i' = i ∧ j = 2 := by omega
        rw [List.getElem?_set_self (by omega)] at hc
        cases hc
        rw [hx] at ha; cases ha
        rw [if_pos (by omega)]
        exact t1
      rw [List.getElem?_set_ne (fun e => e2 e.symm)] at hc
      have h0 := hcell i' a j c ha hj hc
      by_cases q : i' < i
      · rw [if_pos q] at h0
        rw [if_pos (by omega)]
        exact h0.mono (fun _ h => h) (fun b r hb hr => row_keepA (rows := []) (by rw [Stk_nil]; exact hr) (by omega))
      · rw [if_neg q] at h0
        by_cases q2 : i' = i
        · subst q2
          rw [hx] at ha; cases ha
          rw [if_pos (by omega)]
          have : j = 0 ∨ j = 1 ∨ j = 3 ∨ j = 4 := by omega
          rcases this with rfl | rfl | rfl | rfl <;> simp [eInst, V.cells] at h0 <;> exact h0.symm
        · rw [if_neg (by omega)]; exact h0
  · simp (maxSteps := 10000000) only [bs, HeldL, aPick, aNil, Fr.eval, Fr.get, ofVal, Am.look, slotOf, aGuardS, ne_eq, reduceCtorEq, if_true, if_false, ite_true, ite_false, reduceIte, exists_eq_left', exists_eq_left, exists_eq', Nat.reduceEqDiff, Nat.reduceLT, Nat.reduceAdd, Nat.reduceLeDiff, Nat.reduceMul, Nat.reduceSub, eq_self_iff_true, forall_const, implies_true, splice, HeldO, imp_self, planOf, pl34, CB60, Lps35, Lsl35, Lsn35, Lw35, Ips35, Isl35, Iw35, Fap41_2, Faq41_2, R38, CB61, Fap41_5, Faq41_5, R39, CB62, St38, St39, hlt]
    rcases hp with ⟨rfl, rfl⟩ | ⟨hle, hsl, hold, row, hrow, hrl, hcell⟩
    · exact ⟨v0, rows0, rfl, Stk_nil _, hnb, hone, hcells, TSl.mono ht0 (fun _ h => h) (fun b r _ hr => by rw [Stk_nil]; exact hr) (fun i a j c ha => by simp at ha)⟩
    · obtain ⟨rows, rfl⟩ := Old.eq (σ := σ) (s := s) ⟨by omega, hold⟩
      refine ⟨v0, rows, rfl, Stk_nil _, hnb, hone, hcells, ?_⟩
      rw [Stk_nil]
      rcases hv0 with rfl | ⟨rfl, _⟩
      · exact absurd rfl hle
      · refine .inr ⟨σ.length, row, rfl, Nat.le_refl _, hrow, hrl, fun i' a j c ha hj hc => ?_⟩
        have h0 := hcell i' a j c ha hj hc
        rw [if_pos (by have := lt_of_some ha; omega)] at h0
        exact h0.mono (fun b hb => by omega) (fun _ _ _ h => h)
end Go.Proofs.Ytbnegbjaoiplmaa
