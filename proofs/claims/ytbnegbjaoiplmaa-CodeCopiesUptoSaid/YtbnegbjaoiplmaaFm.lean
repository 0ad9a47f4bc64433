/- The law of copies. -/
import Derived.Test.YtbnegbjaoiplmaaFl
set_option linter.unusedVariables false
set_option linter.unusedSimpArgs false
namespace Go.Proofs.Ytbnegbjaoiplmaa
open Go Go.Am

theorem Rd.up {N : Nat → Prop} {σ : H} : ∀ (d : Nat) {v v' : V}, Rd N σ d v v' → Rd N σ (d + 1) v v'
  | 0, v, v', h => by
    obtain ⟨h0, hp⟩ := h
    subst h0
    cases v' with
    | sl b o l z => simp [V.pure] at hp
    | snil => exact .inl rfl
    | agg cs =>
      simp only [V.pure] at hp
      exact ⟨cs, rfl, rfl, fun j c c' h1 h2 => by rw [h1] at h2; cases h2; exact ⟨rfl, pureL_mem hp c (List.mem_of_getElem? h1)⟩⟩
    | tup cs =>
      simp only [V.pure] at hp
      exact ⟨cs, rfl, rfl, fun j c c' h1 h2 => by rw [h1] at h2; cases h2; exact ⟨rfl, pureL_mem hp c (List.mem_of_getElem? h1)⟩⟩
    | _ => exact ⟨rfl, hp⟩
  | d + 1, v, v', h => by
    cases v with
    | sl b o l z =>
      obtain ⟨xs, row, h1, h2, h3, h4, h5, h6⟩ := h
      exact ⟨xs, row, h1, h2, h3, h4, h5, fun i j c' hc => by obtain ⟨c, k1, k2⟩ := h6 i j c' hc; exact ⟨c, k1, Rd.up d k2⟩⟩
    | snil => exact h
    | agg cs =>
      obtain ⟨cs', h1, h2, h3⟩ := h
      exact ⟨cs', h1, h2, fun j c c' k1 k2 => Rd.up d (h3 j c c' k1 k2)⟩
    | tup cs =>
      obtain ⟨cs', h1, h2, h3⟩ := h
      exact ⟨cs', h1, h2, fun j c c' k1 k2 => Rd.up d (h3 j c c' k1 k2)⟩
    | _ => exact h

theorem Same_lend (vF vS : V) (c : Code) (fc : c.Fits) {N : Nat → Prop} (s : H) (hF : TFuns N s vF c.funs) (hS : TStops N s vS c.stops) :
    Am.Spec Try.prog 14 [.agg [vF, vS, .int .i64 c.main], eCode c] s (fun o s' => s' = s ∧ o = .ret (.bool true)) := by
  have ha : ReadAll 5 s [.agg [vF, vS, .int .i64 c.main], eCode c] [eCode c, eCode c] := by
    refine ⟨⟨_, rfl, rfl, fun j a a' h1 h2 => ?_⟩, ⟨_, rfl, rfl, fun j a a' h1 h2 => ?_⟩, trivial⟩
    · match j, h1, h2 with
      | 0, h1, h2 => simp at h1 h2; subst h1 h2; exact (hF.mono (fun _ _ => trivial) (fun _ _ _ h => h)).rd
      | 1, h1, h2 => simp at h1 h2; subst h1 h2; exact Rd.up _ (Rd.up _ (hS.mono (fun _ _ => trivial) (fun _ _ _ h => h)).rd)
      | 2, h1, h2 => simp at h1 h2; subst h1 h2; exact Rd_int
      | j + 3, h1, h2 => simp at h1
    · rw [h1] at h2; cases h2
      match j, h1 with
      | 0, h1 => simp at h1; subst h1; exact Rd_ps
      | 1, h1 => simp at h1; subst h1; exact Rd_ps
      | 2, h1 => simp at h1; subst h1; exact Rd_int
      | j + 3, h1 => simp at h1
  refine (Spec.lend (R := fun v => v = .bool true) 5 ha ((f14 c c fc _).mono ?_)).mono ?_
  · rintro o s' ⟨rfl, rfl⟩
    exact ⟨rfl, _, rfl, trivial, by simp⟩
  · rintro o s' ⟨rfl, v, rfl, rfl⟩
    exact ⟨rfl, rfl⟩

theorem old_sh {s s' : H} (h : Old s s') : SameSh s s' := ⟨h.1, fun b row hr => ⟨row, h.row hr, rfl, fun j => .inl rfl⟩⟩

/-- What stays while the copy is written: its kinds; all that is not its own. -/
structure Inv (n1 n2 : Nat) (s3 s : H) : Prop where
  sh : SameSh s3 s
  out : ∀ b, b < s3.length → ¬ (n1 ≤ b ∧ b < n2) → s[b]? = s3[b]?
theorem Inv.old {n1 n2 : Nat} {s3 s : H} (h : Old s3 s) : Inv n1 n2 s3 s := ⟨old_sh h, fun b hb _ => h.2 b hb⟩
theorem Inv.stk {n1 n2 : Nat} {s3 s : H} (h : Inv n1 n2 s3 s) {rows : List (Option Ent)} : Inv n1 n2 s3 (Stk s rows) := ⟨h.sh.trans SameSh.stk, fun b hb hn => (get_old (Nat.lt_of_lt_of_le hb h.sh.len)).trans (h.out b hb hn)⟩
theorem Inv.row {n1 n2 : Nat} {s3 s : H} (h : Inv n1 n2 s3 s) {b : Nat} {r : List V} (hr : Am.rowAt s3 b = some r) (hn : ¬ (n1 ≤ b ∧ b < n2)) : Am.rowAt s b = some r := by
  rw [rowAt_eq] at hr ⊢
  rw [h.out b (by rw [← rowAt_eq] at hr; exact rowAt_lt hr) hn]; exact hr
theorem Inv.set {n1 n2 : Nat} {s3 s : H} (h : Inv n1 n2 s3 s) {b o : Nat} {row : List V} {k : IntKind} {a a' : Int} (hb : n1 ≤ b ∧ b < n2) (hr : Am.rowAt s b = some row) (ho : row[o]? = some (.int k a)) : Inv n1 n2 s3 (upd s b (row.set o (.int k a'))) :=
  ⟨h.sh.trans (SameSh.set hr ho), fun b' hb' hn => (get_upd_ne (by rintro rfl; exact hn hb)).trans (h.out b' hb' hn)⟩

/-- What stays while a block's instructions are written. -/
structure Inv2 (n1 n2 : Nat) (s3 : H) (bt : Nat) (vp vi : V) (y : Block) (s : H) : Prop where
  inv : Inv n1 n2 s3 s
  r : Am.rowAt s bt = some [vp, vi]
  bt : n2 ≤ bt
  p : YInst (fun b => n1 ≤ b ∧ b < n2) s vp y.phis
  i : YInst (fun b => n1 ≤ b ∧ b < n2) s vi y.insts
theorem Inv2.set {n1 n2 bt : Nat} {s3 s : H} {vp vi : V} {y : Block} (h : Inv2 n1 n2 s3 bt vp vi y s) {b o : Nat} {row : List V} {k : IntKind} {a a' : Int} (hb : n1 ≤ b ∧ b < n2) (hr : Am.rowAt s b = some row) (ho : row[o]? = some (.int k a)) : Inv2 n1 n2 s3 bt vp vi y (upd s b (row.set o (.int k a'))) :=
  ⟨h.inv.set hb hr ho, by rw [rowAt_upd_ne (by have := h.bt; omega)]; exact h.r, h.bt, h.p.sh (SameSh.set hr ho), h.i.sh (SameSh.set hr ho)⟩

set_option maxRecDepth 100000 in
theorem f4 (c : Code) (fc : c.Fits) (hw : wCode c ≤ big) (σ : H) : Am.Spec Try.prog 4 [eCode c] σ (fun o s => s = σ ∧ o = .ret (.bool true)) := by
  refine Spec.plain1 rfl ?_
  refine Am.Spec.introS mixed pl4 Try.func4 rfl (by kernel_rfl) 187 rfl [.tmp 2] rfl (by simp) ?_
  simp (maxSteps := 10000000) only [bs, HeldL, aPick, aNil, Fr.eval, Fr.get, ofVal, Am.look, slotOf, aGuardS, ne_eq, reduceCtorEq, if_true, if_false, ite_true, ite_false, reduceIte, exists_eq_left', exists_eq_left, exists_eq', Nat.reduceEqDiff, Nat.reduceLT, Nat.reduceAdd, Nat.reduceLeDiff, Nat.reduceMul, Nat.reduceSub, eq_self_iff_true, forall_const, implies_true, splice, HeldO, imp_self, planOf, pl4, CB6, R25, CB7, CB9, Al25, Am25, St25, CB13, CB14, Fap25_0, Faq25_0, R22, Lps22, Lsl22, Lsn22, Lw22, Ips22, Isl22, Iw22, R33, Al33, Am33, St33, CB15, CB17, CB16, Fap25_1, Faq25_1, R23, Lps23, Lsl23, Lsn23, Lw23, Ips23, Isl23, Iw23, R50, Lps50, Lsl50, Lsn50, Lw50, Ips50, Isl50, Iw50, Fap52_0, Faq52_0, R3, St3, Fap33_3, Faq33_3, R31, Lps31, Lsl31, Lsn31, Lw31, Ips31, Isl31, Iw31, Fap37_2, Faq37_2, R5, St5, Fap37_0, Faq37_0, R35, Fap37_1, Faq37_1, Bs53, Lps53, Lsl53, Lsn53, Lw53, Ips53, Isl53, Iw53, Lps35, Lsl35, Lsn35, Lw35, Ips35, Isl35, Iw35, Fap41_0, Faq41_0, Fap41_2, Faq41_2, R38, Lps38, Lsl38, Lsn38, Lw38, Ips38, Isl38, Iw38, Fap41_5, Faq41_5, R39, Lps39, Lsl39, Lsn39, Lw39, Ips39, Isl39, Iw39, Fap55_1, Faq55_1, eCode]
  refine L_of (f6 _) ?_
  simp (maxSteps := 10000000) only [bs, HeldL, aPick, aNil, Fr.eval, Fr.get, ofVal, Am.look, slotOf, aGuardS, ne_eq, reduceCtorEq, if_true, if_false, ite_true, ite_false, reduceIte, exists_eq_left', exists_eq_left, exists_eq', Nat.reduceEqDiff, Nat.reduceLT, Nat.reduceAdd, Nat.reduceLeDiff, Nat.reduceMul, Nat.reduceSub, eq_self_iff_true, forall_const, implies_true, splice, HeldO, imp_self, planOf, pl4, CB6, R25, CB7, CB9, Al25, Am25, St25, CB13, CB14, Fap25_0, Faq25_0, R22, Lps22, Lsl22, Lsn22, Lw22, Ips22, Isl22, Iw22, R33, Al33, Am33, St33, CB15, CB17, CB16, Fap25_1, Faq25_1, R23, Lps23, Lsl23, Lsn23, Lw23, Ips23, Isl23, Iw23, R50, Lps50, Lsl50, Lsn50, Lw50, Ips50, Isl50, Iw50, Fap52_0, Faq52_0, R3, St3, Fap33_3, Faq33_3, R31, Lps31, Lsl31, Lsn31, Lw31, Ips31, Isl31, Iw31, Fap37_2, Faq37_2, R5, St5, Fap37_0, Faq37_0, R35, Fap37_1, Faq37_1, Bs53, Lps53, Lsl53, Lsn53, Lw53, Ips53, Isl53, Iw53, Lps35, Lsl35, Lsn35, Lw35, Ips35, Isl35, Iw35, Fap41_0, Faq41_0, Fap41_2, Faq41_2, R38, Lps38, Lsl38, Lsn38, Lw38, Ips38, Isl38, Iw38, Fap41_5, Faq41_5, R39, Lps39, Lsl39, Lsn39, Lw39, Ips39, Isl39, Iw39, Fap55_1, Faq55_1, eCode]
  refine L_of (f7 c fc hw _) ?_
  simp (maxSteps := 10000000) only [bs, HeldL, aPick, aNil, Fr.eval, Fr.get, ofVal, Am.look, slotOf, aGuardS, ne_eq, reduceCtorEq, if_true, if_false, ite_true, ite_false, reduceIte, exists_eq_left', exists_eq_left, exists_eq', Nat.reduceEqDiff, Nat.reduceLT, Nat.reduceAdd, Nat.reduceLeDiff, Nat.reduceMul, Nat.reduceSub, eq_self_iff_true, forall_const, implies_true, splice, HeldO, imp_self, planOf, pl4, CB6, R25, CB7, CB9, Al25, Am25, St25, CB13, CB14, Fap25_0, Faq25_0, R22, Lps22, Lsl22, Lsn22, Lw22, Ips22, Isl22, Iw22, R33, Al33, Am33, St33, CB15, CB17, CB16, Fap25_1, Faq25_1, R23, Lps23, Lsl23, Lsn23, Lw23, Ips23, Isl23, Iw23, R50, Lps50, Lsl50, Lsn50, Lw50, Ips50, Isl50, Iw50, Fap52_0, Faq52_0, R3, St3, Fap33_3, Faq33_3, R31, Lps31, Lsl31, Lsn31, Lw31, Ips31, Isl31, Iw31, Fap37_2, Faq37_2, R5, St5, Fap37_0, Faq37_0, R35, Fap37_1, Faq37_1, Bs53, Lps53, Lsl53, Lsn53, Lw53, Ips53, Isl53, Iw53, Lps35, Lsl35, Lsn35, Lw35, Ips35, Isl35, Iw35, Fap41_0, Faq41_0, Fap41_2, Faq41_2, R38, Lps38, Lsl38, Lsn38, Lw38, Ips38, Isl38, Iw38, Fap41_5, Faq41_5, R39, Lps39, Lsl39, Lsn39, Lw39, Ips39, Isl39, Iw39, Fap55_1, Faq55_1, eCode]
  refine ⟨fun hfew => ?_, fun hfew => ?_⟩
  · refine L_of (f9 c fc _) ?_
    simp (maxSteps := 10000000) only [bs, HeldL, aPick, aNil, Fr.eval, Fr.get, ofVal, Am.look, slotOf, aGuardS, ne_eq, reduceCtorEq, if_true, if_false, ite_true, ite_false, reduceIte, exists_eq_left', exists_eq_left, exists_eq', Nat.reduceEqDiff, Nat.reduceLT, Nat.reduceAdd, Nat.reduceLeDiff, Nat.reduceMul, Nat.reduceSub, eq_self_iff_true, forall_const, implies_true, splice, HeldO, imp_self, planOf, pl4, CB6, R25, CB7, CB9, Al25, Am25, St25, CB13, CB14, Fap25_0, Faq25_0, R22, Lps22, Lsl22, Lsn22, Lw22, Ips22, Isl22, Iw22, R33, Al33, Am33, St33, CB15, CB17, CB16, Fap25_1, Faq25_1, R23, Lps23, Lsl23, Lsn23, Lw23, Ips23, Isl23, Iw23, R50, Lps50, Lsl50, Lsn50, Lw50, Ips50, Isl50, Iw50, Fap52_0, Faq52_0, R3, St3, Fap33_3, Faq33_3, R31, Lps31, Lsl31, Lsn31, Lw31, Ips31, Isl31, Iw31, Fap37_2, Faq37_2, R5, St5, Fap37_0, Faq37_0, R35, Fap37_1, Faq37_1, Bs53, Lps53, Lsl53, Lsn53, Lw53, Ips53, Isl53, Iw53, Lps35, Lsl35, Lsn35, Lw35, Ips35, Isl35, Iw35, Fap41_0, Faq41_0, Fap41_2, Faq41_2, R38, Lps38, Lsl38, Lsn38, Lw38, Ips38, Isl38, Iw38, Fap41_5, Faq41_5, R39, Lps39, Lsl39, Lsn39, Lw39, Ips39, Isl39, Iw39, Fap55_1, Faq55_1, eCode, SpK_agg]
    refine (f13 c fc _).mono ?_
    rintro o s2 ⟨vF, vS, rows, rfl, rfl, tF, tS⟩
    obtain ⟨oF, cF, bF⟩ := TSl.ones tF
    obtain ⟨oS, cS, bS⟩ := TSl.ones tS
    have q1 : Am.rowAt (Stk (Stk σ [some (.row (rCode c)), some (.row (rCode c))]) rows) σ.length = some (rCode c) := row_keepS (rowAt_stk0 rfl)
    have q3 : Am.rowAt (Stk (Stk σ [some (.row (rCode c)), some (.row (rCode c))]) rows) (σ.length + 1) = some (rCode c) := row_keepS (rowAt_stk rfl)
    have hold : Old σ (Stk (Stk σ [some (.row (rCode c)), some (.row (rCode c))]) rows) := Old.stk (Old.stk (Old.refl σ) _) _
    have hlen : σ.length + 2 ≤ (Stk (Stk σ [some (.row (rCode c)), some (.row (rCode c))]) rows).length := by simp only [Stk_len, List.length_cons, List.length_nil]; omega
    have hN : ∀ b, (Stk σ [some (.row (rCode c)), some (.row (rCode c))]).length ≤ b → σ.length + 2 ≤ b := fun b hb => by simp only [Stk_len, List.length_cons, List.length_nil] at hb; omega
    obtain ⟨s2, hs2⟩ : ∃ s2, s2 = Stk (Stk σ [some (.row (rCode c)), some (.row (rCode c))]) rows := ⟨_, rfl⟩
    have tF : TFuns (fun b => σ.length + 2 ≤ b) s2 vF c.funs := by rw [hs2]; exact TFuns.mono hN (fun _ _ _ h => h) tF
    have tS : TStops (fun b => σ.length + 2 ≤ b) s2 vS c.stops := by rw [hs2]; exact TStops.mono hN (fun _ _ _ h => h) tS
    rw [← hs2] at q1 q3 hold hlen
    show CallK _ _ _ _ _ _ (Stk (Stk σ [some (.row (rCode c)), some (.row (rCode c))]) rows)
    rw [← hs2, ← Stk_nil s2]
    clear hs2 hN
    have m1 : σ.length < s2.length := by omega
    have m3 : σ.length + 1 < s2.length := by omega
    simp (maxSteps := 10000000) only [bs, HeldL, aPick, aNil, Fr.eval, Fr.get, ofVal, Am.look, slotOf, aGuardS, ne_eq, reduceCtorEq, if_true, if_false, ite_true, ite_false, reduceIte, exists_eq_left', exists_eq_left, exists_eq', Nat.reduceEqDiff, Nat.reduceLT, Nat.reduceAdd, Nat.reduceLeDiff, Nat.reduceMul, Nat.reduceSub, eq_self_iff_true, forall_const, implies_true, splice, HeldO, imp_self, planOf, pl4, CB6, R25, CB7, CB9, Al25, Am25, St25, CB13, CB14, Fap25_0, Faq25_0, R22, Lps22, Lsl22, Lsn22, Lw22, Ips22, Isl22, Iw22, R33, Al33, Am33, St33, CB15, CB17, CB16, Fap25_1, Faq25_1, R23, Lps23, Lsl23, Lsn23, Lw23, Ips23, Isl23, Iw23, R50, Lps50, Lsl50, Lsn50, Lw50, Ips50, Isl50, Iw50, Fap52_0, Faq52_0, R3, St3, Fap33_3, Faq33_3, R31, Lps31, Lsl31, Lsn31, Lw31, Ips31, Isl31, Iw31, Fap37_2, Faq37_2, R5, St5, Fap37_0, Faq37_0, R35, Fap37_1, Faq37_1, Bs53, Lps53, Lsl53, Lsn53, Lw53, Ips53, Isl53, Iw53, Lps35, Lsl35, Lsn35, Lw35, Ips35, Isl35, Iw35, Fap41_0, Faq41_0, Fap41_2, Faq41_2, R38, Lps38, Lsl38, Lsn38, Lw38, Ips38, Isl38, Iw38, Fap41_5, Faq41_5, R39, Lps39, Lsl39, Lsn39, Lw39, Ips39, Isl39, Iw39, Fap55_1, Faq55_1, eCode, CallK_go, SpK_agg, oF, cF, oS, cS, q1, q3, m1, m3, rCode]
    obtain ⟨s3, hs3⟩ : ∃ s3, s3 = Stk s2 [some (.row [vF, vS, .int .i64 c.main])] := ⟨_, rfl⟩
    have q1 : Am.rowAt s3 σ.length = some (rCode c) := by rw [hs3]; exact row_keepS q1
    have q3 : Am.rowAt s3 (σ.length + 1) = some (rCode c) := by rw [hs3]; exact row_keepS q3
    have q4 : Am.rowAt s3 s2.length = some [vF, vS, .int .i64 c.main] := by rw [hs3]; exact rowAt_stk0 rfl
    have hold : Old σ s3 := by rw [hs3]; exact Old.stk hold _
    have tF : TFuns (fun b => σ.length + 2 ≤ b ∧ b < s2.length) s3 vF c.funs := by rw [hs3]; exact TFuns.mono2 (fun b r hb hr => ⟨⟨hb, rowAt_lt hr⟩, row_keepS hr⟩) tF
    have tS : TStops (fun b => σ.length + 2 ≤ b ∧ b < s2.length) s3 vS c.stops := by rw [hs3]; exact TStops.mono2 (fun b r hb hr => ⟨⟨hb, rowAt_lt hr⟩, row_keepS hr⟩) tS
    have hl3 : s3.length = s2.length + 1 := by rw [hs3, Stk_len]; rfl
    rw [← hs3, ← Stk_nil s3]
    refine L_of (Same_lend vF vS c fc _ (by rw [Stk_nil]; exact tF) (by rw [Stk_nil]; exact tS)) ?_
    have m1 : σ.length < s3.length := by omega
    have m3 : σ.length + 1 < s3.length := by omega
    have m4 : s2.length < s3.length := by omega
    simp (maxSteps := 10000000) only [bs, HeldL, aPick, aNil, Fr.eval, Fr.get, ofVal, Am.look, slotOf, aGuardS, ne_eq, reduceCtorEq, if_true, if_false, ite_true, ite_false, reduceIte, exists_eq_left', exists_eq_left, exists_eq', Nat.reduceEqDiff, Nat.reduceLT, Nat.reduceAdd, Nat.reduceLeDiff, Nat.reduceMul, Nat.reduceSub, eq_self_iff_true, forall_const, implies_true, splice, HeldO, imp_self, planOf, pl4, CB6, R25, CB7, CB9, Al25, Am25, St25, CB13, CB14, Fap25_0, Faq25_0, R22, Lps22, Lsl22, Lsn22, Lw22, Ips22, Isl22, Iw22, R33, Al33, Am33, St33, CB15, CB17, CB16, Fap25_1, Faq25_1, R23, Lps23, Lsl23, Lsn23, Lw23, Ips23, Isl23, Iw23, R50, Lps50, Lsl50, Lsn50, Lw50, Ips50, Isl50, Iw50, Fap52_0, Faq52_0, R3, St3, Fap33_3, Faq33_3, R31, Lps31, Lsl31, Lsn31, Lw31, Ips31, Isl31, Iw31, Fap37_2, Faq37_2, R5, St5, Fap37_0, Faq37_0, R35, Fap37_1, Faq37_1, Bs53, Lps53, Lsl53, Lsn53, Lw53, Ips53, Isl53, Iw53, Lps35, Lsl35, Lsn35, Lw35, Ips35, Isl35, Iw35, Fap41_0, Faq41_0, Fap41_2, Faq41_2, R38, Lps38, Lsl38, Lsn38, Lw38, Ips38, Isl38, Iw38, Fap41_5, Faq41_5, R39, Lps39, Lsl39, Lsn39, Lw39, Ips39, Isl39, Iw39, Fap55_1, Faq55_1, q1, q3, q4, m1, m3, m4, rCode]
    have fsh := fc.funs
    have ssh := fc.stops
    refine W_loopC (St := Nat × H) (fun p => ⟨187, [(1, .ptr σ.length 0), (3, .ptr (σ.length + 1) 0), (4, .ptr s2.length 0), (32, .ps 4 (c.funs.map eFun)), (33, .int .i64 c.funs.length), (34, .int .i64 p.1)]⟩) (fun p => p.2) (fun n p => p.1 + n = c.funs.length ∧ Old s3 p.2) c.funs.length (0, s3) ⟨by simp, Old.refl _⟩ (by rw [Stk_nil]; exact Weak.slots (by simp (maxSteps := 10000000) only [cb, Am.look, reduceCtorEq, reduceIte, Nat.reduceEqDiff, Nat.reduceAdd, if_true, if_false, SlotsOf_nil, SlotsOf_cons])) ?_
    rintro n ⟨i, s⟩ ⟨hn, hi⟩
    simp only at hn hi
    refine W_stk (σ := s) ?_
    have p1 := hi.row q1
    have p3 := hi.row q3
    have p4 := hi.row q4
    have e1 := rowAt_lt p1
    have e3 := rowAt_lt p3
    have e4 := rowAt_lt p4
    by_cases hlt : i < c.funs.length
    · obtain ⟨x, hx⟩ := at_of_lt hlt
      have fx := fc.allF x (List.mem_of_getElem? hx)
      have gl : (graph x).length ≤ big := by simp [graph]; exact fx.blocks
      have gle : ∀ l, l ∈ graph x → l.length ≤ big := fun l hl => by
        obtain ⟨b, _, rfl⟩ := List.mem_map.1 hl
        unfold ways
        split
        · exact (by decide : 2 ≤ big)
        · split
          · exact (by decide : 1 ≤ big)
          · exact Nat.zero_le _
      simp (maxSteps := 10000000) only [bs, HeldL, aPick, aNil, Fr.eval, Fr.get, ofVal, Am.look, slotOf, aGuardS, ne_eq, reduceCtorEq, if_true, if_false, ite_true, ite_false, reduceIte, exists_eq_left', exists_eq_left, exists_eq', Nat.reduceEqDiff, Nat.reduceLT, Nat.reduceAdd, Nat.reduceLeDiff, Nat.reduceMul, Nat.reduceSub, eq_self_iff_true, forall_const, implies_true, splice, HeldO, imp_self, planOf, pl4, CB6, R25, CB7, CB9, Al25, Am25, St25, CB13, CB14, Fap25_0, Faq25_0, R22, Lps22, Lsl22, Lsn22, Lw22, Ips22, Isl22, Iw22, R33, Al33, Am33, St33, CB15, CB17, CB16, Fap25_1, Faq25_1, R23, Lps23, Lsl23, Lsn23, Lw23, Ips23, Isl23, Iw23, R50, Lps50, Lsl50, Lsn50, Lw50, Ips50, Isl50, Iw50, Fap52_0, Faq52_0, R3, St3, Fap33_3, Faq33_3, R31, Lps31, Lsl31, Lsn31, Lw31, Ips31, Isl31, Iw31, Fap37_2, Faq37_2, R5, St5, Fap37_0, Faq37_0, R35, Fap37_1, Faq37_1, Bs53, Lps53, Lsl53, Lsn53, Lw53, Ips53, Isl53, Iw53, Lps35, Lsl35, Lsn35, Lw35, Ips35, Isl35, Iw35, Fap41_0, Faq41_0, Fap41_2, Faq41_2, R38, Lps38, Lsl38, Lsn38, Lw38, Ips38, Isl38, Iw38, Fap41_5, Faq41_5, R39, Lps39, Lsl39, Lsn39, Lw39, Ips39, Isl39, Iw39, Fap55_1, Faq55_1, hlt, hx, p1, p3, p4, e1, e3, e4, rCode, eFun]
      refine L_of (f15 x fx _) ?_
      simp (maxSteps := 10000000) only [bs, HeldL, aPick, aNil, Fr.eval, Fr.get, ofVal, Am.look, slotOf, aGuardS, ne_eq, reduceCtorEq, if_true, if_false, ite_true, ite_false, reduceIte, exists_eq_left', exists_eq_left, exists_eq', Nat.reduceEqDiff, Nat.reduceLT, Nat.reduceAdd, Nat.reduceLeDiff, Nat.reduceMul, Nat.reduceSub, eq_self_iff_true, forall_const, implies_true, splice, HeldO, imp_self, planOf, pl4, CB6, R25, CB7, CB9, Al25, Am25, St25, CB13, CB14, Fap25_0, Faq25_0, R22, Lps22, Lsl22, Lsn22, Lw22, Ips22, Isl22, Iw22, R33, Al33, Am33, St33, CB15, CB17, CB16, Fap25_1, Faq25_1, R23, Lps23, Lsl23, Lsn23, Lw23, Ips23, Isl23, Iw23, R50, Lps50, Lsl50, Lsn50, Lw50, Ips50, Isl50, Iw50, Fap52_0, Faq52_0, R3, St3, Fap33_3, Faq33_3, R31, Lps31, Lsl31, Lsn31, Lw31, Ips31, Isl31, Iw31, Fap37_2, Faq37_2, R5, St5, Fap37_0, Faq37_0, R35, Fap37_1, Faq37_1, Bs53, Lps53, Lsl53, Lsn53, Lw53, Ips53, Isl53, Iw53, Lps35, Lsl35, Lsn35, Lw35, Ips35, Isl35, Iw35, Fap41_0, Faq41_0, Fap41_2, Faq41_2, R38, Lps38, Lsl38, Lsn38, Lw38, Ips38, Isl38, Iw38, Fap41_5, Faq41_5, R39, Lps39, Lsl39, Lsn39, Lw39, Ips39, Isl39, Iw39, Fap55_1, Faq55_1, hlt, hx, p1, p3, p4, e1, e3, e4, rCode, eFun, intss, SpK_ps]
      refine L_of (f17 x fx _) ?_
      simp (maxSteps := 10000000) only [bs, HeldL, aPick, aNil, Fr.eval, Fr.get, ofVal, Am.look, slotOf, aGuardS, ne_eq, reduceCtorEq, if_true, if_false, ite_true, ite_false, reduceIte, exists_eq_left', exists_eq_left, exists_eq', Nat.reduceEqDiff, Nat.reduceLT, Nat.reduceAdd, Nat.reduceLeDiff, Nat.reduceMul, Nat.reduceSub, eq_self_iff_true, forall_const, implies_true, splice, HeldO, imp_self, planOf, pl4, CB6, R25, CB7, CB9, Al25, Am25, St25, CB13, CB14, Fap25_0, Faq25_0, R22, Lps22, Lsl22, Lsn22, Lw22, Ips22, Isl22, Iw22, R33, Al33, Am33, St33, CB15, CB17, CB16, Fap25_1, Faq25_1, R23, Lps23, Lsl23, Lsn23, Lw23, Ips23, Isl23, Iw23, R50, Lps50, Lsl50, Lsn50, Lw50, Ips50, Isl50, Iw50, Fap52_0, Faq52_0, R3, St3, Fap33_3, Faq33_3, R31, Lps31, Lsl31, Lsn31, Lw31, Ips31, Isl31, Iw31, Fap37_2, Faq37_2, R5, St5, Fap37_0, Faq37_0, R35, Fap37_1, Faq37_1, Bs53, Lps53, Lsl53, Lsn53, Lw53, Ips53, Isl53, Iw53, Lps35, Lsl35, Lsn35, Lw35, Ips35, Isl35, Iw35, Fap41_0, Faq41_0, Fap41_2, Faq41_2, R38, Lps38, Lsl38, Lsn38, Lw38, Ips38, Isl38, Iw38, Fap41_5, Faq41_5, R39, Lps39, Lsl39, Lsn39, Lw39, Ips39, Isl39, Iw39, Fap55_1, Faq55_1, hlt, hx, p1, p3, p4, e1, e3, e4, rCode, eFun, intss, SpK_ps]
      refine L_of (f16 (graph x) (graph x) gl gle _) ?_
      simp (maxSteps := 10000000) only [bs, HeldL, aPick, aNil, Fr.eval, Fr.get, ofVal, Am.look, slotOf, aGuardS, ne_eq, reduceCtorEq, if_true, if_false, ite_true, ite_false, reduceIte, exists_eq_left', exists_eq_left, exists_eq', Nat.reduceEqDiff, Nat.reduceLT, Nat.reduceAdd, Nat.reduceLeDiff, Nat.reduceMul, Nat.reduceSub, eq_self_iff_true, forall_const, implies_true, splice, HeldO, imp_self, planOf, pl4, CB6, R25, CB7, CB9, Al25, Am25, St25, CB13, CB14, Fap25_0, Faq25_0, R22, Lps22, Lsl22, Lsn22, Lw22, Ips22, Isl22, Iw22, R33, Al33, Am33, St33, CB15, CB17, CB16, Fap25_1, Faq25_1, R23, Lps23, Lsl23, Lsn23, Lw23, Ips23, Isl23, Iw23, R50, Lps50, Lsl50, Lsn50, Lw50, Ips50, Isl50, Iw50, Fap52_0, Faq52_0, R3, St3, Fap33_3, Faq33_3, R31, Lps31, Lsl31, Lsn31, Lw31, Ips31, Isl31, Iw31, Fap37_2, Faq37_2, R5, St5, Fap37_0, Faq37_0, R35, Fap37_1, Faq37_1, Bs53, Lps53, Lsl53, Lsn53, Lw53, Ips53, Isl53, Iw53, Lps35, Lsl35, Lsn35, Lw35, Ips35, Isl35, Iw35, Fap41_0, Faq41_0, Fap41_2, Faq41_2, R38, Lps38, Lsl38, Lsn38, Lw38, Ips38, Isl38, Iw38, Fap41_5, Faq41_5, R39, Lps39, Lsl39, Lsn39, Lw39, Ips39, Isl39, Iw39, Fap55_1, Faq55_1, hlt, wrap_succ (show i ≤ big by omega), decide_true]
      exact RndC.mk (n - 1) (i + 1, _) (by omega) ⟨by simp only; omega, Old.stk hi _⟩ (Weak.slots (by simp (maxSteps := 10000000) only [cb, Am.look, reduceCtorEq, reduceIte, Nat.reduceEqDiff, Nat.reduceAdd, if_true, if_false, SlotsOf_nil, SlotsOf_cons]))
    have kF := tF.kinds
    have kS := tS.kinds
    have hv0 : Inv (σ.length + 2) s2.length s3 s := Inv.old hi
    have keep : ∀ {t : H}, Inv (σ.length + 2) s2.length s3 t → Am.rowAt t σ.length = some (rCode c) ∧ Am.rowAt t (σ.length + 1) = some (rCode c) ∧ Am.rowAt t s2.length = some [vF, vS, .int .i64 c.main] ∧ YF (fun b => σ.length + 2 ≤ b ∧ b < s2.length) t vF c.funs ∧ YSt (fun b => σ.length + 2 ≤ b ∧ b < s2.length) t vS c.stops := fun h => ⟨h.row q1 (by omega), h.row q3 (by omega), h.row q4 (by omega), kF.sh h.sh, kS.sh h.sh⟩
    simp (maxSteps := 10000000) only [bs, HeldL, aPick, aNil, Fr.eval, Fr.get, ofVal, Am.look, slotOf, aGuardS, ne_eq, reduceCtorEq, if_true, if_false, ite_true, ite_false, reduceIte, exists_eq_left', exists_eq_left, exists_eq', Nat.reduceEqDiff, Nat.reduceLT, Nat.reduceAdd, Nat.reduceLeDiff, Nat.reduceMul, Nat.reduceSub, eq_self_iff_true, forall_const, implies_true, splice, HeldO, imp_self, planOf, pl4, CB6, R25, CB7, CB9, Al25, Am25, St25, CB13, CB14, Fap25_0, Faq25_0, R22, Lps22, Lsl22, Lsn22, Lw22, Ips22, Isl22, Iw22, R33, Al33, Am33, St33, CB15, CB17, CB16, Fap25_1, Faq25_1, R23, Lps23, Lsl23, Lsn23, Lw23, Ips23, Isl23, Iw23, R50, Lps50, Lsl50, Lsn50, Lw50, Ips50, Isl50, Iw50, Fap52_0, Faq52_0, R3, St3, Fap33_3, Faq33_3, R31, Lps31, Lsl31, Lsn31, Lw31, Ips31, Isl31, Iw31, Fap37_2, Faq37_2, R5, St5, Fap37_0, Faq37_0, R35, Fap37_1, Faq37_1, Bs53, Lps53, Lsl53, Lsn53, Lw53, Ips53, Isl53, Iw53, Lps35, Lsl35, Lsn35, Lw35, Ips35, Isl35, Iw35, Fap41_0, Faq41_0, Fap41_2, Faq41_2, R38, Lps38, Lsl38, Lsn38, Lw38, Ips38, Isl38, Iw38, Fap41_5, Faq41_5, R39, Lps39, Lsl39, Lsn39, Lw39, Ips39, Isl39, Iw39, Fap55_1, Faq55_1, hlt, p4, e4, TSl.lenEq kS U23]
    refine W_loopC (St := Nat × H) (fun p => ⟨187, [(1, .ptr σ.length 0), (3, .ptr (σ.length + 1) 0), (4, .ptr s2.length 0), (53, .int .i64 c.stops.length), (54, .int .i64 p.1)]⟩) (fun p => p.2) (fun n p => p.1 + n = c.stops.length ∧ Inv (σ.length + 2) s2.length s3 p.2) c.stops.length (0, s) ⟨by simp, hv0⟩ (by rw [Stk_nil]; exact Weak.slots (by simp (maxSteps := 10000000) only [cb, Am.look, reduceCtorEq, reduceIte, Nat.reduceEqDiff, Nat.reduceAdd, if_true, if_false, SlotsOf_nil, SlotsOf_cons])) ?_
    rintro n ⟨i, s⟩ ⟨hn, hi⟩
    simp only at hn hi
    refine W_stk (σ := s) ?_
    by_cases hlt : i < c.stops.length
    · obtain ⟨x, hx⟩ := at_of_lt hlt
      have hbx : x.length ≤ big := fc.allS x (List.mem_of_getElem? hx)
      obtain ⟨p1, p3, p4, _, yS⟩ := keep hi
      have e4 := rowAt_lt p4
      obtain ⟨b, row, rfl, hb, hr, hrl, hcell⟩ := TSl.at yS hx
      have eb := rowAt_lt hr
      obtain ⟨v, hv, yx⟩ := hcell 0 (by omega)
      simp only [Nat.mul_one, Nat.add_zero] at hv
      simp (maxSteps := 10000000) only [bs, HeldL, aPick, aNil, Fr.eval, Fr.get, ofVal, Am.look, slotOf, aGuardS, ne_eq, reduceCtorEq, if_true, if_false, ite_true, ite_false, reduceIte, exists_eq_left', exists_eq_left, exists_eq', Nat.reduceEqDiff, Nat.reduceLT, Nat.reduceAdd, Nat.reduceLeDiff, Nat.reduceMul, Nat.reduceSub, eq_self_iff_true, forall_const, implies_true, splice, HeldO, imp_self, planOf, pl4, CB6, R25, CB7, CB9, Al25, Am25, St25, CB13, CB14, Fap25_0, Faq25_0, R22, Lps22, Lsl22, Lsn22, Lw22, Ips22, Isl22, Iw22, R33, Al33, Am33, St33, CB15, CB17, CB16, Fap25_1, Faq25_1, R23, Lps23, Lsl23, Lsn23, Lw23, Ips23, Isl23, Iw23, R50, Lps50, Lsl50, Lsn50, Lw50, Ips50, Isl50, Iw50, Fap52_0, Faq52_0, R3, St3, Fap33_3, Faq33_3, R31, Lps31, Lsl31, Lsn31, Lw31, Ips31, Isl31, Iw31, Fap37_2, Faq37_2, R5, St5, Fap37_0, Faq37_0, R35, Fap37_1, Faq37_1, Bs53, Lps53, Lsl53, Lsn53, Lw53, Ips53, Isl53, Iw53, Lps35, Lsl35, Lsn35, Lw35, Ips35, Isl35, Iw35, Fap41_0, Faq41_0, Fap41_2, Faq41_2, R38, Lps38, Lsl38, Lsn38, Lw38, Ips38, Isl38, Iw38, Fap41_5, Faq41_5, R39, Lps39, Lsl39, Lsn39, Lw39, Ips39, Isl39, Iw39, Fap55_1, Faq55_1, hlt, p4, e4, hr, eb, hv, Nat.mul_one, TSl.lenEq yx U50]
      refine W_loopC (St := Nat × H) (fun p => ⟨187, [(1, .ptr σ.length 0), (3, .ptr (σ.length + 1) 0), (4, .ptr s2.length 0), (8, .int .i64 i), (53, .int .i64 c.stops.length), (54, .int .i64 i), (62, .int .i64 x.length), (63, .int .i64 p.1)]⟩) (fun p => p.2) (fun n p => p.1 + n = x.length ∧ Inv (σ.length + 2) s2.length s3 p.2) x.length (0, s) ⟨by simp, hi⟩ (by rw [Stk_nil]; exact Weak.slots (by simp (maxSteps := 10000000) only [cb, Am.look, reduceCtorEq, reduceIte, Nat.reduceEqDiff, Nat.reduceAdd, if_true, if_false, SlotsOf_nil, SlotsOf_cons])) ?_
      rintro n2 ⟨k, s⟩ ⟨hn2, hi⟩
      simp only at hn2 hi
      refine W_stk (σ := s) ?_
      by_cases hlk : k < x.length
      · obtain ⟨y, hy⟩ := at_of_lt hlk
        obtain ⟨p1, p3, p4, _, yS⟩ := keep hi
        have e4 := rowAt_lt p4
        obtain ⟨b', row, e, hb', hr, hrl, hcell⟩ := TSl.at yS hx
        cases e
        have eb := rowAt_lt hr
        obtain ⟨v, hv, yx⟩ := hcell 0 (by omega)
        simp only [Nat.mul_one, Nat.add_zero] at hv
        obtain ⟨d, rowd, rfl, hd, hrd, hrdl, hcd⟩ := TSl.at yx hy
        have ed := rowAt_lt hrd
        obtain ⟨w, hw2, a, rfl⟩ := hcd 0 (by omega)
        simp only [Nat.add_zero] at hw2
        have hkd : k * 2 < rowd.length := by omega
        simp (maxSteps := 10000000) only [bs, HeldL, aPick, aNil, Fr.eval, Fr.get, ofVal, Am.look, slotOf, aGuardS, ne_eq, reduceCtorEq, if_true, if_false, ite_true, ite_false, reduceIte, exists_eq_left', exists_eq_left, exists_eq', Nat.reduceEqDiff, Nat.reduceLT, Nat.reduceAdd, Nat.reduceLeDiff, Nat.reduceMul, Nat.reduceSub, eq_self_iff_true, forall_const, implies_true, splice, HeldO, imp_self, planOf, pl4, CB6, R25, CB7, CB9, Al25, Am25, St25, CB13, CB14, Fap25_0, Faq25_0, R22, Lps22, Lsl22, Lsn22, Lw22, Ips22, Isl22, Iw22, R33, Al33, Am33, St33, CB15, CB17, CB16, Fap25_1, Faq25_1, R23, Lps23, Lsl23, Lsn23, Lw23, Ips23, Isl23, Iw23, R50, Lps50, Lsl50, Lsn50, Lw50, Ips50, Isl50, Iw50, Fap52_0, Faq52_0, R3, St3, Fap33_3, Faq33_3, R31, Lps31, Lsl31, Lsn31, Lw31, Ips31, Isl31, Iw31, Fap37_2, Faq37_2, R5, St5, Fap37_0, Faq37_0, R35, Fap37_1, Faq37_1, Bs53, Lps53, Lsl53, Lsn53, Lw53, Ips53, Isl53, Iw53, Lps35, Lsl35, Lsn35, Lw35, Ips35, Isl35, Iw35, Fap41_0, Faq41_0, Fap41_2, Faq41_2, R38, Lps38, Lsl38, Lsn38, Lw38, Ips38, Isl38, Iw38, Fap41_5, Faq41_5, R39, Lps39, Lsl39, Lsn39, Lw39, Ips39, Isl39, Iw39, Fap55_1, Faq55_1, hlt, hlk, p4, e4, hr, eb, hv, Nat.mul_one, hrd, ed, hw2, B_xor, hkd, wrap_succ (show k ≤ big by omega)]
        exact RndC.mk (n2 - 1) (k + 1, _) (by omega) ⟨by simp only; omega, (hi.set hd hrd hw2).stk⟩ (Weak.slots (by simp (maxSteps := 10000000) only [cb, Am.look, reduceCtorEq, reduceIte, Nat.reduceEqDiff, Nat.reduceAdd, if_true, if_false, SlotsOf_nil, SlotsOf_cons]))
      · simp (maxSteps := 10000000) only [bs, HeldL, aPick, aNil, Fr.eval, Fr.get, ofVal, Am.look, slotOf, aGuardS, ne_eq, reduceCtorEq, if_true, if_false, ite_true, ite_false, reduceIte, exists_eq_left', exists_eq_left, exists_eq', Nat.reduceEqDiff, Nat.reduceLT, Nat.reduceAdd, Nat.reduceLeDiff, Nat.reduceMul, Nat.reduceSub, eq_self_iff_true, forall_const, implies_true, splice, HeldO, imp_self, planOf, pl4, CB6, R25, CB7, CB9, Al25, Am25, St25, CB13, CB14, Fap25_0, Faq25_0, R22, Lps22, Lsl22, Lsn22, Lw22, Ips22, Isl22, Iw22, R33, Al33, Am33, St33, CB15, CB17, CB16, Fap25_1, Faq25_1, R23, Lps23, Lsl23, Lsn23, Lw23, Ips23, Isl23, Iw23, R50, Lps50, Lsl50, Lsn50, Lw50, Ips50, Isl50, Iw50, Fap52_0, Faq52_0, R3, St3, Fap33_3, Faq33_3, R31, Lps31, Lsl31, Lsn31, Lw31, Ips31, Isl31, Iw31, Fap37_2, Faq37_2, R5, St5, Fap37_0, Faq37_0, R35, Fap37_1, Faq37_1, Bs53, Lps53, Lsl53, Lsn53, Lw53, Ips53, Isl53, Iw53, Lps35, Lsl35, Lsn35, Lw35, Ips35, Isl35, Iw35, Fap41_0, Faq41_0, Fap41_2, Faq41_2, R38, Lps38, Lsl38, Lsn38, Lw38, Ips38, Isl38, Iw38, Fap41_5, Faq41_5, R39, Lps39, Lsl39, Lsn39, Lw39, Ips39, Isl39, Iw39, Fap55_1, Faq55_1, hlk, wrap_succ (show i ≤ big by omega)]
        exact RndC.mk (n - 1) (i + 1, s) (by omega) ⟨by simp only; omega, hi⟩ (by rw [Stk_nil]; exact Weak.slots (by simp (maxSteps := 10000000) only [cb, Am.look, reduceCtorEq, reduceIte, Nat.reduceEqDiff, Nat.reduceAdd, if_true, if_false, SlotsOf_nil, SlotsOf_cons]))
    obtain ⟨p1, p3, p4, yF, _⟩ := keep hi
    have e4 := rowAt_lt p4
    simp (maxSteps := 10000000) only [bs, HeldL, aPick, aNil, Fr.eval, Fr.get, ofVal, Am.look, slotOf, aGuardS, ne_eq, reduceCtorEq, if_true, if_false, ite_true, ite_false, reduceIte, exists_eq_left', exists_eq_left, exists_eq', Nat.reduceEqDiff, Nat.reduceLT, Nat.reduceAdd, Nat.reduceLeDiff, Nat.reduceMul, Nat.reduceSub, eq_self_iff_true, forall_const, implies_true, splice, HeldO, imp_self, planOf, pl4, CB6, R25, CB7, CB9, Al25, Am25, St25, CB13, CB14, Fap25_0, Faq25_0, R22, Lps22, Lsl22, Lsn22, Lw22, Ips22, Isl22, Iw22, R33, Al33, Am33, St33, CB15, CB17, CB16, Fap25_1, Faq25_1, R23, Lps23, Lsl23, Lsn23, Lw23, Ips23, Isl23, Iw23, R50, Lps50, Lsl50, Lsn50, Lw50, Ips50, Isl50, Iw50, Fap52_0, Faq52_0, R3, St3, Fap33_3, Faq33_3, R31, Lps31, Lsl31, Lsn31, Lw31, Ips31, Isl31, Iw31, Fap37_2, Faq37_2, R5, St5, Fap37_0, Faq37_0, R35, Fap37_1, Faq37_1, Bs53, Lps53, Lsl53, Lsn53, Lw53, Ips53, Isl53, Iw53, Lps35, Lsl35, Lsn35, Lw35, Ips35, Isl35, Iw35, Fap41_0, Faq41_0, Fap41_2, Faq41_2, R38, Lps38, Lsl38, Lsn38, Lw38, Ips38, Isl38, Iw38, Fap41_5, Faq41_5, R39, Lps39, Lsl39, Lsn39, Lw39, Ips39, Isl39, Iw39, Fap55_1, Faq55_1, hlt, p4, e4, TSl.lenEq yF U22]
    refine W_loopC (St := Nat × H) (fun p => ⟨187, [(1, .ptr σ.length 0), (3, .ptr (σ.length + 1) 0), (4, .ptr s2.length 0), (82, .int .i64 c.funs.length), (83, .int .i64 p.1)]⟩) (fun p => p.2) (fun n p => p.1 + n = c.funs.length ∧ Inv (σ.length + 2) s2.length s3 p.2) c.funs.length (0, s) ⟨by simp, hi⟩ (by rw [Stk_nil]; exact Weak.slots (by simp (maxSteps := 10000000) only [cb, Am.look, reduceCtorEq, reduceIte, Nat.reduceEqDiff, Nat.reduceAdd, if_true, if_false, SlotsOf_nil, SlotsOf_cons])) ?_
    rintro n ⟨i, s⟩ ⟨hn, hi⟩
    simp only at hn hi
    refine W_stk (σ := s) ?_
    obtain ⟨p1, p3, p4, yF, _⟩ := keep hi
    have e1 := rowAt_lt p1
    have e3 := rowAt_lt p3
    have e4 := rowAt_lt p4
    by_cases hlt : i < c.funs.length
    · obtain ⟨x, hx⟩ := at_of_lt hlt
      have fx := fc.allF x (List.mem_of_getElem? hx)
      have hbx := fx.blocks
      obtain ⟨b, row, rfl, hb, hr, hrl, hcell⟩ := TSl.at yF hx
      have eb := rowAt_lt hr
      obtain ⟨v, hv, yx⟩ := hcell 3 (by omega)
      have yx := yx rfl
      simp (maxSteps := 10000000) only [bs, HeldL, aPick, aNil, Fr.eval, Fr.get, ofVal, Am.look, slotOf, aGuardS, ne_eq, reduceCtorEq, if_true, if_false, ite_true, ite_false, reduceIte, exists_eq_left', exists_eq_left, exists_eq', Nat.reduceEqDiff, Nat.reduceLT, Nat.reduceAdd, Nat.reduceLeDiff, Nat.reduceMul, Nat.reduceSub, eq_self_iff_true, forall_const, implies_true, splice, HeldO, imp_self, planOf, pl4, CB6, R25, CB7, CB9, Al25, Am25, St25, CB13, CB14, Fap25_0, Faq25_0, R22, Lps22, Lsl22, Lsn22, Lw22, Ips22, Isl22, Iw22, R33, Al33, Am33, St33, CB15, CB17, CB16, Fap25_1, Faq25_1, R23, Lps23, Lsl23, Lsn23, Lw23, Ips23, Isl23, Iw23, R50, Lps50, Lsl50, Lsn50, Lw50, Ips50, Isl50, Iw50, Fap52_0, Faq52_0, R3, St3, Fap33_3, Faq33_3, R31, Lps31, Lsl31, Lsn31, Lw31, Ips31, Isl31, Iw31, Fap37_2, Faq37_2, R5, St5, Fap37_0, Faq37_0, R35, Fap37_1, Faq37_1, Bs53, Lps53, Lsl53, Lsn53, Lw53, Ips53, Isl53, Iw53, Lps35, Lsl35, Lsn35, Lw35, Ips35, Isl35, Iw35, Fap41_0, Faq41_0, Fap41_2, Faq41_2, R38, Lps38, Lsl38, Lsn38, Lw38, Ips38, Isl38, Iw38, Fap41_5, Faq41_5, R39, Lps39, Lsl39, Lsn39, Lw39, Ips39, Isl39, Iw39, Fap55_1, Faq55_1, hlt, p4, e4, hr, eb, hv, TSl.lenEq yx U31]
      refine W_loopC (St := Nat × H) (fun p => ⟨187, [(1, .ptr σ.length 0), (3, .ptr (σ.length + 1) 0), (4, .ptr s2.length 0), (10, .int .i64 i), (82, .int .i64 c.funs.length), (83, .int .i64 i), (92, .int .i64 x.blocks.length), (93, .int .i64 p.1)]⟩) (fun p => p.2) (fun n p => p.1 + n = x.blocks.length ∧ Inv (σ.length + 2) s2.length s3 p.2) x.blocks.length (0, s) ⟨by simp, hi⟩ (by rw [Stk_nil]; exact Weak.slots (by simp (maxSteps := 10000000) only [cb, Am.look, reduceCtorEq, reduceIte, Nat.reduceEqDiff, Nat.reduceAdd, if_true, if_false, SlotsOf_nil, SlotsOf_cons])) ?_
      rintro n2 ⟨k, s⟩ ⟨hn2, hi⟩
      simp only at hn2 hi
      refine W_stk (σ := s) ?_
      by_cases hlk : k < x.blocks.length
      · obtain ⟨y, hy⟩ := at_of_lt hlk
        have fy := fx.all y (List.mem_of_getElem? hy)
        obtain ⟨p1, p3, p4, yF, _⟩ := keep hi
        have e4 := rowAt_lt p4
        obtain ⟨b', row, e, hb', hr, hrl, hcell⟩ := TSl.at yF hx
        cases e
        have eb := rowAt_lt hr
        obtain ⟨v, hv, yx⟩ := hcell 3 (by omega)
        have yx := yx rfl
        obtain ⟨d, rowd, rfl, hd, hrd, hrdl, hcd⟩ := TSl.at yx hy
        have ed := rowAt_lt hrd
        obtain ⟨w2, hw2, _, _, k2⟩ := hcd 2 (by omega)
        obtain ⟨a, rfl⟩ := k2 rfl
        obtain ⟨vp, hvp, kp, _, _⟩ := hcd 0 (by omega)
        obtain ⟨vi, hvi, _, ki, _⟩ := hcd 1 (by omega)
        have kp := kp rfl
        have ki := ki rfl
        simp only [Nat.add_zero] at hvp
        have hkd : k * 6 + 2 < rowd.length := by omega
        obtain ⟨op, cp, _⟩ := TSl.ones kp
        obtain ⟨oi, ci, _⟩ := TSl.ones ki
        have hvp' : ∀ z, (rowd.set (k * 6 + 2) z)[k * 6]? = some vp := fun z => by rw [List.getElem?_set_ne (by omega)]; exact hvp
        have hvi' : ∀ z, (rowd.set (k * 6 + 2) z)[k * 6 + 1]? = some vi := fun z => by rw [List.getElem?_set_ne (by omega)]; exact hvi
        simp (maxSteps := 10000000) only [bs, HeldL, aPick, aNil, Fr.eval, Fr.get, ofVal, Am.look, slotOf, aGuardS, ne_eq, reduceCtorEq, if_true, if_false, ite_true, ite_false, reduceIte, exists_eq_left', exists_eq_left, exists_eq', Nat.reduceEqDiff, Nat.reduceLT, Nat.reduceAdd, Nat.reduceLeDiff, Nat.reduceMul, Nat.reduceSub, eq_self_iff_true, forall_const, implies_true, splice, HeldO, imp_self, planOf, pl4, CB6, R25, CB7, CB9, Al25, Am25, St25, CB13, CB14, Fap25_0, Faq25_0, R22, Lps22, Lsl22, Lsn22, Lw22, Ips22, Isl22, Iw22, R33, Al33, Am33, St33, CB15, CB17, CB16, Fap25_1, Faq25_1, R23, Lps23, Lsl23, Lsn23, Lw23, Ips23, Isl23, Iw23, R50, Lps50, Lsl50, Lsn50, Lw50, Ips50, Isl50, Iw50, Fap52_0, Faq52_0, R3, St3, Fap33_3, Faq33_3, R31, Lps31, Lsl31, Lsn31, Lw31, Ips31, Isl31, Iw31, Fap37_2, Faq37_2, R5, St5, Fap37_0, Faq37_0, R35, Fap37_1, Faq37_1, Bs53, Lps53, Lsl53, Lsn53, Lw53, Ips53, Isl53, Iw53, Lps35, Lsl35, Lsn35, Lw35, Ips35, Isl35, Iw35, Fap41_0, Faq41_0, Fap41_2, Faq41_2, R38, Lps38, Lsl38, Lsn38, Lw38, Ips38, Isl38, Iw38, Fap41_5, Faq41_5, R39, Lps39, Lsl39, Lsn39, Lw39, Ips39, Isl39, Iw39, Fap55_1, Faq55_1, hlt, hlk, p4, e4, hr, eb, hv, hrd, ed, hw2, hkd, B_xor, hvp', hvi', op, cp, oi, ci]
        have hsh : Inv (σ.length + 2) s2.length s3 (upd s d (rowd.set (k * 6 + 2) (.int .u8 (bits .xor .u8 a 1)))) := hi.set hd hrd hw2
        have hs3 : s2.length ≤ s.length := by have := hi.sh.len; omega
        have sh1 : SameSh s (upd s d (rowd.set (k * 6 + 2) (.int .u8 (bits .xor .u8 a 1)))) := SameSh.set hrd hw2
        have hi2 : Inv2 (σ.length + 2) s2.length s3 s.length vp vi y (Stk (upd s d (rowd.set (k * 6 + 2) (.int .u8 (bits .xor .u8 a 1)))) [some (.row [vp, vi])]) := ⟨hsh.stk, rowAt_stk0 upd_len, hs3, (kp.sh sh1).sh SameSh.stk, (ki.sh sh1).sh SameSh.stk⟩
        refine W_loopC (St := Nat × H) (fun p => ⟨187, [(1, .ptr σ.length 0), (3, .ptr (σ.length + 1) 0), (4, .ptr s2.length 0), (10, .int .i64 i), (82, .int .i64 c.funs.length), (83, .int .i64 i), (92, .int .i64 x.blocks.length), (93, .int .i64 k), (119, .sl s.length 0 2 1), (120, .int .i64 ((2 : Nat) : Int)), (121, .int .i64 p.1)]⟩) (fun p => p.2) (fun n p => p.1 + n = 2 ∧ Inv2 (σ.length + 2) s2.length s3 s.length vp vi y p.2) 2 (0, _) ⟨rfl, hi2⟩ (Weak.slots (by simp (maxSteps := 10000000) only [cb, Am.look, reduceCtorEq, reduceIte, Nat.reduceEqDiff, Nat.reduceAdd, if_true, if_false, SlotsOf_nil, SlotsOf_cons])) ?_
        rintro n3 ⟨m, u⟩ ⟨hn3, iu⟩
        simp only at hn3 iu
        refine W_stk (σ := u) ?_
        have eu := rowAt_lt iu.r
        by_cases hlm : m < 2
        · obtain ⟨z, vz, hz, kz, hfz⟩ : ∃ z vz, ([vp, vi] : List V)[m]? = some vz ∧ YInst (fun b => σ.length + 2 ≤ b ∧ b < s2.length) u vz z ∧ (z.length ≤ big ∧ ∀ w, w ∈ z → w.Fits) ∧ ∀ t, Inv2 (σ.length + 2) s2.length s3 s.length vp vi y t → YInst (fun b => σ.length + 2 ≤ b ∧ b < s2.length) t vz z := by
            have : m = 0 ∨ m = 1 := by omega
            rcases this with rfl | rfl
            · exact ⟨y.phis, vp, rfl, iu.p, ⟨fy.phis, fy.allP⟩, fun t h => h.p⟩
            · exact ⟨y.insts, vi, rfl, iu.i, ⟨fy.insts, fy.allI⟩, fun t h => h.i⟩
          obtain ⟨hfz, hkz⟩ := hfz
          simp (maxSteps := 10000000) only [bs, HeldL, aPick, aNil, Fr.eval, Fr.get, ofVal, Am.look, slotOf, aGuardS, ne_eq, reduceCtorEq, if_true, if_false, ite_true, ite_false, reduceIte, exists_eq_left', exists_eq_left, exists_eq', Nat.reduceEqDiff, Nat.reduceLT, Nat.reduceAdd, Nat.reduceLeDiff, Nat.reduceMul, Nat.reduceSub, eq_self_iff_true, forall_const, implies_true, splice, HeldO, imp_self, planOf, pl4, CB6, R25, CB7, CB9, Al25, Am25, St25, CB13, CB14, Fap25_0, Faq25_0, R22, Lps22, Lsl22, Lsn22, Lw22, Ips22, Isl22, Iw22, R33, Al33, Am33, St33, CB15, CB17, CB16, Fap25_1, Faq25_1, R23, Lps23, Lsl23, Lsn23, Lw23, Ips23, Isl23, Iw23, R50, Lps50, Lsl50, Lsn50, Lw50, Ips50, Isl50, Iw50, Fap52_0, Faq52_0, R3, St3, Fap33_3, Faq33_3, R31, Lps31, Lsl31, Lsn31, Lw31, Ips31, Isl31, Iw31, Fap37_2, Faq37_2, R5, St5, Fap37_0, Faq37_0, R35, Fap37_1, Faq37_1, Bs53, Lps53, Lsl53, Lsn53, Lw53, Ips53, Isl53, Iw53, Lps35, Lsl35, Lsn35, Lw35, Ips35, Isl35, Iw35, Fap41_0, Faq41_0, Fap41_2, Faq41_2, R38, Lps38, Lsl38, Lsn38, Lw38, Ips38, Isl38, Iw38, Fap41_5, Faq41_5, R39, Lps39, Lsl39, Lsn39, Lw39, Ips39, Isl39, Iw39, Fap55_1, Faq55_1, hlm, iu.r, eu, hz, Nat.mul_one, TSl.lenEq kz U35]
          refine W_loopC (St := Nat × H) (fun p => ⟨187, [(1, .ptr σ.length 0), (3, .ptr (σ.length + 1) 0), (4, .ptr s2.length 0), (10, .int .i64 i), (82, .int .i64 c.funs.length), (83, .int .i64 i), (92, .int .i64 x.blocks.length), (93, .int .i64 k), (119, .sl s.length 0 2 1), (120, .int .i64 ((2 : Nat) : Int)), (121, .int .i64 m), (14, vz), (126, .int .i64 z.length), (127, .int .i64 p.1)]⟩) (fun p => p.2) (fun n p => p.1 + n = z.length ∧ Inv2 (σ.length + 2) s2.length s3 s.length vp vi y p.2) z.length (0, u) ⟨by simp, iu⟩ (by rw [Stk_nil]; exact Weak.slots (by simp (maxSteps := 10000000) only [cb, Am.look, reduceCtorEq, reduceIte, Nat.reduceEqDiff, Nat.reduceAdd, if_true, if_false, SlotsOf_nil, SlotsOf_cons])) ?_
          rintro n4 ⟨q, t⟩ ⟨hn4, it⟩
          simp only at hn4 it
          refine W_stk (σ := t) ?_
          by_cases hlq : q < z.length
          · obtain ⟨w, hw⟩ := at_of_lt hlq
            have fw := hfz.2 w (List.mem_of_getElem? hw)
            obtain ⟨g, rowg, rfl, hg, hrg, hrgl, hcg⟩ := TSl.at (hkz t it) hw
            have eg := rowAt_lt hrg
            obtain ⟨c0, hc0, k0, _, _⟩ := hcg 0 (by omega)
            obtain ⟨a0, rfl⟩ := k0 rfl
            obtain ⟨va, hva, _, ka, _⟩ := hcg 2 (by omega)
            obtain ⟨vd, hvd, _, _, kd⟩ := hcg 5 (by omega)
            have ka := ka rfl
            have kd := kd rfl
            simp only [Nat.add_zero] at hc0
            have hqd : q * 6 < rowg.length := by omega
            have hva' : ∀ z, (rowg.set (q * 6) z)[q * 6 + 2]? = some va := fun z => by rw [List.getElem?_set_ne (by omega)]; exact hva
            simp (maxSteps := 10000000) only [bs, HeldL, aPick, aNil, Fr.eval, Fr.get, ofVal, Am.look, slotOf, aGuardS, ne_eq, reduceCtorEq, if_true, if_false, ite_true, ite_false, reduceIte, exists_eq_left', exists_eq_left, exists_eq', Nat.reduceEqDiff, Nat.reduceLT, Nat.reduceAdd, Nat.reduceLeDiff, Nat.reduceMul, Nat.reduceSub, eq_self_iff_true, forall_const, implies_true, splice, HeldO, imp_self, planOf, pl4, CB6, R25, CB7, CB9, Al25, Am25, St25, CB13, CB14, Fap25_0, Faq25_0, R22, Lps22, Lsl22, Lsn22, Lw22, Ips22, Isl22, Iw22, R33, Al33, Am33, St33, CB15, CB17, CB16, Fap25_1, Faq25_1, R23, Lps23, Lsl23, Lsn23, Lw23, Ips23, Isl23, Iw23, R50, Lps50, Lsl50, Lsn50, Lw50, Ips50, Isl50, Iw50, Fap52_0, Faq52_0, R3, St3, Fap33_3, Faq33_3, R31, Lps31, Lsl31, Lsn31, Lw31, Ips31, Isl31, Iw31, Fap37_2, Faq37_2, R5, St5, Fap37_0, Faq37_0, R35, Fap37_1, Faq37_1, Bs53, Lps53, Lsl53, Lsn53, Lw53, Ips53, Isl53, Iw53, Lps35, Lsl35, Lsn35, Lw35, Ips35, Isl35, Iw35, Fap41_0, Faq41_0, Fap41_2, Faq41_2, R38, Lps38, Lsl38, Lsn38, Lw38, Ips38, Isl38, Iw38, Fap41_5, Faq41_5, R39, Lps39, Lsl39, Lsn39, Lw39, Ips39, Isl39, Iw39, Fap55_1, Faq55_1, hlq, hrg, eg, hc0, B_xor, hqd, hva', TSl.lenEq ka U38]
            have it1 := it.set (a' := bits .xor .u8 a0 1) hg hrg hc0
            refine W_loopC (St := Nat × H) (fun p => ⟨187, [(1, .ptr σ.length 0), (3, .ptr (σ.length + 1) 0), (4, .ptr s2.length 0), (10, .int .i64 i), (82, .int .i64 c.funs.length), (83, .int .i64 i), (92, .int .i64 x.blocks.length), (93, .int .i64 k), (119, .sl s.length 0 2 1), (120, .int .i64 ((2 : Nat) : Int)), (121, .int .i64 m), (14, .sl g 0 z.length 6), (15, .int .i64 q), (126, .int .i64 z.length), (127, .int .i64 q), (143, .int .i64 w.args.length), (144, .int .i64 p.1)]⟩) (fun p => p.2) (fun n p => p.1 + n = w.args.length ∧ Inv2 (σ.length + 2) s2.length s3 s.length vp vi y p.2) w.args.length (0, _) ⟨by simp, it1⟩ (by rw [Stk_nil]; exact Weak.slots (by simp (maxSteps := 10000000) only [cb, Am.look, reduceCtorEq, reduceIte, Nat.reduceEqDiff, Nat.reduceAdd, if_true, if_false, SlotsOf_nil, SlotsOf_cons])) ?_
            rintro n5 ⟨r, t⟩ ⟨hn5, it⟩
            simp only at hn5 it
            refine W_stk (σ := t) ?_
            obtain ⟨g2, rowg, e, hg, hrg, hrgl, hcg⟩ := TSl.at (hkz t it) hw
            cases e
            have eg := rowAt_lt hrg
            obtain ⟨va, hva, _, ka, _⟩ := hcg 2 (by omega)
            obtain ⟨vd, hvd, _, _, kd⟩ := hcg 5 (by omega)
            have ka := ka rfl
            have kd := kd rfl
            by_cases hlr : r < w.args.length
            · obtain ⟨aa, haa⟩ := at_of_lt hlr
              obtain ⟨f, rowf, rfl, hf, hrf, hrfl, hcf⟩ := TSl.at ka haa
              have ef := rowAt_lt hrf
              obtain ⟨c1, hc1, b1, rfl⟩ := hcf 0 (by omega)
              simp only [Nat.add_zero, Nat.mul_one] at hc1
              have hrd : r < rowf.length := by omega
              have hrb : r ≤ big := by have := fw.args; omega
              simp (maxSteps := 10000000) only [bs, HeldL, aPick, aNil, Fr.eval, Fr.get, ofVal, Am.look, slotOf, aGuardS, ne_eq, reduceCtorEq, if_true, if_false, ite_true, ite_false, reduceIte, exists_eq_left', exists_eq_left, exists_eq', Nat.reduceEqDiff, Nat.reduceLT, Nat.reduceAdd, Nat.reduceLeDiff, Nat.reduceMul, Nat.reduceSub, eq_self_iff_true, forall_const, implies_true, splice, HeldO, imp_self, planOf, pl4, CB6, R25, CB7, CB9, Al25, Am25, St25, CB13, CB14, Fap25_0, Faq25_0, R22, Lps22, Lsl22, Lsn22, Lw22, Ips22, Isl22, Iw22, R33, Al33, Am33, St33, CB15, CB17, CB16, Fap25_1, Faq25_1, R23, Lps23, Lsl23, Lsn23, Lw23, Ips23, Isl23, Iw23, R50, Lps50, Lsl50, Lsn50, Lw50, Ips50, Isl50, Iw50, Fap52_0, Faq52_0, R3, St3, Fap33_3, Faq33_3, R31, Lps31, Lsl31, Lsn31, Lw31, Ips31, Isl31, Iw31, Fap37_2, Faq37_2, R5, St5, Fap37_0, Faq37_0, R35, Fap37_1, Faq37_1, Bs53, Lps53, Lsl53, Lsn53, Lw53, Ips53, Isl53, Iw53, Lps35, Lsl35, Lsn35, Lw35, Ips35, Isl35, Iw35, Fap41_0, Faq41_0, Fap41_2, Faq41_2, R38, Lps38, Lsl38, Lsn38, Lw38, Ips38, Isl38, Iw38, Fap41_5, Faq41_5, R39, Lps39, Lsl39, Lsn39, Lw39, Ips39, Isl39, Iw39, Fap55_1, Faq55_1, hlq, hlr, hrg, eg, hva, hrf, ef, hc1, B_xor, hrd, Nat.mul_one, wrap_succ hrb]
              exact RndC.mk (n5 - 1) (r + 1, _) (by omega) ⟨by simp only; omega, it.set hf hrf hc1⟩ (by rw [Stk_nil]; exact Weak.slots (by simp (maxSteps := 10000000) only [cb, Am.look, reduceCtorEq, reduceIte, Nat.reduceEqDiff, Nat.reduceAdd, if_true, if_false, SlotsOf_nil, SlotsOf_cons]))
            · simp (maxSteps := 10000000) only [bs, HeldL, aPick, aNil, Fr.eval, Fr.get, ofVal, Am.look, slotOf, aGuardS, ne_eq, reduceCtorEq, if_true, if_false, ite_true, ite_false, reduceIte, exists_eq_left', exists_eq_left, exists_eq', Nat.reduceEqDiff, Nat.reduceLT, Nat.reduceAdd, Nat.reduceLeDiff, Nat.reduceMul, Nat.reduceSub, eq_self_iff_true, forall_const, implies_true, splice, HeldO, imp_self, planOf, pl4, CB6, R25, CB7, CB9, Al25, Am25, St25, CB13, CB14, Fap25_0, Faq25_0, R22, Lps22, Lsl22, Lsn22, Lw22, Ips22, Isl22, Iw22, R33, Al33, Am33, St33, CB15, CB17, CB16, Fap25_1, Faq25_1, R23, Lps23, Lsl23, Lsn23, Lw23, Ips23, Isl23, Iw23, R50, Lps50, Lsl50, Lsn50, Lw50, Ips50, Isl50, Iw50, Fap52_0, Faq52_0, R3, St3, Fap33_3, Faq33_3, R31, Lps31, Lsl31, Lsn31, Lw31, Ips31, Isl31, Iw31, Fap37_2, Faq37_2, R5, St5, Fap37_0, Faq37_0, R35, Fap37_1, Faq37_1, Bs53, Lps53, Lsl53, Lsn53, Lw53, Ips53, Isl53, Iw53, Lps35, Lsl35, Lsn35, Lw35, Ips35, Isl35, Iw35, Fap41_0, Faq41_0, Fap41_2, Faq41_2, R38, Lps38, Lsl38, Lsn38, Lw38, Ips38, Isl38, Iw38, Fap41_5, Faq41_5, R39, Lps39, Lsl39, Lsn39, Lw39, Ips39, Isl39, Iw39, Fap55_1, Faq55_1, hlq, hlr, hrg, eg, hvd, TSl.lenEq kd U39]
              refine W_loopC (St := Nat × H) (fun p => ⟨187, [(1, .ptr σ.length 0), (3, .ptr (σ.length + 1) 0), (4, .ptr s2.length 0), (10, .int .i64 i), (82, .int .i64 c.funs.length), (83, .int .i64 i), (92, .int .i64 x.blocks.length), (93, .int .i64 k), (119, .sl s.length 0 2 1), (120, .int .i64 ((2 : Nat) : Int)), (121, .int .i64 m), (14, .sl g 0 z.length 6), (15, .int .i64 q), (126, .int .i64 z.length), (127, .int .i64 q), (163, .int .i64 w.dbg.length), (164, .int .i64 p.1)]⟩) (fun p => p.2) (fun n p => p.1 + n = w.dbg.length ∧ Inv2 (σ.length + 2) s2.length s3 s.length vp vi y p.2) w.dbg.length (0, t) ⟨by simp, it⟩ (by rw [Stk_nil]; exact Weak.slots (by simp (maxSteps := 10000000) only [cb, Am.look, reduceCtorEq, reduceIte, Nat.reduceEqDiff, Nat.reduceAdd, if_true, if_false, SlotsOf_nil, SlotsOf_cons])) ?_
              rintro n6 ⟨r, t⟩ ⟨hn6, it⟩
              simp only at hn6 it
              refine W_stk (σ := t) ?_
              by_cases hlr : r < w.dbg.length
              · obtain ⟨g2, rowg, e, hg, hrg, hrgl, hcg⟩ := TSl.at (hkz t it) hw
                cases e
                have eg := rowAt_lt hrg
                obtain ⟨vd, hvd, _, _, kd⟩ := hcg 5 (by omega)
                have kd := kd rfl
                obtain ⟨aa, haa⟩ := at_of_lt hlr
                obtain ⟨f, rowf, rfl, hf, hrf, hrfl, hcf⟩ := TSl.at kd haa
                have ef := rowAt_lt hrf
                obtain ⟨c1, hc1, k1⟩ := hcf 1 (by omega)
                obtain ⟨b1, rfl⟩ := k1 rfl
                have hrd : r * 6 + 1 < rowf.length := by omega
                have hrb : r ≤ big := by have := fw.dbg; omega
                simp (maxSteps := 10000000) only [bs, HeldL, aPick, aNil, Fr.eval, Fr.get, ofVal, Am.look, slotOf, aGuardS, ne_eq, reduceCtorEq, if_true, if_false, ite_true, ite_false, reduceIte, exists_eq_left', exists_eq_left, exists_eq', Nat.reduceEqDiff, Nat.reduceLT, Nat.reduceAdd, Nat.reduceLeDiff, Nat.reduceMul, Nat.reduceSub, eq_self_iff_true, forall_const, implies_true, splice, HeldO, imp_self, planOf, pl4, CB6, R25, CB7, CB9, Al25, Am25, St25, CB13, CB14, Fap25_0, Faq25_0, R22, Lps22, Lsl22, Lsn22, Lw22, Ips22, Isl22, Iw22, R33, Al33, Am33, St33, CB15, CB17, CB16, Fap25_1, Faq25_1, R23, Lps23, Lsl23, Lsn23, Lw23, Ips23, Isl23, Iw23, R50, Lps50, Lsl50, Lsn50, Lw50, Ips50, Isl50, Iw50, Fap52_0, Faq52_0, R3, St3, Fap33_3, Faq33_3, R31, Lps31, Lsl31, Lsn31, Lw31, Ips31, Isl31, Iw31, Fap37_2, Faq37_2, R5, St5, Fap37_0, Faq37_0, R35, Fap37_1, Faq37_1, Bs53, Lps53, Lsl53, Lsn53, Lw53, Ips53, Isl53, Iw53, Lps35, Lsl35, Lsn35, Lw35, Ips35, Isl35, Iw35, Fap41_0, Faq41_0, Fap41_2, Faq41_2, R38, Lps38, Lsl38, Lsn38, Lw38, Ips38, Isl38, Iw38, Fap41_5, Faq41_5, R39, Lps39, Lsl39, Lsn39, Lw39, Ips39, Isl39, Iw39, Fap55_1, Faq55_1, hlq, hlr, hrg, eg, hvd, hrf, ef, hc1, B_xor, hrd, wrap_succ hrb]
                exact RndC.mk (n6 - 1) (r + 1, _) (by omega) ⟨by simp only; omega, it.set hf hrf hc1⟩ (by rw [Stk_nil]; exact Weak.slots (by simp (maxSteps := 10000000) only [cb, Am.look, reduceCtorEq, reduceIte, Nat.reduceEqDiff, Nat.reduceAdd, if_true, if_false, SlotsOf_nil, SlotsOf_cons]))
              · have hqb : q ≤ big := by have := hfz.1; omega
                simp (maxSteps := 10000000) only [bs, HeldL, aPick, aNil, Fr.eval, Fr.get, ofVal, Am.look, slotOf, aGuardS, ne_eq, reduceCtorEq, if_true, if_false, ite_true, ite_false, reduceIte, exists_eq_left', exists_eq_left, exists_eq', Nat.reduceEqDiff, Nat.reduceLT, Nat.reduceAdd, Nat.reduceLeDiff, Nat.reduceMul, Nat.reduceSub, eq_self_iff_true, forall_const, implies_true, splice, HeldO, imp_self, planOf, pl4, CB6, R25, CB7, CB9, Al25, Am25, St25, CB13, CB14, Fap25_0, Faq25_0, R22, Lps22, Lsl22, Lsn22, Lw22, Ips22, Isl22, Iw22, R33, Al33, Am33, St33, CB15, CB17, CB16, Fap25_1, Faq25_1, R23, Lps23, Lsl23, Lsn23, Lw23, Ips23, Isl23, Iw23, R50, Lps50, Lsl50, Lsn50, Lw50, Ips50, Isl50, Iw50, Fap52_0, Faq52_0, R3, St3, Fap33_3, Faq33_3, R31, Lps31, Lsl31, Lsn31, Lw31, Ips31, Isl31, Iw31, Fap37_2, Faq37_2, R5, St5, Fap37_0, Faq37_0, R35, Fap37_1, Faq37_1, Bs53, Lps53, Lsl53, Lsn53, Lw53, Ips53, Isl53, Iw53, Lps35, Lsl35, Lsn35, Lw35, Ips35, Isl35, Iw35, Fap41_0, Faq41_0, Fap41_2, Faq41_2, R38, Lps38, Lsl38, Lsn38, Lw38, Ips38, Isl38, Iw38, Fap41_5, Faq41_5, R39, Lps39, Lsl39, Lsn39, Lw39, Ips39, Isl39, Iw39, Fap55_1, Faq55_1, hlr, wrap_succ hqb]
                exact RndC.mk (n4 - 1) (q + 1, t) (by omega) ⟨by simp only; omega, it⟩ (by rw [Stk_nil]; exact Weak.slots (by simp (maxSteps := 10000000) only [cb, Am.look, reduceCtorEq, reduceIte, Nat.reduceEqDiff, Nat.reduceAdd, if_true, if_false, SlotsOf_nil, SlotsOf_cons]))
          · simp (maxSteps := 10000000) only [bs, HeldL, aPick, aNil, Fr.eval, Fr.get, ofVal, Am.look, slotOf, aGuardS, ne_eq, reduceCtorEq, if_true, if_false, ite_true, ite_false, reduceIte, exists_eq_left', exists_eq_left, exists_eq', Nat.reduceEqDiff, Nat.reduceLT, Nat.reduceAdd, Nat.reduceLeDiff, Nat.reduceMul, Nat.reduceSub, eq_self_iff_true, forall_const, implies_true, splice, HeldO, imp_self, planOf, pl4, CB6, R25, CB7, CB9, Al25, Am25, St25, CB13, CB14, Fap25_0, Faq25_0, R22, Lps22, Lsl22, Lsn22, Lw22, Ips22, Isl22, Iw22, R33, Al33, Am33, St33, CB15, CB17, CB16, Fap25_1, Faq25_1, R23, Lps23, Lsl23, Lsn23, Lw23, Ips23, Isl23, Iw23, R50, Lps50, Lsl50, Lsn50, Lw50, Ips50, Isl50, Iw50, Fap52_0, Faq52_0, R3, St3, Fap33_3, Faq33_3, R31, Lps31, Lsl31, Lsn31, Lw31, Ips31, Isl31, Iw31, Fap37_2, Faq37_2, R5, St5, Fap37_0, Faq37_0, R35, Fap37_1, Faq37_1, Bs53, Lps53, Lsl53, Lsn53, Lw53, Ips53, Isl53, Iw53, Lps35, Lsl35, Lsn35, Lw35, Ips35, Isl35, Iw35, Fap41_0, Faq41_0, Fap41_2, Faq41_2, R38, Lps38, Lsl38, Lsn38, Lw38, Ips38, Isl38, Iw38, Fap41_5, Faq41_5, R39, Lps39, Lsl39, Lsn39, Lw39, Ips39, Isl39, Iw39, Fap55_1, Faq55_1, hlq, wrap_succ (Nat.le_trans (Nat.le_of_lt hlm) (by decide : 2 ≤ big))]
            exact RndC.mk (n3 - 1) (m + 1, t) (by omega) ⟨by simp only; omega, it⟩ (by rw [Stk_nil]; exact Weak.slots (by simp (maxSteps := 10000000) only [cb, Am.look, reduceCtorEq, reduceIte, Nat.reduceEqDiff, Nat.reduceAdd, if_true, if_false, SlotsOf_nil, SlotsOf_cons]))
        · simp (maxSteps := 10000000) only [bs, HeldL, aPick, aNil, Fr.eval, Fr.get, ofVal, Am.look, slotOf, aGuardS, ne_eq, reduceCtorEq, if_true, if_false, ite_true, ite_false, reduceIte, exists_eq_left', exists_eq_left, exists_eq', Nat.reduceEqDiff, Nat.reduceLT, Nat.reduceAdd, Nat.reduceLeDiff, Nat.reduceMul, Nat.reduceSub, eq_self_iff_true, forall_const, implies_true, splice, HeldO, imp_self, planOf, pl4, CB6, R25, CB7, CB9, Al25, Am25, St25, CB13, CB14, Fap25_0, Faq25_0, R22, Lps22, Lsl22, Lsn22, Lw22, Ips22, Isl22, Iw22, R33, Al33, Am33, St33, CB15, CB17, CB16, Fap25_1, Faq25_1, R23, Lps23, Lsl23, Lsn23, Lw23, Ips23, Isl23, Iw23, R50, Lps50, Lsl50, Lsn50, Lw50, Ips50, Isl50, Iw50, Fap52_0, Faq52_0, R3, St3, Fap33_3, Faq33_3, R31, Lps31, Lsl31, Lsn31, Lw31, Ips31, Isl31, Iw31, Fap37_2, Faq37_2, R5, St5, Fap37_0, Faq37_0, R35, Fap37_1, Faq37_1, Bs53, Lps53, Lsl53, Lsn53, Lw53, Ips53, Isl53, Iw53, Lps35, Lsl35, Lsn35, Lw35, Ips35, Isl35, Iw35, Fap41_0, Faq41_0, Fap41_2, Faq41_2, R38, Lps38, Lsl38, Lsn38, Lw38, Ips38, Isl38, Iw38, Fap41_5, Faq41_5, R39, Lps39, Lsl39, Lsn39, Lw39, Ips39, Isl39, Iw39, Fap55_1, Faq55_1, hlm, wrap_succ (show k ≤ big by omega)]
          exact RndC.mk (n2 - 1) (k + 1, u) (by omega) ⟨by simp only; omega, iu.inv⟩ (by rw [Stk_nil]; exact Weak.slots (by simp (maxSteps := 10000000) only [cb, Am.look, reduceCtorEq, reduceIte, Nat.reduceEqDiff, Nat.reduceAdd, if_true, if_false, SlotsOf_nil, SlotsOf_cons]))
      · simp (maxSteps := 10000000) only [bs, HeldL, aPick, aNil, Fr.eval, Fr.get, ofVal, Am.look, slotOf, aGuardS, ne_eq, reduceCtorEq, if_true, if_false, ite_true, ite_false, reduceIte, exists_eq_left', exists_eq_left, exists_eq', Nat.reduceEqDiff, Nat.reduceLT, Nat.reduceAdd, Nat.reduceLeDiff, Nat.reduceMul, Nat.reduceSub, eq_self_iff_true, forall_const, implies_true, splice, HeldO, imp_self, planOf, pl4, CB6, R25, CB7, CB9, Al25, Am25, St25, CB13, CB14, Fap25_0, Faq25_0, R22, Lps22, Lsl22, Lsn22, Lw22, Ips22, Isl22, Iw22, R33, Al33, Am33, St33, CB15, CB17, CB16, Fap25_1, Faq25_1, R23, Lps23, Lsl23, Lsn23, Lw23, Ips23, Isl23, Iw23, R50, Lps50, Lsl50, Lsn50, Lw50, Ips50, Isl50, Iw50, Fap52_0, Faq52_0, R3, St3, Fap33_3, Faq33_3, R31, Lps31, Lsl31, Lsn31, Lw31, Ips31, Isl31, Iw31, Fap37_2, Faq37_2, R5, St5, Fap37_0, Faq37_0, R35, Fap37_1, Faq37_1, Bs53, Lps53, Lsl53, Lsn53, Lw53, Ips53, Isl53, Iw53, Lps35, Lsl35, Lsn35, Lw35, Ips35, Isl35, Iw35, Fap41_0, Faq41_0, Fap41_2, Faq41_2, R38, Lps38, Lsl38, Lsn38, Lw38, Ips38, Isl38, Iw38, Fap41_5, Faq41_5, R39, Lps39, Lsl39, Lsn39, Lw39, Ips39, Isl39, Iw39, Fap55_1, Faq55_1, hlk, wrap_succ (show i ≤ big by omega)]
        exact RndC.mk (n - 1) (i + 1, s) (by omega) ⟨by simp only; omega, hi⟩ (by rw [Stk_nil]; exact Weak.slots (by simp (maxSteps := 10000000) only [cb, Am.look, reduceCtorEq, reduceIte, Nat.reduceEqDiff, Nat.reduceAdd, if_true, if_false, SlotsOf_nil, SlotsOf_cons]))
    simp (maxSteps := 10000000) only [bs, HeldL, aPick, aNil, Fr.eval, Fr.get, ofVal, Am.look, slotOf, aGuardS, ne_eq, reduceCtorEq, if_true, if_false, ite_true, ite_false, reduceIte, exists_eq_left', exists_eq_left, exists_eq', Nat.reduceEqDiff, Nat.reduceLT, Nat.reduceAdd, Nat.reduceLeDiff, Nat.reduceMul, Nat.reduceSub, eq_self_iff_true, forall_const, implies_true, splice, HeldO, imp_self, planOf, pl4, CB6, R25, CB7, CB9, Al25, Am25, St25, CB13, CB14, Fap25_0, Faq25_0, R22, Lps22, Lsl22, Lsn22, Lw22, Ips22, Isl22, Iw22, R33, Al33, Am33, St33, CB15, CB17, CB16, Fap25_1, Faq25_1, R23, Lps23, Lsl23, Lsn23, Lw23, Ips23, Isl23, Iw23, R50, Lps50, Lsl50, Lsn50, Lw50, Ips50, Isl50, Iw50, Fap52_0, Faq52_0, R3, St3, Fap33_3, Faq33_3, R31, Lps31, Lsl31, Lsn31, Lw31, Ips31, Isl31, Iw31, Fap37_2, Faq37_2, R5, St5, Fap37_0, Faq37_0, R35, Fap37_1, Faq37_1, Bs53, Lps53, Lsl53, Lsn53, Lw53, Ips53, Isl53, Iw53, Lps35, Lsl35, Lsn35, Lw35, Ips35, Isl35, Iw35, Fap41_0, Faq41_0, Fap41_2, Faq41_2, R38, Lps38, Lsl38, Lsn38, Lw38, Ips38, Isl38, Iw38, Fap41_5, Faq41_5, R39, Lps39, Lsl39, Lsn39, Lw39, Ips39, Isl39, Iw39, Fap55_1, Faq55_1, hlt, p1, p3, e1, e3, rCode]
    refine L_of (f14 c c fc _) ?_
    simp (maxSteps := 10000000) only [bs, HeldL, aPick, aNil, Fr.eval, Fr.get, ofVal, Am.look, slotOf, aGuardS, ne_eq, reduceCtorEq, if_true, if_false, ite_true, ite_false, reduceIte, exists_eq_left', exists_eq_left, exists_eq', Nat.reduceEqDiff, Nat.reduceLT, Nat.reduceAdd, Nat.reduceLeDiff, Nat.reduceMul, Nat.reduceSub, eq_self_iff_true, forall_const, implies_true, splice, HeldO, imp_self, planOf, pl4, CB6, R25, CB7, CB9, Al25, Am25, St25, CB13, CB14, Fap25_0, Faq25_0, R22, Lps22, Lsl22, Lsn22, Lw22, Ips22, Isl22, Iw22, R33, Al33, Am33, St33, CB15, CB17, CB16, Fap25_1, Faq25_1, R23, Lps23, Lsl23, Lsn23, Lw23, Ips23, Isl23, Iw23, R50, Lps50, Lsl50, Lsn50, Lw50, Ips50, Isl50, Iw50, Fap52_0, Faq52_0, R3, St3, Fap33_3, Faq33_3, R31, Lps31, Lsl31, Lsn31, Lw31, Ips31, Isl31, Iw31, Fap37_2, Faq37_2, R5, St5, Fap37_0, Faq37_0, R35, Fap37_1, Faq37_1, Bs53, Lps53, Lsl53, Lsn53, Lw53, Ips53, Isl53, Iw53, Lps35, Lsl35, Lsn35, Lw35, Ips35, Isl35, Iw35, Fap41_0, Faq41_0, Fap41_2, Faq41_2, R38, Lps38, Lsl38, Lsn38, Lw38, Ips38, Isl38, Iw38, Fap41_5, Faq41_5, R39, Lps39, Lsl39, Lsn39, Lw39, Ips39, Isl39, Iw39, Fap55_1, Faq55_1, decide_true]
    rw [Stk_nil]
    exact ⟨Nat.le_trans hold.1 hi.sh.len, fun b hb => (hi.out b (by omega) (by omega)).trans (hold.2 b hb)⟩
  · exact Old.stk (Old.refl σ) _
end Go.Proofs.Ytbnegbjaoiplmaa
