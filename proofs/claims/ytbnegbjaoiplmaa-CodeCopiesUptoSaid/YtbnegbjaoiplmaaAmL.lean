/- The abstract machine's calls and regions: what a call comes to, and how a region's operations are gone through one by one. -/
import Derived.Test.YtbnegbjaoiplmaaAmK
set_option linter.unusedVariables false
set_option linter.unusedSimpArgs false
namespace Go.Am
open Go

/-! ### Calls -/

inductive Out where
  | ret (v : V)
  | pan (v : V)

inductive OutR (w : World) (ro : Nat → Prop) (m : Pl) : Out → Ending → Prop
  | ret {v : V} {v' : Value} (h : VR w ro m v v') : OutR w ro m (.ret v) (.returned v')
  | pan {v : V} {v' : Value} (h : VR w ro m v v') : OutR w ro m (.pan v) (.panicked [{ v := v', recovered := false }])

def ArgsR (w : World) (ro : Nat → Prop) (m : Pl) (xs : List V) (vs : Array Value) : Prop :=
  xs.length = vs.size ∧ ∀ (j : Nat) (c : V) (v : Value), xs[j]? = some c → vs[j]? = some v → VR w ro m c v

/-- What a call comes to: said of the machine, it holds of the model wherever the arguments and the heap stand for the model's. -/
def Spec (P : Program) (g : FuncId) (args : List V) (σ : H) (Q : Out → H → Prop) : Prop :=
  ∀ w ro m (vs : Array Value), ArgsR w ro m args vs → HeapOk w ro m σ →
    Calls P g vs w fun e w' => ∃ o σ' ro' m', Q o σ' ∧ OutR w' ro' m' o e ∧ HeapOk w' ro' m' σ' ∧ Ext w ro m w' ro' m' ∧ (∀ b, b < σ.length → m' b = m b) ∧ σ.length ≤ σ'.length

theorem Spec.mono {P : Program} {g : FuncId} {args : List V} {σ : H} {Q Q' : Out → H → Prop} (h : Spec P g args σ Q) (hq : ∀ o s, Q o s → Q' o s) : Spec P g args σ Q' :=
  fun w ro m vs ha hσ => (h w ro m vs ha hσ).mono fun e w' hp => by
    obtain ⟨o, σ', ro', m', h1, h2⟩ := hp
    exact ⟨o, σ', ro', m', hq _ _ h1, h2⟩

/-- May a function be called so? -/
def callB (P : Program) (g : FuncId) : Bool :=
  match P.funcs[g]? with
  | some fn => !(fn.name == "runtime.NumGoroutine") && fn.body.isSome
  | none => false

theorem callB_run {P : Program} {g : FuncId} (h : callB P g = true) (vs : Array Value) (w : World) : (callFunc g vs).run P w = .ok (.enter g vs) w := by
  unfold callB at h
  split at h
  · rename_i fn hf
    simp only [Bool.and_eq_true, Bool.not_eq_true'] at h
    obtain ⟨h1, h2⟩ := h
    have h3 : fn.body.isNone = false := by cases hb : fn.body <;> simp_all
    simp only [callFunc, Sem.run_bind, run_program, Result.andThen_ok, hf, h1, h3, Bool.false_eq_true, if_false]
    rfl
  · cases h

/-- Whom a call calls, with what. -/
def aCallee (f : Fr) : Op → Option (FuncId × List V)
  | .call c => match c.callee with
    | .value x => match f.eval x with
      | .fn g caps => some (g, c.args.toList.map f.eval ++ caps)
      | _ => none
    | _ => none
  | _ => none

theorem ArgsR.append {w : World} {ro : Nat → Prop} {m : Pl} {xs ys : List V} {vs us : Array Value} (h : ArgsR w ro m xs vs) (k : ArgsR w ro m ys us) : ArgsR w ro m (xs ++ ys) (vs ++ us) := by
  refine ⟨by simp [h.1, k.1], fun j c v h1 h2 => ?_⟩
  by_cases q : j < xs.length
  · rw [List.getElem?_append_left q] at h1
    rw [Array.getElem?_append_left (by rw [← h.1]; exact q)] at h2
    exact h.2 j c v h1 h2
  · rw [List.getElem?_append_right (by omega)] at h1
    rw [Array.getElem?_append_right (by rw [← h.1]; omega), ← h.1] at h2
    exact k.2 _ c v h1 h2

theorem aCallee_run {P : Program} {o : Oper} {f : Fr} {a : Act} {w : World} {ro : Nat → Prop} {m : Pl} (hf : FrOk w ro m f a) {g : FuncId} {args : List V} (h : aCallee f o.op = some (g, args)) (hc : callB P g = true) :
    ∃ vs, (execOp a.eval o).run P w = .ok (.enter g vs) w ∧ ArgsR w ro m args vs := by
  obtain ⟨dst, op, type, pos, after, guard⟩ := o
  cases op <;> simp only [aCallee] at h <;> try (cases h; done)
  rename_i c
  obtain ⟨callee, xs, ts⟩ := c
  cases callee <;> simp only at h <;> try (cases h; done)
  rename_i x
  have hx := hf.eval x
  split at h
  · rename_i g' caps hq
    rw [hq] at hx
    cases h
    generalize hq2 : a.eval x = xv at hx
    cases hx with
    | @fn _ _ cv hl hv =>
      refine ⟨xs.map a.eval ++ cv, ?_, ArgsR.append (args_ok hf xs) ⟨hl, hv⟩⟩
      simp [execOp, resolve, Deferred.ofValue, hq2, invoke, callB_run hc]
  · cases h

theorem wpOps_mono {P : Program} {ops : Array Oper} {Q Q' : Exit → Act → World → Prop} (hq : ∀ e a w, Q e a w → Q' e a w) : ∀ (l : List Nat) (a : Act) (w : World), wpOps P ops Q l a w → wpOps P ops Q' l a w
  | [], a, w, h => hq _ _ _ h
  | i :: rest, a, w, h => by
    simp only [wpOps] at h ⊢
    cases ho : ops[i]? with
    | none => simp only [ho] at h ⊢; exact wpOps_mono hq rest a w h
    | some o =>
      simp only [ho] at h ⊢
      split at h
      · rename_i hw
        rw [if_pos hw]
        rcases h with h | ⟨h1, a0, w0, h2⟩
        · refine .inl ?_
          unfold Oper.wp at h ⊢
          generalize (execOp a.eval o).run P w = r at h
          cases r with
          | ok n w' =>
            cases n <;> simp only [Oper.upon] at h ⊢
            case value => exact wpOps_mono hq rest _ _ h
            case skip => exact wpOps_mono hq rest _ _ h
            case defer => exact wpOps_mono hq rest _ _ h
            case enter =>
              refine Calls.mono h fun e w'' he => ?_
              cases e with
              | returned v => exact wpOps_mono hq rest _ _ he
              | panicked c => exact hq _ _ _ he
              | outgrown => obtain ⟨a0, w0, h2⟩ := he; exact ⟨a0, w0, hq _ _ _ h2⟩
            case row => exact Rows.mono h fun v w'' he => wpOps_mono hq rest _ _ he
          | halt x w' =>
            cases x <;> simp only [Oper.upon] at h ⊢
            case panic => exact hq _ _ _ h
        · exact .inr ⟨h1, a0, w0, hq _ _ _ h2⟩
      · rename_i hw
        rw [if_neg hw]
        exact wpOps_mono hq rest _ _ h

/-! ### A region's operations, one by one -/

def aWanted (ops : Array Oper) (f : Fr) (o : Oper) : Option Bool :=
  match o.guard with
  | none => some true
  | some (j, want) =>
    match (ops[j]?).bind (·.dst) with
    | none => some false
    | some t => match f.get t with
      | .bool b => some (b == want)
      | .tup [] => some false
      | _ => none

theorem aWanted_ok {ops : Array Oper} {f : Fr} {a : Act} {w : World} {ro : Nat → Prop} {m : Pl} (hf : FrOk w ro m f a) {o : Oper} {b : Bool} (h : aWanted ops f o = some b) : Region.wanted o (yielded ops a.tmps) = b := by
  unfold aWanted at h
  unfold Region.wanted
  cases hg : o.guard with
  | none => simp [hg] at h; simp [h]
  | some jw =>
    obtain ⟨j, want⟩ := jw
    simp only [hg] at h ⊢
    unfold yielded
    cases hd : (ops[j]?).bind (·.dst) with
    | none => simp [hd] at h; subst h; simp
    | some t =>
      simp only [hd] at h
      have ht := hf.v t
      have e : a.tmps.getD t undef = (a.tmps[t]?).getD undef := by simp
      rw [e] at ht
      split at h
      · rename_i c hc
        rw [hc] at ht
        cases h
        cases hq : a.tmps[t]? with
        | none => rw [hq] at ht; cases ht
        | some v => rw [hq] at ht; simp only [Option.getD_some] at ht; cases ht; simp [hq]
      · rename_i hc
        rw [hc] at ht
        cases h
        cases hq : a.tmps[t]? with
        | none => simp [hq]
        | some v =>
          rw [hq] at ht; simp only [Option.getD_some] at ht
          cases ht with
          | @tup _ vs hl hv => simp [hq]
      · cases h

/-- Is it asked whether a slice is nil of which it is only known that it has no elements? -/
def nilQ (P : Program) (f : Fr) (o : Oper) : Bool :=
  match o.op, o.guard with
  | .binOp .eql t x y _, none => match f.eval x, f.eval y with
    | .ps _ [], .snil => (match P.underlying t with | some (.slice _) => true | _ => false)
    | _, _ => false
  | _, _ => false

theorem nilQ_run {P : Program} {o : Oper} {f : Fr} {a : Act} {w : World} {ro : Nat → Prop} {m : Pl} (hf : FrOk w ro m f a) (h : nilQ P f o = true) : o.guard = none ∧ ∃ b, (execOp a.eval o).run P w = .ok (.value (.bool b)) w := by
  obtain ⟨dst, op, type, pos, after, guard⟩ := o
  unfold nilQ at h
  simp only at h
  split at h
  · rename_i t x y yt
    refine ⟨rfl, ?_⟩
    have hx := hf.eval x
    have hy := hf.eval y
    split at h
    · rename_i sz hx' hy'
      rw [hx'] at hx
      rw [hy'] at hy
      generalize hxv : a.eval x = xv at hx
      generalize hyv : a.eval y = yv at hy
      split at h
      · rename_i e hu
        cases hy
        cases hx with
        | @ps _ _ A cap =>
          simp only [List.length_nil] at hxv
          have e1 : ∀ (d : Nat), (Op.equalIn (d + 1) t (.slice A 0 cap) (.slice none 0 0)).run P w = .ok A.isNone w := fun d => by
            cases A <;> simp [Op.equalIn, run_underlying hu]
          have e : (Op.equal t (.slice A 0 cap) (.slice none 0 0)).run P w = .ok A.isNone w := e1 9999
          refine ⟨A.isNone, ?_⟩
          simp only [execOp, hxv, hyv, Sem.run_bind, eqGuard, binOp, e]
          simp [e]
      · cases h
    · cases h
  · cases h

/-- The operations of a list, in its order. -/
def Aops (P : Program) (ops : Array Oper) (Q : Ex → Fr → H → Prop) : List Nat → Fr → H → Prop
  | [], f, σ => Q .normal f σ
  | i :: rest, f, σ =>
    match ops[i]? with
    | none => Aops P ops Q rest f σ
    | some o =>
      if nilQ P f o then ∀ b, ∃ f', f.put o.dst (.bool b) = some f' ∧ Aops P ops Q rest f' σ else
      match aWanted ops f o with
      | none => False
      | some false => ∃ f', f.put o.dst (.tup []) = some f' ∧ Aops P ops Q rest f' σ
      | some true =>
        match aCallee f o.op with
        | some (g, args) => callB P g = true ∧ Spec P g args σ fun out σ' =>
            match out with
            | .ret v => ∃ f', f.put o.dst v = some f' ∧ Aops P ops Q rest f' σ'
            | .pan v => Q (.pan v) f σ'
        | none =>
          match aop P o.op f σ σ.length with
          | some (.val v σ') => ∃ f', f.put o.dst v = some f' ∧ Aops P ops Q rest f' σ'
          | some (.skip σ') => ∃ f', f.put o.dst (.tup []) = some f' ∧ Aops P ops Q rest f' σ'
          | none => False

theorem VR.undef (w : World) (ro : Nat → Prop) (m : Pl) : VR w ro m (.tup []) Go.undef := .tup rfl (fun j c v h => by simp at h)

theorem Aops_ok {P : Program} {ops : Array Oper} {Q : Ex → Fr → H → Prop} {k : Nat} : ∀ (l : List Nat) {f : Fr} {σ : H}, Aops P ops Q l f σ → ∀ {w : World} {ro : Nat → Prop} {m : Pl} {a : Act}, FrOk w ro m f a → HeapOk w ro m σ → k ≤ σ.length →
    wpOps P ops (Post k w ro m Q) l a w
  | [], f, σ, h, w, ro, m, a, hf, hσ, hk => Post.here hf hσ hk h .normal
  | i :: rest, f, σ, h, w, ro, m, a, hf, hσ, hk => by
    unfold Aops at h
    simp only [wpOps]
    cases ho : ops[i]? with
    | none => simp only [ho] at h ⊢; exact Aops_ok rest h hf hσ hk
    | some o =>
      simp only [ho] at h ⊢
      split at h
      · rename_i hq
        obtain ⟨hg, b, hr⟩ := nilQ_run hf hq
        have hw : Region.wanted o (yielded ops a.tmps) = true := by unfold Region.wanted; rw [hg]
        rw [hw]
        simp only [if_true]
        obtain ⟨f', hp, h⟩ := h b
        refine .inl ?_
        unfold Oper.wp
        rw [hr]
        simp only [Oper.upon_value]
        exact Aops_ok (k := k) rest h (hf.put (.bool b) hp) hσ hk
      rename_i hnq
      cases hw : aWanted ops f o with
      | none => simp only [hw] at h
      | some b =>
        rw [aWanted_ok hf hw]
        cases b with
        | false =>
          simp only [hw] at h
          obtain ⟨f', hp, h⟩ := h
          simp only [Bool.false_eq_true, if_false]
          exact Aops_ok rest h (hf.put (.undef w ro m) hp) hσ hk
        | true =>
          simp only [hw] at h
          simp only [if_true]
          refine .inl ?_
          unfold Oper.wp
          cases hc : aCallee f o.op with
          | some ga =>
            obtain ⟨g, args⟩ := ga
            simp only [hc] at h
            obtain ⟨hcb, hs⟩ := h
            obtain ⟨vs, h1, h2⟩ := aCallee_run (o := o) hf hc hcb
            rw [h1]
            simp only [Oper.upon_enter]
            refine (hs w ro m vs h2 hσ).mono fun e w' hp => ?_
            obtain ⟨out, σ', ro', m', g1, g2, g3, g4, g5, g6⟩ := hp
            have hm : ∀ b p, m b = some p → m' b = some p := fun b p hb => by rw [g5 b (hσ.dom b p hb)]; exact hb
            have kp := g4.keeps hm
            cases g2 with
            | ret hv =>
              obtain ⟨f', hp, h⟩ := g1
              have := Aops_ok (k := k) rest h ((hf.keep kp).put hv hp) g3 (Nat.le_trans hk g6)
              exact wpOps_mono (fun e a w hp => hp.step g4 (fun b hb => g5 b (Nat.lt_of_lt_of_le hb hk))) _ _ _ this
            | pan hv => exact ⟨_, f, σ', ro', m', g1, .pan hv, hf.keep kp, g3, g4, fun b hb => g5 b (Nat.lt_of_lt_of_le hb hk), Nat.le_trans hk g6⟩
          | none =>
            simp only [hc] at h
            have hm : m σ.length = none := by
              cases hq : m σ.length with
              | none => rfl
              | some p => exact absurd (hσ.dom _ p hq) (Nat.lt_irrefl _)
            cases hr : aop P o.op f σ σ.length with
            | none => simp only [hr] at h
            | some r =>
              have hok := aop_ok (o := o) hf hσ (Nat.le_refl _) hm hr
              have hle := aop_le hr
              cases r with
              | val v σ' =>
                simp only [hr] at h
                obtain ⟨f', hp, h⟩ := h
                obtain ⟨v', w', m', g1, g2, g3, g4, g5⟩ := hok
                rw [g1]
                simp only [Oper.upon_value]
                have := Aops_ok (k := k) rest h ((hf.keep (g4.keeps g5.1)).put g2 hp) g3 (Nat.le_trans hk hle)
                exact wpOps_mono (fun e a w hp => hp.step g4 (fun b hb => g5.2 b (by omega))) _ _ _ this
              | skip σ' =>
                simp only [hr] at h
                obtain ⟨f', hp, h⟩ := h
                obtain ⟨w', g1, g2, g3⟩ := hok
                rw [g1]
                simp only [Oper.upon_skip]
                have := Aops_ok (k := k) rest h ((hf.keep (g3.keeps fun _ _ h => h)).put (.undef w' ro m) hp) g2 (Nat.le_trans hk hle)
                exact wpOps_mono (fun e a w hp => hp.step g3 (fun b hb => rfl)) _ _ _ this

theorem Rcode.region {P : Program} {k : Nat} {id : Nat} {ops : Array Oper} {f : Fr} {σ : H} {Q : Ex → Fr → H → Prop} (h : Aops P ops Q (List.range ops.size) f σ) : Rcode P k (.region id ops false) f σ Q :=
  fun w ro m a hf hσ hk => wp_region (Aops_ok _ h hf hσ hk)

/-! ### A function -/

def aResult (P : Program) (f : Fr) (σ : H) : ResultVar → Option V
  | .tmp t => some (f.get t)
  | .cell a t => aLoad P t σ (f.get a)

def aResults (P : Program) (rs : List ResultVar) (f : Fr) (σ : H) : Option V :=
  match rs with
  | [r] => aResult P f σ r
  | rs => (rs.mapM (aResult P f σ)).map .tup

def resSem (tmps : Array Value) : ResultVar → Sem Value
  | .tmp t => pure (tmps.getD t Go.undef)
  | .cell b t => do loadVar t (← asAddr (tmps.getD b Go.undef))

theorem aResult_ok {P : Program} {f : Fr} {a : Act} {w : World} {ro : Nat → Prop} {m : Pl} {σ : H} (hf : FrOk w ro m f a) (hσ : HeapOk w ro m σ) {r : ResultVar} {v : V} (h : aResult P f σ r = some v) :
    ∃ v', (resSem a.tmps r).run P w = .ok v' w ∧ VR w ro m v v' := by
  cases r with
  | tmp t => simp only [aResult, Option.some.injEq] at h; subst h; exact ⟨_, rfl, hf.v t⟩
  | cell b t =>
    simp only [aResult] at h
    obtain ⟨p, x', h0, h1, h2⟩ := aLoad_same (P := P) hσ (hf.v b) h
    refine ⟨x', ?_, h2⟩
    simp only [resSem, h0, Sem.run_bind, asAddr, Sem.run_pure, Result.andThen_ok, h1]

theorem aResultL_ok {P : Program} {f : Fr} {a : Act} {w : World} {ro : Nat → Prop} {m : Pl} {σ : H} (hf : FrOk w ro m f a) (hσ : HeapOk w ro m σ) : ∀ (rs : List ResultVar) {vs : List V}, rs.mapM (aResult P f σ) = some vs →
    ∃ us : List Value, (rs.mapM (resSem a.tmps)).run P w = .ok us w ∧ vs.length = us.length ∧ ∀ (j : Nat) (c : V) (u : Value), vs[j]? = some c → us[j]? = some u → VR w ro m c u
  | [], vs, h => by simp at h; subst h; exact ⟨[], by simp, rfl, fun j c u hj => by simp at hj⟩
  | r :: rs, vs, h => by
    simp only [List.mapM_cons, Option.bind_eq_bind, Option.pure_def] at h
    cases h1 : aResult P f σ r with
    | none => simp [h1] at h
    | some v =>
      cases h2 : rs.mapM (aResult P f σ) with
      | none => simp [h1, h2] at h
      | some vs' =>
        simp [h1, h2] at h
        subst h
        obtain ⟨v', g1, g2⟩ := aResult_ok hf hσ h1
        obtain ⟨us, g3, g4, g5⟩ := aResultL_ok hf hσ rs h2
        refine ⟨v' :: us, by simp [List.mapM_cons, g1, g3], by simp [g4], fun j c u hj hu => ?_⟩
        cases j with
        | zero => simp at hj hu; subst hj hu; exact g2
        | succ j => exact g5 j c u (by simpa using hj) (by simpa using hu)

theorem aResults_ok {P : Program} {fn : Func} {f : Fr} {a : Act} {w : World} {ro : Nat → Prop} {m : Pl} {σ : H} (hf : FrOk w ro m f a) (hσ : HeapOk w ro m σ) {v : V} (h : aResults P fn.results.toList f σ = some v) :
    ∃ v', (results fn a.tmps).run P w = .ok v' w ∧ VR w ro m v v' := by
  have key : ∀ vs : List V, fn.results.toList.mapM (aResult P f σ) = some vs → ∃ us : List Value, (results fn a.tmps).run P w = .ok (if q : us.length = 1 then us[0] else .tuple us.toArray) w ∧ vs.length = us.length ∧ ∀ (j : Nat) (c : V) (u : Value), vs[j]? = some c → us[j]? = some u → VR w ro m c u := by
    intro vs hvs
    obtain ⟨us, g1, g2, g3⟩ := aResultL_ok hf hσ _ hvs
    refine ⟨us, ?_, g2, g3⟩
    have e : results fn a.tmps = (fn.results.mapM (resSem a.tmps) >>= fun vs => pure (if h : vs.size = 1 then vs[0] else .tuple vs)) := by
      unfold results
      congr 1
    rw [e, Array.mapM_eq_mapM_toList]
    simp only [Sem.run_bind, Sem.run_map, g1, Result.andThen_ok, Sem.run_pure, List.size_toArray, List.getElem_toArray]
  unfold aResults at h
  split at h
  · rename_i r hr
    obtain ⟨us, g1, g2, g3⟩ := key [v] (by simp [hr, h])
    have hl : us.length = 1 := by simpa using g2.symm
    rw [dif_pos hl] at g1
    exact ⟨_, g1, g3 0 v _ rfl (by simp [hl])⟩
  · rename_i hne
    obtain ⟨vs, h1, rfl⟩ := map_some h
    obtain ⟨us, g1, g2, g3⟩ := key vs h1
    have hl : ¬ us.length = 1 := by
      intro q
      have : vs.length = fn.results.toList.length := by
        clear h g1 g2 g3 key hne
        generalize fn.results.toList = rs at h1
        induction rs generalizing vs with
        | nil => simp at h1; subst h1; rfl
        | cons r rs ih =>
          simp only [List.mapM_cons, Option.bind_eq_bind, Option.pure_def] at h1
          cases e1 : aResult P f σ r with
          | none => simp [e1] at h1
          | some v =>
            cases e2 : rs.mapM (aResult P f σ) with
            | none => simp [e1, e2] at h1
            | some vs' => simp [e1, e2] at h1; subst h1; simp [ih vs' e2]
      match hrs : fn.results.toList, this with
      | [r], _ => exact hne r hrs
      | [], h => rw [List.length_nil] at h; omega
      | _ :: _ :: _, h => rw [List.length_cons, List.length_cons] at h; omega
    rw [dif_neg hl] at g1
    exact ⟨_, g1, .tup (by simpa using g2) (fun j c u hj hu => g3 j c u hj (by simpa using hu))⟩

/-- The frame with which a function begins. -/
def Fr.init (n : Nat) (args : List V) : Fr := ⟨n, args.zipIdx.map fun p => (p.2, p.1)⟩

theorem look_zip (args : List V) (s t : Nat) : look ((args.zipIdx s).map fun p => (p.2, p.1)) t = if s ≤ t then (args[t - s]?).getD .unk else .unk := by
  induction args generalizing s with
  | nil => simp [look]
  | cons x args ih =>
    simp only [List.zipIdx_cons, List.map_cons, look]
    by_cases q : s = t
    · subst q; simp
    · rw [if_neg q, ih (s + 1)]
      by_cases q2 : s ≤ t
      · rw [if_pos (by omega), if_pos q2, show t - s = (t - (s + 1)) + 1 by omega, List.getElem?_cons_succ]
      · rw [if_neg (by omega), if_neg q2]

theorem Fr.init_ok {w : World} {ro : Nat → Prop} {m : Pl} {args : List V} {vs : Array Value} (h : ArgsR w ro m args vs) {n : Nat} (hn : args.length ≤ n) : FrOk w ro m (Fr.init n args) { tmps := vs ++ Array.replicate (n - vs.size) Go.undef, defers := [] } := by
  refine ⟨by simp [Fr.init]; have := h.1; omega, rfl, fun t => ?_⟩
  simp only [Fr.init, Fr.get, look_zip, Nat.zero_le, if_true, Nat.sub_zero]
  cases hq : args[t]? with
  | none => exact .unk _
  | some v =>
    have hlt : t < vs.size := by rw [← h.1]; exact (List.getElem?_eq_some_iff.1 hq).1
    simp only [Option.getD_some, Array.getD_eq_getD_getElem?]
    rw [Array.getElem?_append_left hlt]
    exact h.2 t v _ hq (by simp [hlt])

/-- What holds where a function's body ends. -/
def Fin (P : Program) (fn : Func) (Q : Out → H → Prop) : Ex → Fr → H → Prop
  | .normal, f, σ => ∃ v, aResults P fn.results.toList f σ = some v ∧ Q (.ret v) σ
  | .ret, f, σ => ∃ v, aResults P fn.results.toList f σ = some v ∧ Q (.ret v) σ
  | .pan v, f, σ => Q (.pan v) σ
  | .exit _, _, _ => False

theorem Spec.intro {P : Program} {g : FuncId} {fn : Func} {c : Code} {args : List V} {σ : H} {Q : Out → H → Prop} (hf : P.funcs[g]? = some fn) (hb : fn.body = some c) (hn : args.length ≤ fn.ntmps)
    (h : Rcode P σ.length c (Fr.init fn.ntmps args) σ (Fin P fn Q)) : Spec P g args σ Q := fun w ro m vs ha hσ => by
  refine calls_of_wp hf hb ?_
  refine wp_mono (h w ro m _ (Fr.init_ok ha hn) hσ (Nat.le_refl _)) fun e a w' hp => ?_
  obtain ⟨ex, f', σ', ro', m', h1, h2, h3, h4, h5, h6, h7⟩ := hp
  cases h2 with
  | normal =>
    obtain ⟨v, g1, g2⟩ := h1
    obtain ⟨v', g3, g4⟩ := aResults_ok h3 h4 g1
    exact ⟨h3.d, v', g3, _, σ', ro', m', g2, .ret g4, h4, h5, h6, h7⟩
  | ret =>
    obtain ⟨v, g1, g2⟩ := h1
    obtain ⟨v', g3, g4⟩ := aResults_ok h3 h4 g1
    exact ⟨h3.d, v', g3, _, σ', ro', m', g2, .ret g4, h4, h5, h6, h7⟩
  | pan hv => exact ⟨h3.d, _, σ', ro', m', h1, .pan hv, h4, h5, h6, h7⟩
  | exit id => exact h1.elim

end Go.Am
