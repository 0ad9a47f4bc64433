/- Regions that draw their order: the walk in an order of choice, and the rule of code. -/
import Derived.Test.YtbnegbjaoiplmaaAmP
set_option linter.unusedVariables false
set_option linter.unusedSimpArgs false
namespace Go.Am
open Go

section
variable {P : Program} {ops : Array Oper}

/-- The operations of a region in an order of choice; behind each the loads that may come on either side of it give what they gave. -/
def AD (P : Program) (ops : Array Oper) (holds : Nat → List Nat) (Q : Fr → H → Prop) : List Nat → Fr → H → Prop
  | [], f, σ => Q f σ
  | i :: rest, f, σ => ∃ o, ops[i]? = some o ∧ AStep P ops o f σ (fun f' σ' => (∀ i', i' ∈ holds i → Held1 P ops i' f σ σ') ∧ AD P ops holds Q rest f' σ') fun _ _ => False

/-- How many new names come ahead of the next step with an effect. -/
def rem (ops : Array Oper) : List Nat → Nat
  | [] => 0
  | i :: rest => match ops[i]? with
    | none => 0
    | some o => if kindOf o.op = 3 then 0 else if kindOf o.op = 2 then rem ops rest + 1 else rem ops rest

def Chk (ops : Array Oper) (S : Shape) : List Nat → Array Bool → Nat → Bool
  | [], listed, _ => (Region.ready .any ops listed).isEmpty
  | i :: rest, listed, cnt => match ops[i]? with
    | none => false
    | some oi =>
      if kindOf oi.op = 3 then (Region.ready .any ops listed == [i]) && S.pad i == rem ops rest && Chk ops S rest (listed.setIfInBounds i true) 0
      else (Region.ready .any ops listed).contains i && (kindOf oi.op != 2 || (S.rank i == cnt && oi.guard.isNone)) &&
        ((List.range ops.size).all fun j => match ops[j]? with
          | none => true
          | some oj => if S.R i j then !listed.getD j true else j == i || listed.getD j true || (oi.apart ops oj && (kindOf oi.op != 2 || kindOf oj.op == 0 || (kindOf oj.op == 2 && S.rank j != S.rank i)) && (kindOf oi.op != 1 || kindOf oj.op != 3 || (S.holds j).contains i))) &&
        Chk ops S rest (listed.setIfInBounds i true) (if kindOf oi.op = 2 then cnt + 1 else cnt)

/-- Of each pair it is told rightly who waits; what is held is not touched. -/
def Sound (ops : Array Oper) (S : Shape) : Bool :=
  (List.range ops.size).all fun i => match ops[i]? with
    | none => true
    | some oi => ((List.range ops.size).all fun j => match ops[j]? with
      | none => true
      | some oj => (!S.R i j || oj.after.any fun e => Region.binds .any e && (e.on == i || S.R i e.on)) &&
        (S.holds j).all fun i' => match ops[i']? with
          | none => true
          | some o' => S.R i i' || (match oi.dst with | none => true | some d => !(o'.looksAt ops).contains d))

theorem sound_waits {S : Shape} (h : Sound ops S = true) {i : Nat} {oi : Oper} (hi : ops[i]? = some oi) : ∀ j oj, ops[j]? = some oj → S.R i j = true → ∃ e ∈ oj.after, Region.binds .any e = true ∧ (e.on = i ∨ S.R i e.on = true) := fun j oj hj hR => by
  have h1 := List.all_eq_true.1 h i (List.mem_range.2 (Array.getElem?_eq_some_iff.1 hi).1)
  simp only [hi] at h1
  have h2 := List.all_eq_true.1 h1 j (List.mem_range.2 (Array.getElem?_eq_some_iff.1 hj).1)
  simp only [hj, Bool.and_eq_true, Bool.or_eq_true, Bool.not_eq_true'] at h2
  rcases h2.1 with q | q
  · rw [hR] at q; cases q
  · obtain ⟨e, he, hb⟩ := Array.any_eq_true'.1 q
    simp only [Bool.and_eq_true, Bool.or_eq_true, beq_iff_eq] at hb
    exact ⟨e, he, hb.1, hb.2⟩

theorem sound_fix {S : Shape} (h : Sound ops S = true) {i : Nat} {oi : Oper} (hi : ops[i]? = some oi) : ∀ j oj, ops[j]? = some oj → ∀ i', i' ∈ S.holds j → ∀ o', ops[i']? = some o' → S.R i i' = true ∨ ∀ d, oi.dst = some d → d ∉ o'.looksAt ops := fun j oj hj i' hi' o' ho' => by
  have h1 := List.all_eq_true.1 h i (List.mem_range.2 (Array.getElem?_eq_some_iff.1 hi).1)
  simp only [hi] at h1
  have h2 := List.all_eq_true.1 h1 j (List.mem_range.2 (Array.getElem?_eq_some_iff.1 hj).1)
  simp only [hj, Bool.and_eq_true] at h2
  have h3 := List.all_eq_true.1 h2.2 i' hi'
  simp only [ho', Bool.or_eq_true] at h3
  rcases h3 with q | q
  · exact .inl q
  · refine .inr fun d hd hm => ?_
    rw [hd] at q
    simp at q
    exact q hm

/-- The same with what is held cut to the region's own operations. -/
theorem AD_T {S : Shape} {Q : Fr → H → Prop} (hS : Sound ops S = true) (hB : ∀ j, ops[j]? = none → S.holds j = []) (hQ : ∀ f g σ, FrEq f g → Q f σ → Q g σ) : ∀ (l : List Nat) (listed : Array Bool) (cnt : Nat) (f : Fr) (σ : H) (b : Nat),
    listed.size = ops.size → Chk ops S l listed cnt = true → σ.length = b + cnt → AD P ops S.holds Q l f σ → T P ops S Q l.length listed f (σ ++ List.replicate (rem ops l) none) b
  | [], listed, cnt, f, σ, b, hz, hc, hl, h => by
    simp only [rem, List.replicate_zero, List.append_nil]
    exact ⟨by simpa [Chk] using hc, h⟩
  | i :: rest, listed, cnt, f, σ, b, hz, hc, hl, h => by
    obtain ⟨oi, hi, h⟩ := h
    unfold Chk at hc
    simp only [hi] at hc
    have fix := fun j i' (h1 : i' ∈ S.holds j) => by
      cases hj : ops[j]? with
      | none => rw [hB j hj] at h1; cases h1
      | some oj => exact sound_fix hS hi j oj hj i' h1
    by_cases hk : kindOf oi.op = 3
    · rw [if_pos hk] at hc
      simp only [Bool.and_eq_true, beq_iff_eq] at hc
      obtain ⟨⟨hr, hp⟩, hc⟩ := hc
      have hrem : rem ops (i :: rest) = 0 := by simp [rem, hi, hk]
      rw [hrem, List.replicate_zero, List.append_nil]
      refine ⟨fun h0 => (by rw [h0] at hr; cases hr), fun j hj oj hoj => ?_⟩
      rw [hr] at hj
      have hji : j = i := by simpa using hj
      subst hji
      rw [hi] at hoj; cases hoj
      unfold TStep
      rw [if_pos hk]
      refine h.mono (fun f' σ' hp' => ⟨fun i' h1 _ => hp'.1 i' h1, ?_⟩) (fun _ _ h => h)
      rw [hp]
      exact AD_T hS hB hQ rest _ 0 f' σ' _ (by simpa using hz) hc rfl hp'.2
    · rw [if_neg hk] at hc
      simp only [Bool.and_eq_true, List.contains_eq_mem, decide_eq_true_eq, Bool.or_eq_true, bne_iff_ne, beq_iff_eq] at hc
      obtain ⟨⟨⟨hr, hrk⟩, hall⟩, hc⟩ := hc
      have hall := fun j oj (hj : ops[j]? = some oj) => by
        have := List.all_eq_true.1 hall j (List.mem_range.2 (Array.getElem?_eq_some_iff.1 hj).1)
        simp only [hj] at this
        exact this
      have hcal : aCallee f oi.op = none := aCallee_kind hk
      -- what the step gives
      have key : ∃ v σ1, pre P ops oi f (σ ++ List.replicate (rem ops (i :: rest)) none) (b + S.rank i) = some (v, σ1 ++ List.replicate (rem ops rest) none) ∧ f.fits oi.dst ∧
          (kindOf oi.op = 2 → oi.guard = none ∧ (σ ++ List.replicate (rem ops (i :: rest)) none)[b + S.rank i]? = some none) ∧ σ1.length = b + (if kindOf oi.op = 2 then cnt + 1 else cnt) ∧ AD P ops S.holds Q rest (f.set oi.dst v) σ1 := by
        have put : ∀ (v : V) (σ1 : H), (∃ f', f.put oi.dst v = some f' ∧ ((∀ i', i' ∈ S.holds i → Held1 P ops i' f σ σ1) ∧ AD P ops S.holds Q rest f' σ1)) → f.fits oi.dst ∧ AD P ops S.holds Q rest (f.set oi.dst v) σ1 := fun v σ1 ⟨f', h1, _, h2⟩ => by
          obtain ⟨h3, rfl⟩ := Fr.put_iff.1 h1
          exact ⟨h3, h2⟩
        unfold AStep at h
        by_cases k2 : kindOf oi.op = 2
        · have hrem : rem ops (i :: rest) = rem ops rest + 1 := by simp [rem, hi, hk, k2]
          obtain ⟨hrank, hg⟩ := hrk.resolve_left (fun q => q k2)
          have hg : oi.guard = none := by simpa using hg
          have hw : aWanted ops f oi = some true := by unfold aWanted; rw [hg]
          simp only [hw, hcal] at h
          have hnm : b + S.rank i = σ.length := by omega
          cases hr : aop P oi.op f σ σ.length with
          | none => simp only [hr] at h
          | some r =>
            obtain ⟨v, e, rfl, hall2⟩ := aop_k2 k2 hr
            simp only [hr] at h
            obtain ⟨h1, h2⟩ := put _ _ h
            have hpl : Am.H.place σ σ.length e = σ ++ [some e] := by rw [Am.H.place, if_neg (Nat.lt_irrefl _)]
            have hnone : (σ ++ List.replicate (rem ops rest + 1) none)[σ.length]? = some none := by
              rw [List.getElem?_append_right (Nat.le_refl _), Nat.sub_self]
              simp
            refine ⟨v, Am.H.place σ σ.length e, ?_, h1, fun _ => ⟨hg, by rw [hrem, hnm]; exact hnone⟩, by rw [if_pos k2, hpl, List.length_append, hl]; simp; omega, h2⟩
            unfold pre
            rw [hw, hrem, hnm]
            simp only [hall2]
            have : Am.H.place (σ ++ List.replicate (rem ops rest + 1) none) σ.length e = Am.H.place σ σ.length e ++ List.replicate (rem ops rest) none := by
              rw [hpl, Am.H.place, if_pos (by simp), List.replicate_succ]
              apply List.ext_getElem?
              intro j
              rw [List.getElem?_set]
              split
              · rename_i q; subst q; simp
              · rename_i q
                rcases Nat.lt_or_ge j σ.length with q2 | q2
                · rw [List.getElem?_append_left q2, List.append_assoc, List.getElem?_append_left q2]
                · rw [List.getElem?_append_right q2, List.append_assoc, List.getElem?_append_right q2]
                  have : j - σ.length = (j - σ.length - 1) + 1 := by omega
                  rw [this, List.getElem?_cons_succ, List.singleton_append, List.getElem?_cons_succ]
            rw [this]
        · have q01 : kindOf oi.op = 0 ∨ kindOf oi.op = 1 := by have := kindOf_le oi.op; omega
          have hrem : rem ops (i :: rest) = rem ops rest := by simp [rem, hi, hk, k2]
          rw [hrem]
          cases hw : aWanted ops f oi with
          | none => simp only [hw] at h
          | some wb =>
            cases wb with
            | false =>
              simp only [hw] at h
              obtain ⟨h1, h2⟩ := put _ _ h
              exact ⟨_, σ, by simp only [pre, hw], h1, fun q => absurd q k2, by rw [if_neg k2]; exact hl, h2⟩
            | true =>
              simp only [hw, hcal] at h
              cases hr : aop P oi.op f σ σ.length with
              | none => simp only [hr] at h
              | some r =>
                have hv : ∃ v, r = .val v σ ∧ ∀ σ' nm', Inside σ σ' → aop P oi.op f σ' nm' = some (.val v σ') := by
                  rcases q01 with q | q
                  · obtain ⟨v, e1, e2⟩ := aop_k0 q hr; exact ⟨v, e1, fun s n _ => e2 s n⟩
                  · exact aop_k1 q hr
                obtain ⟨v, rfl, e2⟩ := hv
                simp only [hr] at h
                obtain ⟨h1, h2⟩ := put _ _ h
                exact ⟨v, σ, by simp only [pre, hw, e2 _ _ (Inside.pad σ _)], h1, fun q => absurd q k2, by rw [if_neg k2]; exact hl, h2⟩
      obtain ⟨v, σ1, k1, k2, k3, k4, k5⟩ := key
      refine T_first hQ hi hk (sound_waits hS hi) fix rest.length listed f _ b (fun j hj => ?_) (fun j oj hj hne hun hR => ?_) hr v _ k1 k2 k3 (AD_T hS hB hQ rest _ _ _ _ _ (by simpa using hz) hc k4 k5)
      · cases hoj : ops[j]? with
        | none =>
          have : listed.size ≤ j := by rw [hz]; exact Array.getElem?_eq_none_iff.1 hoj
          simp [Array.getElem?_eq_none this]
        | some oj =>
          have := hall j oj hoj
          rw [if_pos hj] at this
          have h2 : listed.getD j true = false := by simpa using this
          rcases Nat.lt_or_ge j listed.size with h' | h'
          · simp [h'] at h2 ⊢; exact h2
          · simp [Array.getElem?_eq_none h'] at h2
      · have := hall j oj hj
        rw [if_neg (by rw [hR]; decide)] at this
        simp only [Bool.or_eq_true, Bool.and_eq_true, beq_iff_eq, bne_iff_ne, List.contains_eq_mem, decide_eq_true_eq, hun, Bool.false_eq_true, or_false] at this
        rcases this with q | q
        · exact absurd q hne
        · refine ⟨q.1.1, fun hk2 => ?_, fun hk1 hk3 => ?_⟩
          · rcases q.1.2 with (q | q) | q
            · exact absurd hk2 q
            · exact .inl q
            · exact .inr q
          · rcases q.2 with (q | q) | q
            · exact absurd hk1 q
            · exact absurd hk3 q
            · exact q


theorem AD.mono {holds : Nat → List Nat} {Q Q' : Fr → H → Prop} (hq : ∀ f σ, Q f σ → Q' f σ) : ∀ (l : List Nat) (f : Fr) (σ : H), AD P ops holds Q l f σ → AD P ops holds Q' l f σ
  | [], f, σ, h => hq _ _ h
  | i :: rest, f, σ, h => by
    obtain ⟨o, ho, h⟩ := h
    exact ⟨o, ho, h.mono (fun f' σ' hp => ⟨hp.1, AD.mono hq rest _ _ hp.2⟩) (fun _ _ h => h)⟩

/-- A region's shape as numbers: whom each waits for (bits), what is held, the numbers of the new names, how many come behind a step. -/
structure Plan where
  ord : List Nat
  wt : List Nat
  hs : List (List Nat)
  rk : List Nat
  pd : List Nat

def Plan.shape (p : Plan) : Shape := { R := fun i j => (p.wt.getD j 0).testBit i, holds := fun j => p.hs.getD j [], rank := fun j => p.rk.getD j 0, pad := fun j => p.pd.getD j 0 }

def Plan.ok (p : Plan) (ops : Array Oper) : Bool := p.ord.length == ops.size && decide (p.hs.length ≤ ops.size) && Sound ops p.shape && Chk ops p.shape p.ord (Array.replicate ops.size false) 0

theorem Rcode.drawD {k id : Nat} {f : Fr} {σ : H} {Q : Ex → Fr → H → Prop} (hm : P.follows .mixedOrders = true) (p : Plan) (hp : p.ok ops = true) (h : AD P ops p.shape.holds (Q .normal) p.ord f σ) : Rcode P k (.region id ops true) f σ Q := fun w ro m a hf hσ hk => by
  simp only [Plan.ok, Bool.and_eq_true, beq_iff_eq, decide_eq_true_eq] at hp
  obtain ⟨⟨⟨h1, h2⟩, h3⟩, h4⟩ := hp
  have hB : ∀ j : Nat, ops[j]? = none → p.shape.holds j = [] := fun j hj => by
    have := Array.getElem?_eq_none_iff.1 hj
    simp only [Plan.shape, List.getD_eq_getElem?_getD]
    rw [List.getElem?_eq_none (by omega)]
    rfl
  let Q' : Fr → H → Prop := fun f σ => ∃ g, FrEq f g ∧ Q .normal g σ
  have hQ : ∀ f g σ, FrEq f g → Q' f σ → Q' g σ := fun f g σ he ⟨g', h5, h6⟩ => ⟨g', he.symm.trans h5, h6⟩
  have ht := AD_T (Q := Q') h3 hB hQ p.ord (Array.replicate ops.size false) 0 f σ σ.length (by simp) h4 (by simp) (AD.mono (fun f σ hq => ⟨f, FrEq.refl f, hq⟩) _ _ _ h)
  have hx : Ext w ro m { w with drawn := w.drawn + 1 } ro m := Ext.drawn ro m rfl rfl rfl rfl
  refine wp_region_any hm ?_
  rw [h1] at ht
  refine wpAny_monoQ (fun e a w' hp => hp.step hx (fun _ _ => rfl)) _ _ _ _ (T_ok (k := k) (QA := Q) (fun f σ hq => hq) _ _ _ _ _ ht (hf.keep (hx.keeps fun _ _ h => h)) ((hσ.keep (w' := { w with drawn := w.drawn + 1 }) rfl).pad _) (fun x hx1 _ => ?_) hk (by simp))
  cases hq : m x with
  | none => rfl
  | some q => exact absurd (hσ.dom x q hq) (by omega)

/-- What a load gave it gives still. -/
def HeldO (P : Program) (o : Oper) (f : Fr) (σ σ' : H) : Prop :=
  match o.op with
  | .load t x => ∀ v, aLoad P t σ (f.eval x) = some v → aLoad P t σ' (f.eval x) = some v
  | op => ∀ v, aop P op f σ 0 = some (.val v σ) → aop P op f σ' 0 = some (.val v σ')

def HeldL (P : Program) (l : List Oper) (f : Fr) (σ σ' : H) : List Nat → Prop
  | [] => True
  | i :: r => (match l[i]? with | some o => HeldO P o f σ σ' | none => False) ∧ HeldL P l f σ σ' r

theorem HeldL.spec {l : List Oper} {f : Fr} {σ σ' : H} : ∀ {hs : List Nat}, HeldL P l f σ σ' hs → ∀ i, i ∈ hs → Held1 P l.toArray i f σ σ'
  | j :: r, h, i, hi => by
    rcases List.mem_cons.1 hi with rfl | hi
    · intro o ho v hv
      rw [List.getElem?_toArray] at ho
      have h1 := h.1
      simp only [ho] at h1
      unfold HeldO at h1
      split at h1
      · rename_i t x hop
        rw [hop] at hv ⊢
        simp only [aop] at hv ⊢
        obtain ⟨u, e1, e2⟩ := map_some hv
        cases e2
        rw [h1 v e1]; rfl
      · exact h1 v hv
    · exact HeldL.spec h.2 i hi

/-- The operations of a list in an order of choice. -/
def AP (P : Program) (l : List Oper) (hs : List (List Nat)) (Q : Fr → H → Prop) : List Nat → Fr → H → Prop
  | [], f, σ => Q f σ
  | i :: rest, f, σ => match l[i]? with
    | some o => AStep P l.toArray o f σ (fun f' σ' => HeldL P l f σ σ' (hs.getD i []) ∧ AP P l hs Q rest f' σ') fun _ _ => False
    | none => False

theorem AP_AD {l : List Oper} {hs : List (List Nat)} {Q : Fr → H → Prop} : ∀ (r : List Nat) (f : Fr) (σ : H), AP P l hs Q r f σ → AD P l.toArray (fun j => hs.getD j []) Q r f σ
  | [], f, σ, h => h
  | i :: rest, f, σ, h => by
    unfold AP at h
    split at h
    · rename_i o ho
      exact ⟨o, by rw [List.getElem?_toArray]; exact ho, h.mono (fun f' σ' hp => ⟨hp.1.spec, AP_AD rest _ _ hp.2⟩) (fun _ _ h => h)⟩
    · exact h.elim

theorem Rcode.draw {k id : Nat} {l : List Oper} {f : Fr} {σ : H} {Q : Ex → Fr → H → Prop} (hm : P.follows .mixedOrders = true) (p : Plan) (hp : p.ok l.toArray = true) (h : AP P l p.hs (Q .normal) p.ord f σ) : Rcode P k (.region id l.toArray true) f σ Q :=
  Rcode.drawD hm p hp (AP_AD _ _ _ h)

end
end Go.Am
