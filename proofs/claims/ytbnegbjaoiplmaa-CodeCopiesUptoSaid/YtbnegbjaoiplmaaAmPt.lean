/- Regions that draw their order: walks that part where one of two may come first. -/
import Derived.Test.YtbnegbjaoiplmaaAmQ
set_option linter.unusedVariables false
set_option linter.unusedSimpArgs false
namespace Go.Am
open Go

/-- A walk in an order of choice, that may part. -/
inductive PT where
  | nil
  | one (i : Nat) (t : PT)
  | two (i : Nat) (t : PT) (j : Nat) (u : PT)

def PT.depth : PT → Nat
  | .nil => 0
  | .one _ t => t.depth + 1
  | .two _ t _ _ => t.depth + 1

/-- May an operation that makes no call be taken first? -/
def firstB (ops : Array Oper) (S : Shape) (listed : Array Bool) (i : Nat) : Bool :=
  match ops[i]? with
  | none => false
  | some oi => kindOf oi.op != 3 && (Region.ready .any ops listed).contains i && (kindOf oi.op != 2 || oi.guard.isNone) &&
      ((List.range ops.size).all fun j => match ops[j]? with
        | none => true
        | some oj => if S.R i j then !listed.getD j true else j == i || listed.getD j true || (oi.apart ops oj && (kindOf oi.op != 2 || kindOf oj.op == 0 || (kindOf oj.op == 2 && S.rank j != S.rank i)) && (kindOf oi.op != 1 || kindOf oj.op != 3 || (S.holds j).contains i)))

def ChkT (ops : Array Oper) (S : Shape) : PT → Array Bool → Bool
  | .nil, listed => (Region.ready .any ops listed).isEmpty
  | .one i t, listed => ((Region.ready .any ops listed == [i]) || firstB ops S listed i) && ChkT ops S t (listed.setIfInBounds i true)
  | .two i t j u, listed => !(Region.ready .any ops listed).isEmpty && ((Region.ready .any ops listed).all fun x => x == i || x == j) && t.depth == u.depth && ChkT ops S t (listed.setIfInBounds i true) && ChkT ops S u (listed.setIfInBounds j true)

section
variable {P : Program} {ops : Array Oper}

/-- One operation; the heap bears the names that are kept free. -/
def SO (P : Program) (ops : Array Oper) (S : Shape) (i : Nat) (f : Fr) (σ : H) (b : Nat) (K : Fr → H → Nat → Prop) : Prop :=
  match ops[i]? with
  | none => False
  | some o =>
    if kindOf o.op = 3 then AStep P ops o f σ (fun f' σ' => (∀ i', i' ∈ S.holds i → Held1 P ops i' f σ σ') ∧ K f' (σ' ++ List.replicate (S.pad i) none) σ'.length) fun _ _ => False
    else if kindOf o.op = 2 then ∃ v σ', pre P ops o f σ (b + S.rank i) = some (v, σ') ∧ f.fits o.dst ∧ o.guard = none ∧ σ[b + S.rank i]? = some none ∧ K (f.set o.dst v) σ' b
    else AStep P ops o f σ (fun f' σ' => K f' σ' b) fun _ _ => False

def AT (P : Program) (ops : Array Oper) (S : Shape) (Q : Fr → H → Prop) : PT → Fr → H → Nat → Prop
  | .nil, f, σ, _ => Q f σ
  | .one i t, f, σ, b => SO P ops S i f σ b (AT P ops S Q t)
  | .two i t j u, f, σ, b => SO P ops S i f σ b (AT P ops S Q t) ∧ SO P ops S j f σ b (AT P ops S Q u)

theorem SO_T {S : Shape} {i : Nat} {f : Fr} {σ : H} {b : Nat} {K : Fr → H → Nat → Prop} (h : SO P ops S i f σ b K) : ∃ o, ops[i]? = some o ∧ ∀ listed, TStep P ops S i o listed f σ b K := by
  unfold SO at h
  split at h
  · exact h.elim
  · rename_i o ho
    refine ⟨o, ho, fun listed => ?_⟩
    unfold TStep
    by_cases k3 : kindOf o.op = 3
    · rw [if_pos k3] at h ⊢
      exact h.mono (fun f' σ' hp => ⟨fun i' h1 _ => hp.1 i' h1, hp.2⟩) (fun _ _ h => h)
    · rw [if_neg k3] at h ⊢
      by_cases k2 : kindOf o.op = 2
      · rw [if_pos k2] at h
        obtain ⟨v, σ', h1, h2, h3, h4, h5⟩ := h
        exact ⟨v, σ', h1, h2, fun _ => ⟨h3, h4⟩, h5⟩
      · rw [if_neg k2] at h
        have q01 : kindOf o.op = 0 ∨ kindOf o.op = 1 := by have := kindOf_le o.op; omega
        have hcal : aCallee f o.op = none := aCallee_kind k3
        have put : ∀ (v : V) (σ1 : H), (∃ f', f.put o.dst v = some f' ∧ K f' σ1 b) → f.fits o.dst ∧ K (f.set o.dst v) σ1 b := fun v σ1 ⟨f', h1, h2⟩ => by
          obtain ⟨h3, rfl⟩ := Fr.put_iff.1 h1
          exact ⟨h3, h2⟩
        unfold AStep at h
        cases hw : aWanted ops f o with
        | none => simp only [hw] at h
        | some wb =>
          cases wb with
          | false =>
            simp only [hw] at h
            obtain ⟨h1, h2⟩ := put _ _ h
            exact ⟨_, σ, by simp only [pre, hw], h1, fun q => absurd q k2, h2⟩
          | true =>
            simp only [hw, hcal] at h
            cases hr : aop P o.op f σ σ.length with
            | none => simp only [hr] at h
            | some r =>
              have hv : ∃ v, r = .val v σ ∧ ∀ nm', aop P o.op f σ nm' = some (.val v σ) := by
                rcases q01 with q | q
                · obtain ⟨v, e1, e2⟩ := aop_k0 q hr; exact ⟨v, e1, fun n => e2 σ n⟩
                · obtain ⟨v, e1, e2⟩ := aop_k1 q hr; exact ⟨v, e1, fun n => e2 σ n (Inside.refl σ)⟩
              obtain ⟨v, rfl, e2⟩ := hv
              simp only [hr] at h
              obtain ⟨h1, h2⟩ := put _ _ h
              exact ⟨v, σ, by simp only [pre, hw, e2], h1, fun q => absurd q k2, h2⟩

theorem firstB_T {S : Shape} {Q : Fr → H → Prop} (hS : Sound ops S = true) (hB : ∀ j, ops[j]? = none → S.holds j = []) (hQ : ∀ f g σ, FrEq f g → Q f σ → Q g σ) {listed : Array Bool} (hz : listed.size = ops.size) {i : Nat} (hc : firstB ops S listed i = true) {f : Fr} {σ : H} {b : Nat} {K : Fr → H → Nat → Prop} (h : SO P ops S i f σ b K) {fuel : Nat}
    (hK : ∀ f σ b, K f σ b → T P ops S Q fuel (listed.setIfInBounds i true) f σ b) : T P ops S Q (fuel + 1) listed f σ b := by
  unfold firstB at hc
  split at hc
  · cases hc
  · rename_i oi hi
    simp only [Bool.and_eq_true, List.contains_eq_mem, decide_eq_true_eq, Bool.or_eq_true, bne_iff_ne, ne_eq] at hc
    obtain ⟨⟨⟨hk, hr⟩, hg⟩, hall⟩ := hc
    have hall := fun j oj (hj : ops[j]? = some oj) => by
      have := List.all_eq_true.1 hall j (List.mem_range.2 (Array.getElem?_eq_some_iff.1 hj).1)
      simp only [hj] at this
      exact this
    obtain ⟨o, ho, hs⟩ := SO_T h
    rw [hi] at ho; cases ho
    have hs := hs listed
    unfold TStep at hs
    rw [if_neg hk] at hs
    obtain ⟨v, σ1, k1, k2, k3, k4⟩ := hs
    have fix := fun j i' (h1 : i' ∈ S.holds j) => by
      cases hj : ops[j]? with
      | none => rw [hB j hj] at h1; cases h1
      | some oj => exact sound_fix hS hi j oj hj i' h1
    refine T_first hQ hi hk (sound_waits hS hi) fix fuel listed f _ b (fun j hj => ?_) (fun j oj hj hne hun hR => ?_) hr v _ k1 k2 k3 (hK _ _ _ k4)
    · cases hoj : ops[j]? with
      | none =>
        have : listed.size ≤ j := by rw [hz]; exact Array.getElem?_eq_none_iff.1 hoj
        simp [Array.getElem?_eq_none this]
      | some oj =>
        have := hall j oj hoj
        rw [if_pos hj] at this
        have h2 : listed.getD j true = false := by simpa using this
        rcases Nat.lt_or_ge j listed.size with h' | h'
        · simp [h'] at h2 ⊢; exact h2
        · simp [Array.getElem?_eq_none h'] at h2
    · have := hall j oj hj
      rw [if_neg (by rw [hR]; decide)] at this
      simp only [Bool.or_eq_true, Bool.and_eq_true, beq_iff_eq, bne_iff_ne, List.contains_eq_mem, decide_eq_true_eq, hun, Bool.false_eq_true, or_false] at this
      rcases this with q | q
      · exact absurd q hne
      · refine ⟨q.1.1, fun hk2 => ?_, fun hk1 hk3 => ?_⟩
        · rcases q.1.2 with (q | q) | q
          · exact absurd hk2 q
          · exact .inl q
          · exact .inr q
        · rcases q.2 with (q | q) | q
          · exact absurd hk1 q
          · exact absurd hk3 q
          · exact q

theorem AT_T {S : Shape} {Q : Fr → H → Prop} (hS : Sound ops S = true) (hB : ∀ j, ops[j]? = none → S.holds j = []) (hQ : ∀ f g σ, FrEq f g → Q f σ → Q g σ) : ∀ (t : PT) (listed : Array Bool), listed.size = ops.size → ChkT ops S t listed = true →
    ∀ (f : Fr) (σ : H) (b : Nat), AT P ops S Q t f σ b → T P ops S Q t.depth listed f σ b
  | .nil, listed, hz, hc, f, σ, b, h => ⟨by simpa [ChkT] using hc, h⟩
  | .one i t, listed, hz, hc, f, σ, b, h => by
    simp only [ChkT, Bool.and_eq_true, Bool.or_eq_true, beq_iff_eq] at hc
    obtain ⟨hc1, hc2⟩ := hc
    have ih := AT_T hS hB hQ t (listed.setIfInBounds i true) (by simpa using hz) hc2
    rcases hc1 with hr | hf
    · obtain ⟨o, ho, hs⟩ := SO_T h
      refine ⟨fun h0 => (by rw [h0] at hr; cases hr), fun j hj oj hoj => ?_⟩
      rw [hr] at hj
      have hji : j = i := by simpa using hj
      subst hji
      rw [ho] at hoj; cases hoj
      have hs := hs listed
      unfold TStep at hs ⊢
      split at hs
      · rename_i q; rw [if_pos q]; exact hs.mono (fun f' σ' hp => ⟨hp.1, ih _ _ _ hp.2⟩) (fun _ _ h => h)
      · rename_i q; rw [if_neg q]
        obtain ⟨v, σ', k1, k2, k3, k4⟩ := hs
        exact ⟨v, σ', k1, k2, k3, ih _ _ _ k4⟩
    · exact firstB_T hS hB hQ hz hf h ih
  | .two i t j u, listed, hz, hc, f, σ, b, h => by
    simp only [ChkT, Bool.and_eq_true, beq_iff_eq, Bool.not_eq_true'] at hc
    obtain ⟨⟨⟨⟨hne, hall⟩, hd⟩, hc1⟩, hc2⟩ := hc
    have ih1 := AT_T hS hB hQ t (listed.setIfInBounds i true) (by simpa using hz) hc1
    have ih2 := AT_T hS hB hQ u (listed.setIfInBounds j true) (by simpa using hz) hc2
    rw [← hd] at ih2
    refine ⟨fun h0 => (by rw [h0] at hne; cases hne), fun x hx ox hox => ?_⟩
    have step : ∀ (y : Nat), SO P ops S y f σ b (T P ops S Q t.depth (listed.setIfInBounds y true)) → x = y → TStep P ops S x ox listed f σ b (T P ops S Q t.depth (listed.setIfInBounds x true)) := fun y hy e => by
      subst e
      obtain ⟨o, ho, hs⟩ := SO_T hy
      rw [ho] at hox; cases hox
      exact hs listed
    have mono : ∀ (y : Nat) (K K' : Fr → H → Nat → Prop), (∀ f σ b, K f σ b → K' f σ b) → SO P ops S y f σ b K → SO P ops S y f σ b K' := fun y K K' hk hy => by
      unfold SO at hy ⊢
      split at hy
      · exact hy
      · split at hy
        · rename_i q; rw [if_pos q]; exact hy.mono (fun f' σ' hp => ⟨hp.1, hk _ _ _ hp.2⟩) (fun _ _ h => h)
        · rename_i q; rw [if_neg q]
          split at hy
          · rename_i q2; rw [if_pos q2]
            obtain ⟨v, σ', k1, k2, k3, k4, k5⟩ := hy
            exact ⟨v, σ', k1, k2, k3, k4, hk _ _ _ k5⟩
          · rename_i q2; rw [if_neg q2]; exact hy.mono (fun f' σ' hp => hk _ _ _ hp) (fun _ _ h => h)
    have := List.all_eq_true.1 hall x hx
    simp only [Bool.or_eq_true, beq_iff_eq] at this
    rcases this with e | e
    · exact step i (mono i _ _ ih1 h.1) e
    · exact step j (mono j _ _ ih2 h.2) e

/-- A region's shape and a walk that may part. -/
structure PlanT where
  t : PT
  wt : List Nat
  hs : List (List Nat)
  rk : List Nat
  pd : List Nat
  n : Nat
def PlanT.shape (p : PlanT) : Shape := { R := fun i j => (p.wt.getD j 0).testBit i, holds := fun j => p.hs.getD j [], rank := fun j => p.rk.getD j 0, pad := fun j => p.pd.getD j 0 }
def PlanT.ok (p : PlanT) (ops : Array Oper) : Bool := p.t.depth == ops.size && decide (p.hs.length ≤ ops.size) && Sound ops p.shape && ChkT ops p.shape p.t (Array.replicate ops.size false)

theorem Rcode.drawT {k id : Nat} {f : Fr} {σ : H} {Q : Ex → Fr → H → Prop} (hm : P.follows .mixedOrders = true) (p : PlanT) (hp : p.ok ops = true) (h : AT P ops p.shape (Q .normal) p.t f (σ ++ List.replicate p.n none) σ.length) : Rcode P k (.region id ops true) f σ Q := fun w ro m a hf hσ hk => by
  simp only [PlanT.ok, Bool.and_eq_true, beq_iff_eq, decide_eq_true_eq] at hp
  obtain ⟨⟨⟨h1, h2⟩, h3⟩, h4⟩ := hp
  have hB : ∀ j : Nat, ops[j]? = none → p.shape.holds j = [] := fun j hj => by
    have := Array.getElem?_eq_none_iff.1 hj
    simp only [PlanT.shape, List.getD_eq_getElem?_getD]
    rw [List.getElem?_eq_none (by omega)]
    rfl
  let Q' : Fr → H → Prop := fun f σ => ∃ g, FrEq f g ∧ Q .normal g σ
  have hQ : ∀ f g σ, FrEq f g → Q' f σ → Q' g σ := fun f g σ he ⟨g', h5, h6⟩ => ⟨g', he.symm.trans h5, h6⟩
  have am : ∀ (t : PT) (f : Fr) (σ : H) (b : Nat), AT P ops p.shape (Q .normal) t f σ b → AT P ops p.shape Q' t f σ b := by
    have mono : ∀ (y : Nat) (f : Fr) (σ : H) (b : Nat) (K K' : Fr → H → Nat → Prop), (∀ f σ b, K f σ b → K' f σ b) → SO P ops p.shape y f σ b K → SO P ops p.shape y f σ b K' := fun y f σ b K K' hk hy => by
      unfold SO at hy ⊢
      split at hy
      · exact hy
      · split at hy
        · rename_i q; rw [if_pos q]; exact hy.mono (fun f' σ' hp => ⟨hp.1, hk _ _ _ hp.2⟩) (fun _ _ h => h)
        · rename_i q; rw [if_neg q]
          split at hy
          · rename_i q2; rw [if_pos q2]
            obtain ⟨v, σ', k1, k2, k3, k4, k5⟩ := hy
            exact ⟨v, σ', k1, k2, k3, k4, hk _ _ _ k5⟩
          · rename_i q2; rw [if_neg q2]; exact hy.mono (fun f' σ' hp => hk _ _ _ hp) (fun _ _ h => h)
    intro t
    induction t with
    | nil => exact fun f σ b h => ⟨f, FrEq.refl f, h⟩
    | one i t ih => exact fun f σ b h => mono i _ _ _ _ _ ih h
    | two i t j u ih1 ih2 => exact fun f σ b h => ⟨mono i _ _ _ _ _ ih1 h.1, mono j _ _ _ _ _ ih2 h.2⟩
  have ht := AT_T (Q := Q') h3 hB hQ p.t (Array.replicate ops.size false) (by simp) h4 f _ σ.length (am _ _ _ _ h)
  have hx : Ext w ro m { w with drawn := w.drawn + 1 } ro m := Ext.drawn ro m rfl rfl rfl rfl
  refine wp_region_any hm ?_
  rw [h1] at ht
  refine wpAny_monoQ (fun e a w' hp => hp.step hx (fun _ _ => rfl)) _ _ _ _ (T_ok (k := k) (QA := Q) (fun f σ hq => hq) _ _ _ _ _ ht (hf.keep (hx.keeps fun _ _ h => h)) ((hσ.keep (w' := { w with drawn := w.drawn + 1 }) rfl).pad _) (fun x hx1 _ => ?_) hk (by simp))
  cases hq : m x with
  | none => rfl
  | some q => exact absurd (hσ.dom x q hq) (by omega)
end

/-- The same with what is held told of a list. -/
def SK (P : Program) (l : List Oper) (S : Shape) (i : Nat) (o : Oper) (f : Fr) (σ : H) (b : Nat) (K : Fr → H → Nat → Prop) : Nat → Prop
  | 3 => AStep P l.toArray o f σ (fun f' σ' => HeldL P l f σ σ' (S.holds i) ∧ K f' (σ' ++ List.replicate (S.pad i) none) σ'.length) fun _ _ => False
  | 2 => ∃ v σ', pre P l.toArray o f σ (b + S.rank i) = some (v, σ') ∧ f.fits o.dst ∧ o.guard = none ∧ σ[b + S.rank i]? = some none ∧ K (f.set o.dst v) σ' b
  | _ => AStep P l.toArray o f σ (fun f' σ' => K f' σ' b) fun _ _ => False
def SL (P : Program) (l : List Oper) (S : Shape) (i : Nat) (f : Fr) (σ : H) (b : Nat) (K : Fr → H → Nat → Prop) : Option Oper → Prop
  | none => False
  | some o => SK P l S i o f σ b K (kindOf o.op)
def AL2 (P : Program) (l : List Oper) (S : Shape) (Q : Fr → H → Prop) : PT → Fr → H → Nat → Prop
  | .nil, f, σ, _ => Q f σ
  | .one i t, f, σ, b => SL P l S i f σ b (AL2 P l S Q t) l[i]?
  | .two i t j u, f, σ, b => SL P l S i f σ b (AL2 P l S Q t) l[i]? ∧ SL P l S j f σ b (AL2 P l S Q u) l[j]?

theorem SL.so {P : Program} {l : List Oper} {S : Shape} {i : Nat} {f : Fr} {σ : H} {b : Nat} {K K' : Fr → H → Nat → Prop} (hk : ∀ f σ b, K f σ b → K' f σ b) (h : SL P l S i f σ b K l[i]?) : SO P l.toArray S i f σ b K' := by
  unfold SO
  rw [List.getElem?_toArray]
  cases ho : l[i]? with
  | none => rw [ho] at h; exact h
  | some o =>
    rw [ho] at h
    simp only [SL] at h ⊢
    unfold SK at h
    split at h
    · rename_i q
      rw [if_pos q]
      exact h.mono (fun f' σ' hp => ⟨hp.1.spec, hk _ _ _ hp.2⟩) (fun _ _ h => h)
    · rename_i q
      rw [if_neg (by omega), if_pos q]
      obtain ⟨v, σ', k1, k2, k3, k4, k5⟩ := h
      exact ⟨v, σ', k1, k2, k3, k4, hk _ _ _ k5⟩
    · rename_i q3 q2
      rw [if_neg (fun e => q3 e), if_neg (fun e => q2 e)]
      exact h.mono (fun f' σ' hp => hk _ _ _ hp) (fun _ _ h => h)

theorem AL2.at {P : Program} {l : List Oper} {S : Shape} {Q : Fr → H → Prop} : ∀ (t : PT) (f : Fr) (σ : H) (b : Nat), AL2 P l S Q t f σ b → AT P l.toArray S Q t f σ b
  | .nil, f, σ, b, h => h
  | .one i t, f, σ, b, h => SL.so (AL2.at t) h
  | .two i t j u, f, σ, b, h => ⟨SL.so (AL2.at t) h.1, SL.so (AL2.at u) h.2⟩

theorem Rcode.drawL {P : Program} {k id : Nat} {l : List Oper} {f : Fr} {σ : H} {Q : Ex → Fr → H → Prop} (hm : P.follows .mixedOrders = true) (p : PlanT) (hp : p.ok l.toArray = true) (h : AL2 P l p.shape (Q .normal) p.t f (σ ++ List.replicate p.n none) σ.length) : Rcode P k (.region id l.toArray true) f σ Q :=
  Rcode.drawT hm p hp (AL2.at _ _ _ _ h)

end Go.Am
