/- Regions that draw their order: one walk, in an order of choice, serves every order. -/
import Derived.Test.YtbnegbjaoiplmaaAmN
set_option linter.unusedVariables false
set_option linter.unusedSimpArgs false
namespace Go.Am
open Go

theorem pad_get {σ : H} {n b : Nat} {e : Ent} (hb : (σ ++ List.replicate n none)[b]? = some (some e)) : σ[b]? = some (some e) := by
  rcases Nat.lt_or_ge b σ.length with q | q
  · rwa [List.getElem?_append_left q] at hb
  · rw [List.getElem?_append_right q, List.getElem?_replicate] at hb
    split at hb <;> simp at hb

theorem HeapOk.pad {w : World} {ro : Nat → Prop} {m : Pl} {σ : H} (h : HeapOk w ro m σ) (n : Nat) : HeapOk w ro m (σ ++ List.replicate n none) where
  dom b p hb := by have := h.dom b p hb; rw [List.length_append]; omega
  row b cells hb := h.row b cells (pad_get hb)
  mapE b es hb := h.mapE b es (pad_get hb)
  inj b1 b2 e1 e2 B1 D1 B2 D2 hne h1 h2 := h.inj b1 b2 e1 e2 B1 D1 B2 D2 hne (pad_get h1) (pad_get h2)
  rob := h.rob
  mb := h.mb

/-! ### One step, said of the model -/

section
variable {P : Program} {ops : Array Oper}

theorem AStep_ok {o : Oper} {i : Nat} (hi : ops[i]? = some o) {f : Fr} {σ : H} {K : Fr → H → Prop} {X : V → H → Prop} (h : AStep P ops o f σ K X) {w : World} {ro : Nat → Prop} {m : Pl} {a : Act} (hf : FrOk w ro m f a) (hσ : HeapOk w ro m σ)
    {KK : Act → World → Prop} {QQ : Exit → Act → World → Prop}
    (hK : ∀ f' σ' w' ro' m' a', K f' σ' → FrOk w' ro' m' f' a' → HeapOk w' ro' m' σ' → Ext w ro m w' ro' m' → (∀ b, b < σ.length → m' b = m b) → σ.length ≤ σ'.length → KK a' w')
    (hX : ∀ v u σ' w' ro' m' a', X v σ' → VR w' ro' m' v u → FrOk w' ro' m' f a' → HeapOk w' ro' m' σ' → Ext w ro m w' ro' m' → (∀ b, b < σ.length → m' b = m b) → σ.length ≤ σ'.length → QQ (.panic [{ v := u, recovered := false }]) a' w') :
    wpOp P ops QQ i KK a w := by
  unfold wpOp
  simp only [hi]
  unfold AStep at h
  cases hw : aWanted ops f o with
  | none => simp only [hw] at h
  | some b =>
    rw [aWanted_ok hf hw]
    simp only [hw] at h
    cases b with
    | false =>
      obtain ⟨f', hp, h⟩ := h
      simp only [Bool.false_eq_true, if_false]
      exact hK _ _ _ _ _ _ h (hf.put (.undef w ro m) hp) hσ (Ext.refl w ro m) (fun _ _ => rfl) (Nat.le_refl _)
    | true =>
      simp only at h
      simp only [if_true]
      refine .inl ?_
      unfold Oper.wp
      cases hc : aCallee f o.op with
      | some ga =>
        obtain ⟨g, args⟩ := ga
        simp only [hc] at h
        obtain ⟨hcb, hs⟩ := h
        obtain ⟨vs, h1, h2⟩ := aCallee_run (o := o) hf hc hcb
        rw [h1]
        simp only [Oper.upon_enter]
        refine (hs w ro m vs h2 hσ).mono fun e w' hp => ?_
        obtain ⟨out, σ', ro', m', g1, g2, g3, g4, g5, g6⟩ := hp
        have hm : ∀ b p, m b = some p → m' b = some p := fun b p hb => by rw [g5 b (hσ.dom b p hb)]; exact hb
        have kp := g4.keeps hm
        cases g2 with
        | ret hv =>
          obtain ⟨f', hp, h⟩ := g1
          exact hK _ _ _ _ _ _ h ((hf.keep kp).put hv hp) g3 g4 g5 g6
        | pan hv => exact hX _ _ _ _ _ _ _ g1 hv (hf.keep kp) g3 g4 g5 g6
      | none =>
        simp only [hc] at h
        have hm : m σ.length = none := by
          cases hq : m σ.length with
          | none => rfl
          | some p => exact absurd (hσ.dom _ p hq) (Nat.lt_irrefl _)
        cases hr : aop P o.op f σ σ.length with
        | none => simp only [hr] at h
        | some r =>
          have hok := aop_ok (o := o) hf hσ (Nat.le_refl _) hm hr
          have hle := aop_le hr
          cases r with
          | val v σ' =>
            simp only [hr] at h
            obtain ⟨f', hp, h⟩ := h
            obtain ⟨v', w', m', g1, g2, g3, g4, g5⟩ := hok
            rw [g1]
            simp only [Oper.upon_value]
            exact hK _ _ _ _ _ _ h ((hf.keep (g4.keeps g5.1)).put g2 hp) g3 g4 (fun b hb => g5.2 b (by omega)) hle
          | skip σ' =>
            simp only [hr] at h
            obtain ⟨f', hp, h⟩ := h
            obtain ⟨w', g1, g2, g3⟩ := hok
            rw [g1]
            simp only [Oper.upon_skip]
            exact hK _ _ _ _ _ _ h ((hf.keep (g3.keeps fun _ _ h => h)).put (.undef w' ro m) hp) g2 g3 (fun _ _ => rfl) hle

theorem pre_ok {o : Oper} {i : Nat} (hi : ops[i]? = some o) (hkind : kindOf o.op ≠ 3) {f : Fr} {σ : H} {nm : Nat} {v : V} {σ1 : H} (h : pre P ops o f σ nm = some (v, σ1)) (hfit : f.fits o.dst) {w : World} {ro : Nat → Prop} {m : Pl} {a : Act} (hf : FrOk w ro m f a) (hσ : HeapOk w ro m σ) (hn : nm ≤ σ.length) (hm : m nm = none)
    {KK : Act → World → Prop} {QQ : Exit → Act → World → Prop}
    (hK : ∀ w' m' a', FrOk w' ro m' (f.set o.dst v) a' → HeapOk w' ro m' σ1 → Ext w ro m w' ro m' → Grow nm m m' → KK a' w') :
    wpOp P ops QQ i KK a w := by
  unfold wpOp
  simp only [hi]
  have hput : f.put o.dst v = some (f.set o.dst v) := Fr.put_iff.2 ⟨hfit, rfl⟩
  unfold pre at h
  split at h
  · cases h
  · rename_i hw
    rw [aWanted_ok hf hw]
    cases h
    simp only [Bool.false_eq_true, if_false]
    exact hK _ _ _ (hf.put (.undef w ro m) hput) hσ (Ext.refl w ro m) (Grow.refl nm m)
  · rename_i hw
    rw [aWanted_ok hf hw]
    simp only [if_true]
    refine .inl ?_
    unfold Oper.wp
    split at h
    · rename_i v0 s0 hr
      cases h
      obtain ⟨v', w', m', g1, g2, g3, g4, g5⟩ := aop_ok (o := o) hf hσ hn hm hr
      rw [g1]
      simp only [Oper.upon_value]
      exact hK _ _ _ ((hf.keep (g4.keeps g5.1)).put g2 hput) g3 g4 g5
    · cases h

/-! ### All orders -/

theorem kindOf_le (op : Op) : kindOf op ≤ 3 := by
  cases op <;> simp only [kindOf] <;> try omega
  rename_i c
  obtain ⟨callee, xs, ts⟩ := c
  cases callee <;> try (simp; done)
  rename_i b
  cases b <;> simp

theorem wpOp_monoQ {QQ QQ' : Exit → Act → World → Prop} (hq : ∀ e a w, QQ e a w → QQ' e a w) {K K' : Act → World → Prop} (hk : ∀ a w, K a w → K' a w) {i : Nat} {a : Act} {w : World} (h : wpOp P ops QQ i K a w) : wpOp P ops QQ' i K' a w := by
  unfold wpOp at h ⊢
  cases ho : ops[i]? with
  | none => simp only [ho] at h ⊢; exact hk _ _ h
  | some o =>
    simp only [ho] at h ⊢
    split at h
    · rename_i hw
      rw [if_pos hw]
      rcases h with h | ⟨h1, a0, w0, h2⟩
      · refine .inl ?_
        unfold Oper.wp at h ⊢
        generalize (execOp a.eval o).run P w = r at h
        cases r with
        | ok n w' =>
          cases n <;> simp only [Oper.upon] at h ⊢
          case value => exact hk _ _ h
          case skip => exact hk _ _ h
          case defer => exact hk _ _ h
          case enter =>
            refine Calls.mono h fun e w'' he => ?_
            cases e with
            | returned v => exact hk _ _ he
            | panicked c => exact hq _ _ _ he
            | outgrown => obtain ⟨a0, w0, h2⟩ := he; exact ⟨a0, w0, hq _ _ _ h2⟩
          case row => exact Rows.mono h fun v w'' he => hk _ _ he
        | halt x w' =>
          cases x <;> simp only [Oper.upon] at h ⊢
          case panic => exact hq _ _ _ h
      · exact .inr ⟨h1, a0, w0, hq _ _ _ h2⟩
    · rename_i hw
      rw [if_neg hw]
      exact hk _ _ h

theorem wpAny_monoQ {md : Region.Mode} {QQ QQ' : Exit → Act → World → Prop} (hq : ∀ e a w, QQ e a w → QQ' e a w) : ∀ (fuel : Nat) (listed : Array Bool) (a : Act) (w : World), wpAny P md ops QQ fuel listed a w → wpAny P md ops QQ' fuel listed a w
  | 0, _, _, _, h => ⟨h.1, hq _ _ _ h.2⟩
  | fuel + 1, _, _, _, h => ⟨fun h0 => hq _ _ _ (h.1 h0), fun i hi => wpOp_monoQ hq (fun a w => wpAny_monoQ hq fuel _ a w) (h.2 i hi)⟩

/-- What a region's shape tells: who waits for whom, which loads a step must leave as they are, each new name's number, how many names come behind a step. -/
structure Shape where
  R : Nat → Nat → Bool
  holds : Nat → List Nat
  rank : Nat → Nat
  pad : Nat → Nat

def Held1 (P : Program) (ops : Array Oper) (i : Nat) (f : Fr) (σ σ' : H) : Prop :=
  ∀ o, ops[i]? = some o → ∀ v, aop P o.op f σ 0 = some (.val v σ) → aop P o.op f σ' 0 = some (.val v σ')

def TStep (P : Program) (ops : Array Oper) (S : Shape) (i : Nat) (o : Oper) (listed : Array Bool) (f : Fr) (σ : H) (b : Nat) (K : Fr → H → Nat → Prop) : Prop :=
  if kindOf o.op = 3 then AStep P ops o f σ (fun f' σ' => (∀ i', i' ∈ S.holds i → (listed.getD i' false = true ∨ i' ∈ Region.ready .any ops listed) → Held1 P ops i' f σ σ') ∧ K f' (σ' ++ List.replicate (S.pad i) none) σ'.length) fun _ _ => False
  else ∃ v σ', pre P ops o f σ (b + S.rank i) = some (v, σ') ∧ f.fits o.dst ∧ (kindOf o.op = 2 → o.guard = none ∧ σ[b + S.rank i]? = some none) ∧ K (f.set o.dst v) σ' b

def T (P : Program) (ops : Array Oper) (S : Shape) (Q : Fr → H → Prop) : Nat → Array Bool → Fr → H → Nat → Prop
  | 0, listed, f, σ, b => Region.ready .any ops listed = [] ∧ Q f σ
  | fuel + 1, listed, f, σ, b =>
    (Region.ready .any ops listed = [] → Q f σ) ∧
    ∀ i ∈ Region.ready .any ops listed, ∀ o, ops[i]? = some o → TStep P ops S i o listed f σ b (T P ops S Q fuel (listed.setIfInBounds i true))

variable {S : Shape} {Q : Fr → H → Prop}

theorem wpOp_none {QQ : Exit → Act → World → Prop} {i : Nat} {KK : Act → World → Prop} {a : Act} {w : World} (hi : ops[i]? = none) (h : KK a w) : wpOp P ops QQ i KK a w := by
  unfold wpOp
  simp only [hi]
  exact h

theorem T_ok {k : Nat} {QA : Ex → Fr → H → Prop} (hQ : ∀ f σ, Q f σ → ∃ g, FrEq f g ∧ QA .normal g σ) : ∀ (fuel : Nat) (listed : Array Bool) (f : Fr) (σ : H) (b : Nat), T P ops S Q fuel listed f σ b →
    ∀ {w : World} {ro : Nat → Prop} {m : Pl} {a : Act}, FrOk w ro m f a → HeapOk w ro m σ → (∀ x : Nat, b ≤ x → σ[x]? = some none → m x = none) → k ≤ b → b ≤ σ.length →
    wpAny P .any ops (Post k w ro m QA) fuel listed a w
  | 0, listed, f, σ, b, h, w, ro, m, a, hf, hσ, hfree, hk, hb => by
    refine ⟨h.1, ?_⟩
    obtain ⟨g, h1, h2⟩ := hQ f σ h.2
    exact Post.here (h1.ok hf) hσ (by omega) h2 .normal
  | fuel + 1, listed, f, σ, b, h, w, ro, m, a, hf, hσ, hfree, hk, hb => by
    refine ⟨fun h0 => ?_, fun i hi => ?_⟩
    · obtain ⟨g, h1, h2⟩ := hQ f σ (h.1 h0)
      exact Post.here (h1.ok hf) hσ (by omega) h2 .normal
    obtain ⟨_, o, ho, _⟩ := mem_ready.1 hi
    have hs := h.2 i hi o ho
    have wk : ∀ {w' : World} {ro' : Nat → Prop} {m' : Pl} {fl : Array Bool} {a' : Act}, Ext w ro m w' ro' m' → (∀ b, b < k → m' b = m b) → wpAny P .any ops (Post k w' ro' m' QA) fuel fl a' w' → wpAny P .any ops (Post k w ro m QA) fuel fl a' w' := fun hx hm hh => wpAny_monoQ (fun e a w hp => hp.step hx hm) _ _ _ _ hh
    unfold TStep at hs
    split at hs
    · refine AStep_ok ho hs hf hσ (fun f' σ' w' ro' m' a' hk' hf' hσ' hx hm hle => ?_) (fun v u σ' w' ro' m' a' hx' => hx'.elim)
      refine wk hx (fun b' hb' => hm b' (by omega)) (T_ok hQ fuel _ _ _ _ hk'.2 hf' (hσ'.pad _) (fun x hx1 hx2 => ?_) (by omega) (by simp))
      cases hq : m' x with
      | none => rfl
      | some p => exact absurd (hσ'.dom x p hq) (by omega)
    · rename_i hkind
      obtain ⟨v, σ', h1, h2, h3, h4⟩ := hs
      by_cases q : kindOf o.op = 2
      · obtain ⟨hg, hnm⟩ := h3 q
        have hlt : b + S.rank i < σ.length := (List.getElem?_eq_some_iff.1 hnm).1
        obtain ⟨e, rfl, _⟩ := pre_k2 q hg h1
        refine pre_ok ho hkind h1 h2 hf hσ (Nat.le_of_lt hlt) (hfree _ (by omega) hnm) (fun w' m' a' hf' hσ' hx hgr => ?_)
        refine wk hx (fun b' hb' => hgr.2 b' (by omega)) (T_ok hQ fuel _ _ _ _ h4 hf' hσ' (fun x hx1 hx2 => ?_) hk (by rw [H.place, if_pos hlt, List.length_set]; exact hb))
        rw [H.place_get (Nat.le_of_lt hlt)] at hx2
        split at hx2
        · cases hx2
        · rename_i hne; rw [hgr.2 x hne]; exact hfree x hx1 hx2
      · have q01 : kindOf o.op = 0 ∨ kindOf o.op = 1 := by
          have : kindOf o.op ≤ 3 := kindOf_le _
          omega
        obtain ⟨rfl, h5⟩ := pre_k01 q01 h1
        have hm : m σ'.length = none := by
          cases hq : m σ'.length with
          | none => rfl
          | some p => exact absurd (hσ.dom _ p hq) (Nat.lt_irrefl _)
        refine pre_ok ho hkind (h5 σ' σ'.length (Inside.refl σ')) h2 hf hσ (Nat.le_refl _) hm (fun w' m' a' hf' hσ' hx hgr => ?_)
        refine wk hx (fun b' hb' => hgr.2 b' (by omega)) (T_ok hQ fuel _ _ _ _ h4 hf' hσ' (fun x hx1 hx2 => ?_) hk hb)
        have : x < σ'.length := (List.getElem?_eq_some_iff.1 hx2).1
        rw [hgr.2 x (by omega)]
        exact hfree x hx1 hx2

end
end Go.Am
