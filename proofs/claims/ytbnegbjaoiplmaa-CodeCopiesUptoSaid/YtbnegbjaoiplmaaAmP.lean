/- Regions that draw their order: an operation that may come first may be taken first; the walk. -/
import Derived.Test.YtbnegbjaoiplmaaAmO
set_option linter.unusedVariables false
set_option linter.unusedSimpArgs false
namespace Go.Am
open Go

section
variable {P : Program} {ops : Array Oper} {S : Shape} {Q : Fr → H → Prop}

theorem Held1.congr {i : Nat} {f g : Fr} (h : ∀ o, ops[i]? = some o → Alike ops o f g) {σ σ' : H} (hh : Held1 P ops i f σ σ') : Held1 P ops i g σ σ' := fun o ho v hv => by
  have e := fun σ nm => aop_congr (P := P) (evals_of (h o ho)) σ nm
  rw [← e] at hv ⊢
  exact hh o ho v hv

theorem T_congr (hQ : ∀ f g σ, FrEq f g → Q f σ → Q g σ) : ∀ (fuel : Nat) (listed : Array Bool) (f g : Fr) (σ : H) (b : Nat), FrEq f g → T P ops S Q fuel listed f σ b → T P ops S Q fuel listed g σ b
  | 0, listed, f, g, σ, b, he, h => ⟨h.1, hQ _ _ _ he h.2⟩
  | fuel + 1, listed, f, g, σ, b, he, h => by
    refine ⟨fun h0 => hQ _ _ _ he (h.1 h0), fun i hi o ho => ?_⟩
    have hs := h.2 i hi o ho
    unfold TStep at hs ⊢
    split at hs
    · rename_i hk
      rw [if_pos hk]
      exact hs.alike he.1 (he.alike ops o) fun v σ' hp => ⟨fun i' h1 h2 => (hp.1 i' h1 h2).congr fun o' _ => he.alike ops o', T_congr hQ fuel _ _ _ _ _ (he.set _ _) hp.2⟩
    · rename_i hk
      rw [if_neg hk]
      obtain ⟨v, σ', h1, h2, h3, h4⟩ := hs
      exact ⟨v, σ', by rw [← pre_congr (he.alike ops o)]; exact h1, he.fits h2, h3, T_congr hQ fuel _ _ _ _ _ (he.set _ _) h4⟩

/-- A load that a step leaves as it is gives the same behind it. -/
theorem pre_held {i : Nat} {oi : Oper} (hi : ops[i]? = some oi) {f : Fr} {σ σ' : H} {nm : Nat} {v : V} {σ1 : H} (h : pre P ops oi f σ nm = some (v, σ1)) (hk : kindOf oi.op = 0 ∨ kindOf oi.op = 1 ∧ Held1 P ops i f σ σ') {σ2 : H} (hin : Inside σ' σ2) (nm' : Nat) :
    pre P ops oi f σ2 nm' = some (v, σ2) := by
  rcases hk with hk | ⟨hk, hh⟩
  · exact (pre_k0 hk h).2 σ2 nm'
  · obtain ⟨rfl, _⟩ := pre_k01 (.inr hk) h
    unfold pre at h ⊢
    split at h
    · cases h
    · cases h; rfl
    · split at h
      · rename_i v0 s0 hr
        cases h
        obtain ⟨u, e1, e2⟩ := aop_k1 hk hr
        cases e1
        have h0 := hh oi hi v (e2 σ1 0 (Inside.refl σ1))
        obtain ⟨u2, e3, e4⟩ := aop_k1 hk h0
        cases e3
        rw [e4 σ2 nm' hin]
      · cases h

theorem T_first (hQ : ∀ f g σ, FrEq f g → Q f σ → Q g σ) {i : Nat} {oi : Oper} (hi : ops[i]? = some oi) (hkind : kindOf oi.op ≠ 3)
    (waits : ∀ j oj, ops[j]? = some oj → S.R i j = true → ∃ e ∈ oj.after, Region.binds .any e = true ∧ (e.on = i ∨ S.R i e.on = true))
    (fix : ∀ j i', i' ∈ S.holds j → ∀ o', ops[i']? = some o' → S.R i i' = true ∨ ∀ d, oi.dst = some d → d ∉ o'.looksAt ops) :
    ∀ (fuel : Nat) (listed : Array Bool) (f : Fr) (σ : H) (b : Nat), (∀ j, S.R i j = true → listed.getD j false = false) →
      (∀ j oj, ops[j]? = some oj → j ≠ i → listed.getD j true = false → S.R i j = false → oi.apart ops oj = true ∧ (kindOf oi.op = 2 → kindOf oj.op = 0 ∨ kindOf oj.op = 2 ∧ S.rank j ≠ S.rank i) ∧ (kindOf oi.op = 1 → kindOf oj.op = 3 → i ∈ S.holds j)) →
      i ∈ Region.ready .any ops listed → ∀ (v : V) (σ1 : H), pre P ops oi f σ (b + S.rank i) = some (v, σ1) → f.fits oi.dst → (kindOf oi.op = 2 → oi.guard = none ∧ σ[b + S.rank i]? = some none) →
      T P ops S Q fuel (listed.setIfInBounds i true) (f.set oi.dst v) σ1 b → T P ops S Q (fuel + 1) listed f σ b := by
  intro fuel
  induction fuel with
  | zero =>
    intro listed f σ b hun hpair hr v σ1 hpre hfit hnew H
    refine ⟨fun h => (by rw [h] at hr; cases hr), fun j hj oj hoj => ?_⟩
    by_cases hji : j = i
    · subst hji
      rw [hi] at hoj; cases hoj
      unfold TStep
      rw [if_neg hkind]
      exact ⟨v, σ1, hpre, hfit, hnew, H⟩
    · have := ready_mono hj hji
      rw [H.1] at this
      cases this
  | succ fuel ih =>
    intro listed f σ b hun hpair hr v σ1 hpre hfit hnew H
    refine ⟨fun h => (by rw [h] at hr; cases hr), fun j hj oj hoj => ?_⟩
    by_cases hji : j = i
    · subst hji
      rw [hi] at hoj; cases hoj
      unfold TStep
      rw [if_neg hkind]
      exact ⟨v, σ1, hpre, hfit, hnew, H⟩
    · have hir := (mem_ready.1 hr).1
      have hsz : i < listed.size := by
        rcases Nat.lt_or_ge i listed.size with h' | h'
        · exact h'
        · simp [Array.getElem?_eq_none h'] at hir
      have notR : ∀ x, x ∈ Region.ready .any ops listed → S.R i x = false := fun x hx => by
        cases hq : S.R i x with
        | false => rfl
        | true =>
          obtain ⟨_, ox, hox, hall⟩ := mem_ready.1 hx
          obtain ⟨e, he, hb, hon⟩ := waits x ox hox hq
          have h1 := hall e he hb
          rcases hon with rfl | hon
          · simp [hsz] at hir h1; rw [hir] at h1; cases h1
          · rw [hun _ hon] at h1; cases h1
      have hjR := notR j hj
      obtain ⟨hjun, oj', hoj', hall⟩ := mem_ready.1 hj
      obtain ⟨hap, hp2, hp3⟩ := hpair j oj hoj hji hjun hjR
      obtain ⟨a1, a2, a3⟩ := Oper.apart_spec hap
      have hun' : ∀ x, S.R i x = true → (listed.setIfInBounds j true).getD x false = false := fun x hx => by
        have hne : j ≠ x := fun e => by subst e; rw [hjR] at hx; cases hx
        rw [getD_set_ne false hne]
        exact hun x hx
      have hpair' : ∀ x ox, ops[x]? = some ox → x ≠ i → (listed.setIfInBounds j true).getD x true = false → S.R i x = false → oi.apart ops ox = true ∧ (kindOf oi.op = 2 → kindOf ox.op = 0 ∨ kindOf ox.op = 2 ∧ S.rank x ≠ S.rank i) ∧ (kindOf oi.op = 1 → kindOf ox.op = 3 → i ∈ S.holds x) := fun x ox hx hxi hxl hxr => by
        refine hpair x ox hx hxi ?_ hxr
        by_cases hjx : j = x
        · subst hjx; exact hjun
        · rwa [getD_set_ne true hjx] at hxl
      have hr' : i ∈ Region.ready .any ops (listed.setIfInBounds j true) := ready_mono hr (Ne.symm hji)
      have hs := H.2 j (ready_mono hj hji) oj hoj
      have alj : Alike ops oj (f.set oi.dst v) f := Alike.set a1 f v
      have ali : ∀ u, Alike ops oi f (f.set oj.dst u) := fun u => (Alike.set a3 f u).symm
      have back : ∀ (u : V) (σ' : Go.Am.H) (b' : Nat), T P ops S Q fuel ((listed.setIfInBounds i true).setIfInBounds j true) ((f.set oi.dst v).set oj.dst u) σ' b' → T P ops S Q fuel ((listed.setIfInBounds j true).setIfInBounds i true) ((f.set oj.dst u).set oi.dst v) σ' b' := fun u σ' b' h => by
        rw [Array.setIfInBounds_comm _ _ hji]
        exact T_congr hQ _ _ _ _ _ _ (Fr.set_comm f v u a2) h
      have fit' : ∀ u, (f.set oj.dst u).fits oi.dst := fun u e he => by rw [Fr.set_n]; exact hfit e he
      unfold TStep at hs ⊢
      split at hs
      · rename_i hkj
        rw [if_pos hkj]
        have hki2 : kindOf oi.op ≠ 2 := fun q => by rcases hp2 q with q | ⟨q, _⟩ <;> omega
        have q01 : kindOf oi.op = 0 ∨ kindOf oi.op = 1 := by have := kindOf_le oi.op; omega
        obtain ⟨rfl, hp01⟩ := pre_k01 q01 hpre
        refine hs.alike (by rw [Fr.set_n]) alj fun u σ' hp => ?_
        obtain ⟨hh, ht⟩ := hp
        have held : ∀ i', i' ∈ S.holds j → ((listed.setIfInBounds i true).getD i' false = true ∨ i' ∈ Region.ready .any ops (listed.setIfInBounds i true)) → S.R i i' = false → Held1 P ops i' f σ1 σ' := fun i' h1 h2 h3 =>
          (hh i' h1 h2).congr fun o' ho' => by
            rcases fix j i' h1 o' ho' with q | q
            · rw [q] at h3; cases h3
            · exact Alike.set q f v
        have iset : (listed.setIfInBounds i true).getD i false = true := by simp [hsz]
        refine ⟨fun i' h1 h2 => ?_, ?_⟩
        · by_cases hii : i' = i
          · subst hii; exact held i' h1 (.inl iset) (notR i' hr)
          · rcases h2 with h2 | h2
            · refine held i' h1 (.inl (getD_set_true h2)) ?_
              cases hq : S.R i i' with
              | false => rfl
              | true => rw [hun i' hq] at h2; cases h2
            · exact held i' h1 (.inr (ready_mono h2 hii)) (notR i' h2)
        · refine ih _ _ _ _ hun' hpair' hr' v _ ?_ (fit' u) (fun q => absurd q hki2) (back u _ _ ht)
          rw [← pre_congr (ali u)]
          exact pre_held hi hpre (by
            rcases q01 with q | q
            · exact .inl q
            · exact .inr ⟨q, held i (hp3 q hkj) (.inl iset) (notR i hr)⟩) (Inside.pad _ _) _
      · rename_i hkj
        rw [if_neg hkj]
        obtain ⟨u, σ2, h1, h2, h3, h4⟩ := hs
        rw [pre_congr alj] at h1
        have h2' : f.fits oj.dst := fun e he => by have := h2 e he; rwa [Fr.set_n] at this
        by_cases ki2 : kindOf oi.op = 2
        · obtain ⟨hgi, hnm⟩ := hnew ki2
          obtain ⟨e, rfl, hall⟩ := pre_k2 ki2 hgi hpre
          have hlt : b + S.rank i < σ.length := (List.getElem?_eq_some_iff.1 hnm).1
          rcases hp2 ki2 with kj0 | ⟨kj2, hrk⟩
          · obtain ⟨rfl, hj0⟩ := pre_k0 kj0 h1
            refine ⟨u, σ, hj0 _ _, h2', fun q => by omega, ih _ _ _ _ hun' hpair' hr' v _ ?_ (fit' u) hnew (back u _ _ h4)⟩
            rw [← pre_congr (ali u)]
            exact hall σ
          · obtain ⟨hgj, hnj⟩ := h3 kj2
            obtain ⟨e2, rfl, hallj⟩ := pre_k2 kj2 hgj h1
            have hne : b + S.rank j ≠ b + S.rank i := by omega
            rw [Am.H.place_get (Nat.le_of_lt hlt), if_neg hne] at hnj
            have hltj : b + S.rank j < σ.length := (List.getElem?_eq_some_iff.1 hnj).1
            refine ⟨u, _, hallj σ, h2', fun _ => ⟨hgj, hnj⟩, ih _ _ _ _ hun' hpair' hr' v _ ?_ (fit' u) (fun _ => ⟨hgi, ?_⟩) (back u _ _ (by rw [place_comm e e2 hlt hltj (Ne.symm hne)] at h4; exact h4))⟩
            · rw [← pre_congr (ali u)]
              exact hall _
            · rw [Am.H.place_get (Nat.le_of_lt hltj), if_neg (Ne.symm hne)]
              exact hnm
        · have q01 : kindOf oi.op = 0 ∨ kindOf oi.op = 1 := by have := kindOf_le oi.op; omega
          obtain ⟨rfl, hp01⟩ := pre_k01 q01 hpre
          refine ⟨u, σ2, h1, h2', h3, ih _ _ _ _ hun' hpair' hr' v _ ?_ (fit' u) (fun q => absurd q ki2) (back u _ _ h4)⟩
          rw [← pre_congr (ali u)]
          refine hp01 σ2 _ ?_
          by_cases kj2 : kindOf oj.op = 2
          · obtain ⟨hgj, hnj⟩ := h3 kj2
            obtain ⟨e2, rfl, _⟩ := pre_k2 kj2 hgj h1
            exact Inside.place hnj
          · obtain ⟨rfl, _⟩ := pre_k01 (by have := kindOf_le oj.op; omega) h1
            exact Inside.refl σ2

end
end Go.Am
