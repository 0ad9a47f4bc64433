/- Regions that draw their order: one walk, in an order of choice, serves every order. Plain lemmas on single operations. -/
import Derived.Test.YtbnegbjaoiplmaaAmM
set_option linter.unusedVariables false
set_option linter.unusedSimpArgs false
namespace Go.Am
open Go

/-- 0: looks at its operands alone; 1: looks at the heap too; 2: takes a new name; 3: all else. -/
def kindOf : Op → Nat
  | .move _ => 0
  | .assign _ => 0
  | .pick _ _ _ => 0
  | .build _ _ => 0
  | .nilCheck _ => 0
  | .binOp _ _ _ _ _ => 0
  | .unOp _ _ _ => 0
  | .convert _ _ _ => 0
  | .makeFunc _ _ _ => 0
  | .slice _ _ _ _ _ => 0
  | .fieldAddr _ _ _ => 0
  | .field _ _ _ => 0
  | .indexAddr _ _ _ => 0
  | .extract _ _ => 0
  | .load _ _ => 1
  | .alloc _ => 2
  | .box _ _ => 2
  | .buildSlice _ _ _ => 2
  | .makeSlice _ _ _ => 2
  | .call c => match c.callee with
    | .builtin .len => 1
    | .builtin .max => 0
    | .builtin .min => 0
    | _ => 3
  | _ => 3

/-- All names of the one heap hold the same in the other. -/
def Inside (σ σ' : H) : Prop := ∀ (b : Nat) (e : Ent), σ[b]? = some (some e) → σ'[b]? = some (some e)

theorem Inside.refl (σ : H) : Inside σ σ := fun _ _ h => h
theorem Inside.trans {σ σ1 σ2 : H} (h : Inside σ σ1) (k : Inside σ1 σ2) : Inside σ σ2 := fun b e hb => k b e (h b e hb)
theorem Inside.pad (σ : H) (n : Nat) : Inside σ (σ ++ List.replicate n none) := fun b e h => by
  have hlt : b < σ.length := (List.getElem?_eq_some_iff.1 h).1
  rw [List.getElem?_append_left hlt]
  exact h
theorem Inside.place {σ : H} {nm : Nat} {e : Ent} (h : σ[nm]? = some none) : Inside σ (H.place σ nm e) := fun b e' hb => by
  have hlt : nm < σ.length := (List.getElem?_eq_some_iff.1 h).1
  rw [H.place_get (Nat.le_of_lt hlt)]
  split
  · rename_i q; subst q; rw [h] at hb; cases hb
  · exact hb

theorem rowAt_inside {σ σ' : H} (h : Inside σ σ') {b : Nat} {r : List V} (hr : rowAt σ b = some r) : rowAt σ' b = some r := by
  have := h b _ (rowAt_some hr)
  simp [rowAt, this]

theorem aLoad_inside {P : Program} {σ σ' : H} (h : Inside σ σ') {t : TypeId} {x v : V} (hl : aLoad P t σ x = some v) : aLoad P t σ' x = some v := by
  unfold aLoad at hl ⊢
  split at hl
  · rename_i b off
    cases hr : rowAt σ b with
    | none => simp [hr] at hl
    | some r => simp only [rowAt_inside h hr, hr] at hl ⊢; exact hl
  · exact hl
  · cases hl

theorem aLen_inside {P : Program} {σ σ' : H} (h : Inside σ σ') {t : TypeId} {x v : V} (hl : aLen P t σ x = some v) : aLen P t σ' x = some v := by
  unfold aLen at hl ⊢
  split at hl <;> try exact hl
  split at hl
  · rename_i es hq
    simp only [h _ _ hq]
    exact hl
  · cases hl

theorem aop_k0 {P : Program} {op : Op} (h0 : kindOf op = 0) {f : Fr} {σ : H} {nm : Nat} {r : Res} (h : aop P op f σ nm = some r) : ∃ v, r = .val v σ ∧ ∀ σ' nm', aop P op f σ' nm' = some (.val v σ') := by
  cases op <;> simp only [aop] at h <;> try (cases h; done)
  case move => cases h; exact ⟨_, rfl, fun _ _ => rfl⟩
  case assign => cases h; exact ⟨_, rfl, fun _ _ => rfl⟩
  case pick =>
    split at h
    · rename_i hq; cases h; exact ⟨_, rfl, fun _ _ => by simp only [aop, hq]⟩
    · cases h
  case nilCheck =>
    split at h <;> first | (cases h; done) | (rename_i hq; cases h; exact ⟨_, rfl, fun _ _ => by simp only [aop, hq]⟩)
  case makeFunc fn first caps =>
    cases fn <;> simp only at h <;> try (cases h; done)
    split at h
    · rename_i hq; cases h; exact ⟨_, rfl, fun _ _ => by simp only [aop, hq, if_true]⟩
    · cases h
  case slice t x lo hi mx =>
    cases mx with
    | some q => cases h
    | none => obtain ⟨v, h1, rfl⟩ := map_some h; exact ⟨v, rfl, fun _ _ => by simp only [aop, h1, Option.map_some]⟩
  case call c =>
    obtain ⟨callee, xs, ts⟩ := c
    cases callee <;> simp only [kindOf] at h0 h <;> try (cases h; done)
    rename_i b
    cases b <;> simp only at h0 <;> try omega
    case max =>
      unfold aBuiltin at h
      split at h <;> first | (cases h; done) | skip
      case h_3 x y he hq => obtain ⟨v, h1, rfl⟩ := map_some h; exact ⟨v, rfl, fun _ _ => by simp only [aop, aBuiltin, hq, h1, Option.map_some]⟩
      all_goals (rename_i hb _; cases hb)
    case min =>
      unfold aBuiltin at h
      split at h <;> first | (cases h; done) | skip
      case h_4 x y he hq => obtain ⟨v, h1, rfl⟩ := map_some h; exact ⟨v, rfl, fun _ _ => by simp only [aop, aBuiltin, hq, h1, Option.map_some]⟩
      all_goals (rename_i hb _; cases hb)
  all_goals first
    | (simp only [kindOf] at h0; omega)
    | (obtain ⟨v, h1, rfl⟩ := map_some h; exact ⟨v, rfl, fun _ _ => by simp only [aop, h1, Option.map_some]⟩)

theorem aop_k1 {P : Program} {op : Op} (h0 : kindOf op = 1) {f : Fr} {σ : H} {nm : Nat} {r : Res} (h : aop P op f σ nm = some r) : ∃ v, r = .val v σ ∧ ∀ σ' nm', Inside σ σ' → aop P op f σ' nm' = some (.val v σ') := by
  cases op <;> simp only [kindOf] at h0 <;> try omega
  case load t x =>
    simp only [aop] at h
    obtain ⟨v, h1, rfl⟩ := map_some h
    exact ⟨v, rfl, fun σ' _ hi => by simp only [aop, aLoad_inside hi h1, Option.map_some]⟩
  case call c =>
    obtain ⟨callee, xs, ts⟩ := c
    cases callee <;> simp only at h0 <;> try omega
    rename_i b
    cases b <;> simp only at h0 <;> try omega
    simp only [aop] at h
    unfold aBuiltin at h
    split at h <;> first | (cases h; done) | skip
    case h_1 x hb hq =>
      split at h
      · rename_i t ht
        obtain ⟨v, h1, rfl⟩ := map_some h
        exact ⟨v, rfl, fun σ' _ hi => by simp only [aop, aBuiltin, hq, ht, aLen_inside hi h1, Option.map_some]⟩
      · cases h
    all_goals (rename_i hb _; cases hb)

theorem aop_k2 {P : Program} {op : Op} (h0 : kindOf op = 2) {f : Fr} {σ : H} {nm : Nat} {r : Res} (h : aop P op f σ nm = some r) : ∃ v e, r = .val v (H.place σ nm e) ∧ ∀ σ', aop P op f σ' nm = some (.val v (H.place σ' nm e)) := by
  cases op <;> simp only [kindOf] at h0 <;> try omega
  case alloc t =>
    simp only [aop] at h
    obtain ⟨p, h1, rfl⟩ := map_some h
    obtain ⟨z, h2, rfl⟩ := map_some h1
    exact ⟨_, _, rfl, fun σ' => by simp only [aop, aAlloc, h2, Option.map_some]⟩
  case box t x =>
    simp only [aop] at h
    obtain ⟨p, h1, rfl⟩ := map_some h
    obtain ⟨z, h2, rfl⟩ := map_some h1
    exact ⟨_, _, rfl, fun σ' => by simp only [aop, aBox, h2, Option.map_some]⟩
  case buildSlice t len ps =>
    simp only [aop] at h
    obtain ⟨p, h1, rfl⟩ := map_some h
    unfold aBuildSlice at h1
    split at h1 <;> try (cases h1; done)
    rename_i e hu
    split at h1 <;> try (cases h1; done)
    rename_i s z hs hz
    split at h1 <;> try (cases h1; done)
    rename_i hc
    obtain ⟨z, h2, rfl⟩ := map_some h1
    exact ⟨_, _, rfl, fun σ' => by simp only [aop, aBuildSlice, hu, hs, hz, hc, and_self, if_true, h2, Option.map_some]⟩
  case makeSlice t l c =>
    simp only [aop] at h
    obtain ⟨p, h1, rfl⟩ := map_some h
    unfold aMake at h1
    split at h1 <;> try (cases h1; done)
    rename_i e kl l' kc c' hu hl hc
    split at h1 <;> try (cases h1; done)
    rename_i i z hs hz
    split at h1 <;> try (cases h1; done)
    rename_i hcc
    cases h1
    exact ⟨_, _, rfl, fun σ' => by simp only [aop, aMake, hu, hl, hc, hs, hz, hcc, and_self, if_true, Option.map_some]⟩
  case call c =>
    obtain ⟨callee, xs, ts⟩ := c
    cases callee <;> simp only at h0 <;> try omega
    rename_i b
    cases b <;> simp only at h0 <;> omega

theorem aCallee_kind {op : Op} {f : Fr} (h : kindOf op ≠ 3) : aCallee f op = none := by
  cases op <;> try rfl
  rename_i c
  obtain ⟨callee, xs, ts⟩ := c
  cases callee <;> first | rfl | (simp [kindOf] at h)

/-! ### Frames by what they hold -/

def FrEq (f g : Fr) : Prop := f.n = g.n ∧ ∀ t, f.get t = g.get t
theorem FrEq.refl (f : Fr) : FrEq f f := ⟨rfl, fun _ => rfl⟩
theorem FrEq.symm {f g : Fr} (h : FrEq f g) : FrEq g f := ⟨h.1.symm, fun t => (h.2 t).symm⟩
theorem FrEq.trans {f g h : Fr} (a : FrEq f g) (b : FrEq g h) : FrEq f h := ⟨a.1.trans b.1, fun t => (a.2 t).trans (b.2 t)⟩
theorem FrEq.eval {f g : Fr} (h : FrEq f g) (x : Operand) : f.eval x = g.eval x := by
  cases x <;> simp only [Fr.eval, h.2]
theorem FrEq.ok {w : World} {ro : Nat → Prop} {m : Pl} {f g : Fr} {a : Act} (h : FrEq f g) (hf : FrOk w ro m f a) : FrOk w ro m g a :=
  ⟨hf.n.trans h.1, hf.d, fun t => by rw [← h.2]; exact hf.v t⟩

def Fr.set (f : Fr) (d : Option Nat) (v : V) : Fr :=
  match d with
  | none => f
  | some d => { f with m := (d, v) :: f.m }
def Fr.fits (f : Fr) (d : Option Nat) : Prop := ∀ e, d = some e → e < f.n

theorem Fr.put_iff {f f' : Fr} {d : Option Nat} {v : V} : f.put d v = some f' ↔ f.fits d ∧ f' = f.set d v := by
  cases d with
  | none => simp [Fr.put, Fr.set, Fr.fits, eq_comm]
  | some d =>
    simp only [Fr.put, Fr.set, Fr.fits, Option.some.injEq, forall_eq']
    split
    · rename_i h; simp [h, eq_comm]
    · rename_i h; simp [h]

theorem Fr.set_n (f : Fr) (d : Option Nat) (v : V) : (f.set d v).n = f.n := by cases d <;> rfl
theorem Fr.set_get (f : Fr) (d : Option Nat) (v : V) (t : Nat) : (f.set d v).get t = if d = some t then v else f.get t := by
  cases d with
  | none => simp [Fr.set]
  | some d => simp only [Fr.set, Fr.get, look, Option.some.injEq]
theorem Fr.set_comm (f : Fr) {x y : Option Nat} (v u : V) (h : ∀ d, x = some d → y ≠ some d) : FrEq ((f.set x v).set y u) ((f.set y u).set x v) := by
  refine ⟨by simp [Fr.set_n], fun t => ?_⟩
  simp only [Fr.set_get]
  by_cases h1 : x = some t
  · have h2 : y ≠ some t := h t h1
    rw [if_neg h2, if_pos h1, if_pos h1]
  · rw [if_neg h1, if_neg h1]
theorem FrEq.set {f g : Fr} (h : FrEq f g) (d : Option Nat) (v : V) : FrEq (f.set d v) (g.set d v) :=
  ⟨by simp [Fr.set_n, h.1], fun t => by simp only [Fr.set_get, h.2]⟩
theorem FrEq.fits {f g : Fr} (h : FrEq f g) {d : Option Nat} (hf : f.fits d) : g.fits d := fun e he => by rw [← h.1]; exact hf e he

theorem aop_congr {P : Program} {op : Op} {f g : Fr} (h : ∀ x ∈ op.operands, f.eval x = g.eval x) (σ : H) (nm : Nat) : aop P op f σ nm = aop P op g σ nm := by
  have pairs : ∀ ps : Array (Nat × Operand), (∀ x ∈ ps.map (·.2), f.eval x = g.eval x) → (ps.toList.map fun p => (p.1, f.eval p.2)) = ps.toList.map fun p => (p.1, g.eval p.2) := fun ps hp =>
    List.map_congr_left fun p hm => by
      rw [hp p.2 (Array.mem_map.2 ⟨p, by simpa using hm, rfl⟩)]
  cases op <;> simp only [Op.operands] at h <;> simp only [aop]
  case build t ps => rw [pairs ps fun x hx => h x (by simpa using hx)]
  case buildSlice t n ps => rw [pairs ps fun x hx => h x (by simpa using hx)]
  case makeFunc fn first captured =>
    cases fn <;> simp only
    split
    · have : captured.toList.map f.eval = captured.toList.map g.eval := List.map_congr_left fun x hx => h x (by have := Array.mem_toList_iff.1 hx; simp [this])
      rw [this]
    · rfl
  case call c =>
    obtain ⟨callee, xs, ts⟩ := c
    cases callee <;> simp only
    have : xs.toList.map f.eval = xs.toList.map g.eval := List.map_congr_left fun x hx => h x (by have := Array.mem_toList_iff.1 hx; simp [Call.operands, this])
    rw [this]
  case slice t x lo hi mx => cases lo <;> cases hi <;> cases mx <;> simp_all
  all_goals (first | rfl | (simp_all; done))

theorem aCallee_congr {op : Op} {f g : Fr} (h : ∀ x ∈ op.operands, f.eval x = g.eval x) : aCallee f op = aCallee g op := by
  cases op <;> try rfl
  rename_i c
  obtain ⟨callee, xs, ts⟩ := c
  cases callee <;> try rfl
  rename_i y
  simp only [Op.operands] at h
  have : xs.toList.map f.eval = xs.toList.map g.eval := List.map_congr_left fun x hx => h x (by have := Array.mem_toList_iff.1 hx; simp [Call.operands, this])
  simp only [aCallee, this, h y (by simp [Call.operands])]

theorem aWanted_congr {ops : Array Oper} {o : Oper} {f g : Fr} (h : ∀ t, t ∈ o.looksAt ops → f.get t = g.get t) : aWanted ops f o = aWanted ops g o := by
  unfold aWanted
  cases hg : o.guard with
  | none => rfl
  | some jw =>
    obtain ⟨j, want⟩ := jw
    simp only
    cases ht : (ops[j]?).bind (·.dst) with
    | none => rfl
    | some t => simp only; rw [h t (by simp [Oper.looksAt, hg, ht])]

theorem evals_of {ops : Array Oper} {o : Oper} {f g : Fr} (h : ∀ t, t ∈ o.looksAt ops → f.get t = g.get t) : ∀ x ∈ o.op.operands, f.eval x = g.eval x := fun x hx => by
  cases x with
  | tmp t => exact h t (List.mem_append_left _ (List.mem_filterMap.2 ⟨.tmp t, by simpa using hx, rfl⟩))
  | _ => rfl

/-- Two frames hold the same where an operation looks. -/
def Alike (ops : Array Oper) (o : Oper) (f g : Fr) : Prop := ∀ t, t ∈ o.looksAt ops → f.get t = g.get t
theorem FrEq.alike {f g : Fr} (h : FrEq f g) (ops : Array Oper) (o : Oper) : Alike ops o f g := fun t _ => h.2 t
theorem Alike.symm {ops : Array Oper} {o : Oper} {f g : Fr} (h : Alike ops o f g) : Alike ops o g f := fun t ht => (h t ht).symm
theorem Alike.set {ops : Array Oper} {o : Oper} {d : Option Nat} (h : ∀ e, d = some e → e ∉ o.looksAt ops) (f : Fr) (v : V) : Alike ops o (f.set d v) f := fun t ht => by
  rw [Fr.set_get]
  split
  · rename_i q; exact absurd ht (h t q)
  · rfl

theorem AStep.alike {P : Program} {ops : Array Oper} {o : Oper} {f g : Fr} (hn : f.n = g.n) (ha : Alike ops o f g) {σ : H} {K K' : Fr → H → Prop} {X : V → H → Prop} (hk : ∀ v σ', K (f.set o.dst v) σ' → K' (g.set o.dst v) σ') (h : AStep P ops o f σ K X) : AStep P ops o g σ K' X := by
  have e1 := aWanted_congr ha
  have e2 := aCallee_congr (evals_of ha)
  have e3 := aop_congr (P := P) (evals_of ha) σ σ.length
  have put : ∀ (v : V) (σ' : H), (∃ f', f.put o.dst v = some f' ∧ K f' σ') → ∃ f', g.put o.dst v = some f' ∧ K' f' σ' := fun v σ' ⟨f', h1, h2⟩ => by
    obtain ⟨h3, rfl⟩ := Fr.put_iff.1 h1
    exact ⟨_, Fr.put_iff.2 ⟨fun e he => by rw [← hn]; exact h3 e he, rfl⟩, hk v σ' h2⟩
  unfold AStep at h ⊢
  rw [← e1, ← e2, ← e3]
  split at h
  · exact h.elim
  · exact put _ _ h
  · split at h
    · refine ⟨h.1, h.2.mono fun out σ' hp => ?_⟩
      cases out with
      | ret v => exact put _ _ hp
      | pan v => exact hp
    · split at h
      · exact put _ _ h
      · exact put _ _ h
      · exact h.elim

/-- What an operation that makes no call gives. -/
def pre (P : Program) (ops : Array Oper) (o : Oper) (f : Fr) (σ : H) (nm : Nat) : Option (V × H) :=
  match aWanted ops f o with
  | none => none
  | some false => some (.tup [], σ)
  | some true => match aop P o.op f σ nm with
    | some (.val v σ') => some (v, σ')
    | _ => none

theorem pre_congr {P : Program} {ops : Array Oper} {o : Oper} {f g : Fr} (h : Alike ops o f g) (σ : H) (nm : Nat) : pre P ops o f σ nm = pre P ops o g σ nm := by
  unfold pre
  rw [aWanted_congr h, aop_congr (evals_of h)]

theorem pre_k01 {P : Program} {ops : Array Oper} {o : Oper} (h0 : kindOf o.op = 0 ∨ kindOf o.op = 1) {f : Fr} {σ σ1 : H} {nm : Nat} {v : V} (h : pre P ops o f σ nm = some (v, σ1)) : σ1 = σ ∧ ∀ σ' nm', Inside σ σ' → pre P ops o f σ' nm' = some (v, σ') := by
  unfold pre at h
  split at h
  · cases h
  · rename_i hw; cases h; exact ⟨rfl, fun σ' nm' _ => by simp only [pre, hw]⟩
  · rename_i hw
    split at h
    · rename_i v' s' hr
      cases h
      rcases h0 with h0 | h0
      · obtain ⟨u, e1, e2⟩ := aop_k0 h0 hr
        cases e1
        exact ⟨rfl, fun σ' nm' _ => by simp only [pre, hw, e2 σ' nm']⟩
      · obtain ⟨u, e1, e2⟩ := aop_k1 h0 hr
        cases e1
        exact ⟨rfl, fun σ' nm' hi => by simp only [pre, hw, e2 σ' nm' hi]⟩
    · cases h

theorem pre_k0 {P : Program} {ops : Array Oper} {o : Oper} (h0 : kindOf o.op = 0) {f : Fr} {σ σ1 : H} {nm : Nat} {v : V} (h : pre P ops o f σ nm = some (v, σ1)) : σ1 = σ ∧ ∀ σ' nm', pre P ops o f σ' nm' = some (v, σ') := by
  unfold pre at h
  split at h
  · cases h
  · rename_i hw; cases h; exact ⟨rfl, fun σ' nm' => by simp only [pre, hw]⟩
  · rename_i hw
    split at h
    · rename_i v' s' hr
      cases h
      obtain ⟨u, e1, e2⟩ := aop_k0 h0 hr
      cases e1
      exact ⟨rfl, fun σ' nm' => by simp only [pre, hw, e2 σ' nm']⟩
    · cases h

theorem pre_k2 {P : Program} {ops : Array Oper} {o : Oper} (h0 : kindOf o.op = 2) (hg : o.guard = none) {f : Fr} {σ σ1 : H} {nm : Nat} {v : V} (h : pre P ops o f σ nm = some (v, σ1)) : ∃ e, σ1 = H.place σ nm e ∧ ∀ σ', pre P ops o f σ' nm = some (v, H.place σ' nm e) := by
  have hw : aWanted ops f o = some true := by unfold aWanted; rw [hg]
  unfold pre at h
  rw [hw] at h
  simp only at h
  split at h
  · rename_i v' s' hr
    cases h
    obtain ⟨u, e, e1, e2⟩ := aop_k2 h0 hr
    cases e1
    exact ⟨e, rfl, fun σ' => by simp only [pre, hw, e2 σ']⟩
  · cases h

theorem place_comm {σ : H} {a b : Nat} (x y : Ent) (ha : a < σ.length) (hb : b < σ.length) (h : a ≠ b) : H.place (H.place σ a x) b y = H.place (H.place σ b y) a x := by
  unfold H.place
  rw [if_pos ha, if_pos hb, if_pos (by simpa using hb), if_pos (by simpa using ha)]
  exact List.set_comm _ _ h

end Go.Am
