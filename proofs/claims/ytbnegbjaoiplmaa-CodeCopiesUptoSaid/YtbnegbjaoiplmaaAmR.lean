/- Code by rewriting: what a piece of code asks, unfolded piece by piece. -/
import Derived.Test.YtbnegbjaoiplmaaAmPt
set_option linter.unusedVariables false
set_option linter.unusedSimpArgs false
namespace Go.Am
open Go

def planOf : List (Nat × Plan) → Nat → Option Plan
  | [], _ => none
  | (k, p) :: r, id => if k = id then some p else planOf r id

/-- Every region that draws its order has its plan. -/
def planned (pl : List (Nat × Plan)) : Code → Bool
  | .region id ops d => !d || (match planOf pl id with | some p => p.ok ops | none => true)
  | .seq a b => planned pl a && planned pl b
  | .cond _ a b => planned pl a && planned pl b
  | .block _ c => planned pl c
  | .loop c => planned pl c
  | _ => true

/-- What stands for frame and heap may be told otherwise: whatever the one stands for, the other does too, with names and what is read only told anew; the first k names stay. -/
def Weak (k : Nat) (f : Fr) (σ : H) (f' : Fr) (σ' : H) : Prop :=
  ∀ w ro m a, FrOk w ro m f a → HeapOk w ro m σ → k ≤ σ.length → ∃ ro' m', FrOk w ro' m' f' a ∧ HeapOk w ro' m' σ' ∧ Ext w ro m w ro' m' ∧ (∀ b, b < k → m' b = m b) ∧ k ≤ σ'.length

theorem Weak.refl (k : Nat) (f : Fr) (σ : H) : Weak k f σ f σ := fun w ro m a hf hσ hk => ⟨ro, m, hf, hσ, Ext.refl w ro m, fun _ _ => rfl, hk⟩

theorem Weak.trans {k : Nat} {f f1 f2 : Fr} {σ σ1 σ2 : H} (h : Weak k f σ f1 σ1) (g : Weak k f1 σ1 f2 σ2) : Weak k f σ f2 σ2 := fun w ro m a hf hσ hk => by
  obtain ⟨ro1, m1, h1, h2, h3, h4, h5⟩ := h w ro m a hf hσ hk
  obtain ⟨ro2, m2, g1, g2, g3, g4, g5⟩ := g w ro1 m1 a h1 h2 h5
  exact ⟨ro2, m2, g1, g2, h3.trans g3, fun b hb => (g4 b hb).trans (h4 b hb), g5⟩

theorem Rcode.weak {P : Program} {k : Nat} {c : Code} {f f' : Fr} {σ σ' : H} {Q : Ex → Fr → H → Prop} (hw : Weak k f σ f' σ') (h : Rcode P k c f' σ' Q) : Rcode P k c f σ Q := fun w ro m a hf hσ hk => by
  obtain ⟨ro1, m1, h1, h2, h3, h4, h5⟩ := hw w ro m a hf hσ hk
  exact wp_mono (h w ro1 m1 a h1 h2 h5) fun e a w hp => hp.step h3 h4

open Classical in
theorem Rcode.loopW {P : Program} {k : Nat} {c : Code} {f : Fr} {σ : H} {Q : Ex → Fr → H → Prop} (I : Nat → Fr → H → Prop) {n : Nat} (h0 : I n f σ)
    (h : ∀ n f σ, I n f σ → Rcode P k c f σ (fun e f σ => match e with | .normal => ∃ n', n' < n ∧ ∃ f' σ', Weak k f σ f' σ' ∧ I n' f' σ' | e => Q e f σ)) : Rcode P k (.loop c) f σ Q := by
  refine Rcode.loop (fun n f σ => ∃ f' σ', Weak k f σ f' σ' ∧ I n f' σ') ⟨f, σ, Weak.refl k f σ, h0⟩ fun n f σ hi => ?_
  obtain ⟨f', σ', hw, hi⟩ := hi
  refine Rcode.weak hw ((h n f' σ' hi).mono fun e f σ hq => ?_)
  cases e <;> exact hq

/-- The names that stay, and the plans. -/
structure Pln where
  k : Nat
  l : List (Nat × Plan)

/-- Behind a round of a loop; frame and heap may be told otherwise there. -/
def RndW (k : Nat) (I : Nat → Fr → H → Prop) (n : Nat) (Q : Ex → Fr → H → Prop) : Ex → Fr → H → Prop
  | .normal, f, σ => ∃ n', n' < n ∧ ∃ f' σ', Weak k f σ f' σ' ∧ I n' f' σ'
  | e, f, σ => Q e f σ

/-- What a piece of code asks of frame and heap. -/
def W (P : Program) (pl : Pln) : Code → Fr → H → (Ex → Fr → H → Prop) → Prop
  | .skip, f, σ, Q => Q .normal f σ
  | .ret, f, σ, Q => Q .ret f σ
  | .exit id, f, σ, Q => Q (.exit id) f σ
  | .region id ops d, f, σ, Q => if d then (match planOf pl.l id with | some p => AP P ops.toList p.hs (Q .normal) p.ord f σ | none => Rcode P pl.k (.region id ops true) f σ Q) else AL P ops Q ops.toList f σ
  | .seq a b, f, σ, Q => W P pl a f σ fun e f σ => match e with
    | .normal => W P pl b f σ Q
    | e => Q e f σ
  | .cond c a b, f, σ, Q => ∃ t, f.eval c = .bool t ∧ (t = true → W P pl a f σ Q) ∧ (t = false → W P pl b f σ Q)
  | .block id c, f, σ, Q => W P pl c f σ (Blk id Q)
  | .loop c, f, σ, Q => ∃ (I : Nat → Fr → H → Prop) (n : Nat) (f0 : Fr) (σ0 : H), Weak pl.k f σ f0 σ0 ∧ I n f0 σ0 ∧ ∀ n f σ, I n f σ → W P pl c f σ (RndW pl.k I n Q)
  | _, _, _, _ => False

theorem W_ok {P : Program} {pl : Pln} (hm : P.follows .mixedOrders = true) : ∀ (c : Code) (f : Fr) (σ : H) (Q : Ex → Fr → H → Prop), planned pl.l c = true → W P pl c f σ Q → Rcode P pl.k c f σ Q
  | .skip, f, σ, Q, _, h => .skip h
  | .ret, f, σ, Q, _, h => .ret h
  | .exit id, f, σ, Q, _, h => .exit h
  | .region id ops d, f, σ, Q, hp, h => by
    simp only [W] at h
    cases d with
    | false =>
      simp only [Bool.false_eq_true, if_false] at h
      obtain ⟨l⟩ := ops
      exact Rcode.reg h
    | true =>
      simp only [if_true] at h
      cases h1 : planOf pl.l id with
      | none => rw [h1] at h; exact h
      | some p =>
        rw [h1] at h
        simp only [planned, h1, Bool.not_true, Bool.false_or] at hp
        obtain ⟨l⟩ := ops
        exact Rcode.draw hm p hp h
  | .seq a b, f, σ, Q, hp, h => by
    simp only [W] at h
    simp only [planned, Bool.and_eq_true] at hp
    refine .seq ((W_ok hm a f σ _ hp.1 h).mono fun e f σ hq => ?_)
    cases e with
    | normal => exact W_ok hm b f σ Q hp.2 hq
    | _ => exact hq
  | .cond c a b, f, σ, Q, hp, h => by
    simp only [W] at h
    simp only [planned, Bool.and_eq_true] at hp
    obtain ⟨t, h1, h2, h3⟩ := h
    refine .cond h1 ?_
    cases t with
    | true => exact W_ok hm a f σ Q hp.1 (h2 rfl)
    | false => exact W_ok hm b f σ Q hp.2 (h3 rfl)
  | .block id c, f, σ, Q, hp, h => .block (W_ok hm c f σ _ hp h)
  | .loop c, f, σ, Q, hp, h => by
    simp only [W] at h
    obtain ⟨I, n, f0, σ0, h0, h1, h2⟩ := h
    exact .weak h0 (.loopW I h1 fun n f σ hi => (W_ok hm c f σ _ hp (h2 n f σ hi)).mono fun e f σ hq => by cases e <;> exact hq)

theorem W.mono {P : Program} {pl : Pln} {Q Q' : Ex → Fr → H → Prop} (hq : ∀ e f σ, Q e f σ → Q' e f σ) : ∀ {c : Code} {f : Fr} {σ : H}, W P pl c f σ Q → W P pl c f σ Q' := by
  intro c
  have AL_mono : ∀ {Q Q' : Ex → Fr → H → Prop} (hq : ∀ e f σ, Q e f σ → Q' e f σ) (ops : Array Oper) (l : List Oper) (f : Fr) (σ : H), AL P ops Q l f σ → AL P ops Q' l f σ := by
    intro Q Q' hq ops l
    induction l with
    | nil => exact fun f σ h => hq _ _ _ h
    | cons o l ih => exact fun f σ h => AStepQ.mono (fun f σ h => ih f σ h) (fun v σ h => hq _ _ _ h) h
  have AP_mono : ∀ {Q Q' : Fr → H → Prop} (hq : ∀ f σ, Q f σ → Q' f σ) (l : List Oper) (hs : List (List Nat)) (r : List Nat) (f : Fr) (σ : H), AP P l hs Q r f σ → AP P l hs Q' r f σ := by
    intro Q Q' hq l hs r
    induction r with
    | nil => exact fun f σ h => hq _ _ h
    | cons i r ih =>
      intro f σ h
      unfold AP at h ⊢
      split at h
      · exact AStep.mono (fun f σ h => ⟨h.1, ih f σ h.2⟩) (fun v σ h => h) h
      · exact h
  induction c generalizing Q Q' with
  | skip => intro f σ h; exact hq _ _ _ h
  | ret => intro f σ h; exact hq _ _ _ h
  | exit id => intro f σ h; exact hq _ _ _ h
  | region id ops d =>
    intro f σ h
    simp only [W] at h ⊢
    split at h
    · rename_i hd
      rw [if_pos hd]
      cases h1 : planOf pl.l id with
      | none => simp only [h1] at h ⊢; exact h.mono hq
      | some p => simp only [h1] at h ⊢; exact AP_mono (fun f σ => hq _ f σ) _ _ _ _ _ h
    · rename_i hd
      rw [if_neg hd]
      exact AL_mono hq _ _ _ _ h
  | seq a b iha ihb =>
    intro f σ h
    simp only [W] at h ⊢
    refine iha (fun e f σ h => ?_) h
    cases e with
    | normal => exact ihb hq h
    | _ => exact hq _ _ _ h
  | cond c a b iha ihb =>
    intro f σ h
    simp only [W] at h ⊢
    obtain ⟨t, h1, h2, h3⟩ := h
    exact ⟨t, h1, fun q => iha hq (h2 q), fun q => ihb hq (h3 q)⟩
  | block id c ih =>
    intro f σ h
    simp only [W] at h ⊢
    refine ih (fun e f σ h => ?_) h
    cases e with
    | exit id' =>
      simp only [Blk] at h ⊢
      split at h
      · rename_i q; rw [if_pos q]; exact hq _ _ _ h
      · rename_i q; rw [if_neg q]; exact hq _ _ _ h
    | _ => exact hq _ _ _ h
  | loop c ih =>
    intro f σ h
    simp only [W] at h ⊢
    obtain ⟨I, n, f0, σ0, h0, h1, h2⟩ := h
    refine ⟨I, n, f0, σ0, h0, h1, fun n f σ hi => ih (fun e f σ h => ?_) (h2 n f σ hi)⟩
    cases e with
    | normal => exact h
    | _ => exact hq _ _ _ h
  | _ => intro f σ h; simp only [W] at h

/-- What holds where a function's body ends. -/
def End (P : Program) (rs : List ResultVar) (Q : Out → H → Prop) : Ex → Fr → H → Prop := fun e f σ => match e with
  | .exit _ => False
  | .pan v => Q (.pan v) σ
  | _ => ∃ v, aResults P rs f σ = some v ∧ Q (.ret v) σ

theorem Spec.introW {P : Program} (hm : P.follows .mixedOrders = true) {g : FuncId} {fn : Func} {c : Code} {args : List V} {σ : H} {Q : Out → H → Prop} (pl : List (Nat × Plan)) (hf : P.funcs[g]? = some fn) (hb : fn.body = some c) (hp : planned pl c = true) (nt : Nat) (hnt : fn.ntmps = nt) (rs : List ResultVar) (hrs : fn.results.toList = rs) (hn : args.length ≤ nt)
    (h : W P ⟨σ.length, pl⟩ c (Fr.init nt args) σ (End P rs Q)) : Spec P g args σ Q := by
  subst hnt hrs
  refine Spec.intro hf hb hn ((W_ok (pl := ⟨σ.length, pl⟩) hm c _ σ _ hp h).mono fun e f σ hq => ?_)
  cases e <;> exact hq

section rules
variable {P : Program} {pl : Pln} {f f' : Fr} {σ σ' : H} {Q : Ex → Fr → H → Prop}

def Seq (P : Program) (pl : Pln) (b : Code) (Q : Ex → Fr → H → Prop) : Ex → Fr → H → Prop := fun e f σ => match e with
  | .normal => W P pl b f σ Q
  | e => Q e f σ

theorem W.shut (P : Program) (pl : Pln) (c : Code) (Q : Ex → Fr → H → Prop) (hf : f = f') (hσ : σ = σ') : W P pl c f σ Q = W P pl c f' σ' Q := by rw [hf, hσ]
theorem Seq.shut (P : Program) (pl : Pln) (b : Code) (Q : Ex → Fr → H → Prop) : Seq P pl b Q = Seq P pl b Q := rfl
theorem Blk.shut (id : Nat) (Q : Ex → Fr → H → Prop) : Blk id Q = Blk id Q := rfl
theorem AL.shut (P : Program) (ops : Array Oper) (Q : Ex → Fr → H → Prop) (l : List Oper) (hf : f = f') (hσ : σ = σ') : AL P ops Q l f σ = AL P ops Q l f' σ' := by rw [hf, hσ]
theorem AP.shut (P : Program) (l : List Oper) (hs : List (List Nat)) (Q : Fr → H → Prop) (r : List Nat) (hf : f = f') (hσ : σ = σ') : AP P l hs Q r f σ = AP P l hs Q r f' σ' := by rw [hf, hσ]
theorem AStep.shut (P : Program) (ops : Array Oper) (o : Oper) (K : Fr → H → Prop) (X : V → H → Prop) (hf : f = f') (hσ : σ = σ') : AStep P ops o f σ K X = AStep P ops o f' σ' K X := by rw [hf, hσ]

theorem W_skip : W P pl .skip f σ Q ↔ Q .normal f σ := .rfl
theorem W_ret : W P pl .ret f σ Q ↔ Q .ret f σ := .rfl
theorem W_exit {id : Nat} : W P pl (.exit id) f σ Q ↔ Q (.exit id) f σ := .rfl
theorem W_seq {a b : Code} : W P pl (.seq a b) f σ Q ↔ W P pl a f σ (Seq P pl b Q) := .rfl
theorem W_cond {c : Operand} {a b : Code} : W P pl (.cond c a b) f σ Q ↔ ∃ t, f.eval c = .bool t ∧ (t = true → W P pl a f σ Q) ∧ (t = false → W P pl b f σ Q) := .rfl
theorem W_block {id : Nat} {c : Code} : W P pl (.block id c) f σ Q ↔ W P pl c f σ (Blk id Q) := .rfl
theorem W_region {id : Nat} {l : List Oper} : W P pl (.region id l.toArray false) f σ Q ↔ AL P l.toArray Q l f σ := by simp only [W, Bool.false_eq_true, if_false]
theorem W_draw {id : Nat} {l : List Oper} : W P pl (.region id l.toArray true) f σ Q ↔ match planOf pl.l id with | some p => AP P l p.hs (Q .normal) p.ord f σ | none => Rcode P pl.k (.region id l.toArray true) f σ Q := by simp only [W, if_true]
theorem W_loopW {c : Code} (I : Nat → Fr → H → Prop) (n : Nat) (h : ∃ f0 σ0, Weak pl.k f σ f0 σ0 ∧ I n f0 σ0) (hs : ∀ n f σ, I n f σ → W P pl c f σ (RndW pl.k I n Q)) : W P pl (.loop c) f σ Q := by
  obtain ⟨f0, σ0, h0, h1⟩ := h
  exact ⟨I, n, f0, σ0, h0, h1, hs⟩
theorem W_loop {c : Code} (I : Nat → Fr → H → Prop) (n : Nat) (h : I n f σ) (hs : ∀ n f σ, I n f σ → W P pl c f σ (Rnd I n Q)) : W P pl (.loop c) f σ Q :=
  ⟨I, n, f, σ, Weak.refl _ _ _, h, fun n f σ hi => (hs n f σ hi).mono fun e f σ hq => by
    cases e with
    | normal =>
      obtain ⟨n', h1, h2⟩ := hq
      exact ⟨n', h1, f, σ, Weak.refl _ _ _, h2⟩
    | _ => exact hq⟩
theorem RndW_normal {k : Nat} {I : Nat → Fr → H → Prop} {n : Nat} : RndW k I n Q .normal f σ ↔ ∃ n', n' < n ∧ ∃ f' σ', Weak k f σ f' σ' ∧ I n' f' σ' := .rfl
theorem RndW_ret {k : Nat} {I : Nat → Fr → H → Prop} {n : Nat} : RndW k I n Q .ret f σ ↔ Q .ret f σ := .rfl
theorem RndW_exit {k : Nat} {I : Nat → Fr → H → Prop} {n id : Nat} : RndW k I n Q (.exit id) f σ ↔ Q (.exit id) f σ := .rfl
theorem RndW_pan {k : Nat} {I : Nat → Fr → H → Prop} {n : Nat} {v : V} : RndW k I n Q (.pan v) f σ ↔ Q (.pan v) f σ := .rfl
theorem Seq_normal {b : Code} : Seq P pl b Q .normal f σ ↔ W P pl b f σ Q := .rfl
theorem Seq_ret {b : Code} : Seq P pl b Q .ret f σ ↔ Q .ret f σ := .rfl
theorem Seq_exit {b : Code} {id : Nat} : Seq P pl b Q (.exit id) f σ ↔ Q (.exit id) f σ := .rfl
theorem Seq_pan {b : Code} {v : V} : Seq P pl b Q (.pan v) f σ ↔ Q (.pan v) f σ := .rfl
theorem Blk_normal {id : Nat} : Blk id Q .normal f σ ↔ Q .normal f σ := .rfl
theorem Blk_ret {id : Nat} : Blk id Q .ret f σ ↔ Q .ret f σ := .rfl
theorem Blk_exit {id id' : Nat} : Blk id Q (.exit id') f σ ↔ if id' = id then Q .normal f σ else Q (.exit id') f σ := .rfl
theorem Blk_pan {id : Nat} {v : V} : Blk id Q (.pan v) f σ ↔ Q (.pan v) f σ := .rfl
theorem Rnd_normal {I : Nat → Fr → H → Prop} {n : Nat} : Rnd I n Q .normal f σ ↔ ∃ n', n' < n ∧ I n' f σ := .rfl
theorem Rnd_ret {I : Nat → Fr → H → Prop} {n : Nat} : Rnd I n Q .ret f σ ↔ Q .ret f σ := .rfl
theorem Rnd_exit {I : Nat → Fr → H → Prop} {n id : Nat} : Rnd I n Q (.exit id) f σ ↔ Q (.exit id) f σ := .rfl
theorem Rnd_pan {I : Nat → Fr → H → Prop} {n : Nat} {v : V} : Rnd I n Q (.pan v) f σ ↔ Q (.pan v) f σ := .rfl

theorem End.shut (P : Program) (rs : List ResultVar) (Q : Out → H → Prop) : End P rs Q = End P rs Q := rfl
theorem End_normal {rs : List ResultVar} {Q : Out → H → Prop} : End P rs Q .normal f σ ↔ ∃ v, aResults P rs f σ = some v ∧ Q (.ret v) σ := .rfl
theorem End_ret {rs : List ResultVar} {Q : Out → H → Prop} : End P rs Q .ret f σ ↔ ∃ v, aResults P rs f σ = some v ∧ Q (.ret v) σ := .rfl
theorem End_pan {rs : List ResultVar} {Q : Out → H → Prop} {v : V} : End P rs Q (.pan v) f σ ↔ Q (.pan v) σ := .rfl
theorem aResults_tmp {t : Nat} : aResults P [.tmp t] f σ = some (f.get t) := rfl
theorem aResults_cell {t : Nat} {ty : TypeId} : aResults P [.cell t ty] f σ = aLoad P ty σ (f.get t) := rfl
theorem aResults_nil : aResults P [] f σ = some (.tup []) := rfl
theorem aResults_tmp2 {t u : Nat} : aResults P [.tmp t, .tmp u] f σ = some (.tup [f.get t, f.get u]) := rfl
theorem aResults_tmp3 {t u x : Nat} : aResults P [.tmp t, .tmp u, .tmp x] f σ = some (.tup [f.get t, f.get u, f.get x]) := rfl

theorem AP_nil {l : List Oper} {hs : List (List Nat)} {Q : Fr → H → Prop} : AP P l hs Q [] f σ ↔ Q f σ := .rfl
theorem AP_cons {l : List Oper} {hs : List (List Nat)} {Q : Fr → H → Prop} {i : Nat} {rest : List Nat} {o : Oper} (h : l[i]? = some o) : AP P l hs Q (i :: rest) f σ ↔ AStep P l.toArray o f σ (fun f' σ' => HeldL P l f σ σ' (hs.getD i []) ∧ AP P l hs Q rest f' σ') fun _ _ => False := by
  simp only [AP, h]

/-- Ahead of a piece of code: it may be gone through up to a place of choice. -/
theorem W_cut {a b : Code} (R : Fr → H → Prop) (h : W P pl a f σ fun e f σ => match e with | .normal => R f σ | e => Q e f σ) (hb : ∀ f σ, R f σ → W P pl b f σ Q) : W P pl (.seq a b) f σ Q :=
  W_seq.2 <| W.mono (Q := fun e f σ => match e with | .normal => R f σ | e => Q e f σ) (fun e f σ hq => by cases e <;> first | exact hb _ _ hq | exact hq) h

end rules

end Go.Am
