/- Going through a region's operations by rewriting: a law for each kind of operation. -/
import Derived.Test.YtbnegbjaoiplmaaAmL
set_option linter.unusedVariables false
set_option linter.unusedSimpArgs false
namespace Go.Am
open Go

theorem Thn.shut (P : Program) (k : Nat) (y : Code) (Q : Ex → Fr → H → Prop) : Thn P k y Q = Thn P k y Q := rfl
theorem Thn_normal {P : Program} {k : Nat} {y : Code} {Q : Ex → Fr → H → Prop} {f : Fr} {σ : H} : Thn P k y Q .normal f σ ↔ Rcode P k y f σ Q := .rfl

/-- One operation: what is done, and what then holds. -/
def AStep (P : Program) (ops : Array Oper) (o : Oper) (f : Fr) (σ : H) (K : Fr → H → Prop) (X : V → H → Prop) : Prop :=
  match aWanted ops f o with
  | none => False
  | some false => ∃ f', f.put o.dst (.tup []) = some f' ∧ K f' σ
  | some true =>
    match aCallee f o.op with
    | some (g, args) => callB P g = true ∧ Spec P g args σ fun out σ' =>
        match out with
        | .ret v => ∃ f', f.put o.dst v = some f' ∧ K f' σ'
        | .pan v => X v σ'
    | none =>
      match aop P o.op f σ σ.length with
      | some (.val v σ') => ∃ f', f.put o.dst v = some f' ∧ K f' σ'
      | some (.skip σ') => ∃ f', f.put o.dst (.tup []) = some f' ∧ K f' σ'
      | none => False

theorem AStep.mono {P : Program} {ops : Array Oper} {o : Oper} {f : Fr} {σ : H} {K K' : Fr → H → Prop} {X X' : V → H → Prop} (hk : ∀ f σ, K f σ → K' f σ) (hx : ∀ v σ, X v σ → X' v σ) (h : AStep P ops o f σ K X) : AStep P ops o f σ K' X' := by
  unfold AStep at h ⊢
  split at h
  · exact h.elim
  · obtain ⟨f', h1, h2⟩ := h; exact ⟨f', h1, hk _ _ h2⟩
  · split at h
    · refine ⟨h.1, h.2.mono fun out σ' hp => ?_⟩
      cases out with
      | ret v => obtain ⟨f', h1, h2⟩ := hp; exact ⟨f', h1, hk _ _ h2⟩
      | pan v => exact hx _ _ hp
    · split at h
      · obtain ⟨f', h1, h2⟩ := h; exact ⟨f', h1, hk _ _ h2⟩
      · obtain ⟨f', h1, h2⟩ := h; exact ⟨f', h1, hk _ _ h2⟩
      · exact h.elim

/-- One operation of a region that draws nothing. -/
def AStepQ (P : Program) (ops : Array Oper) (o : Oper) (f : Fr) (σ : H) (K : Fr → H → Prop) (X : V → H → Prop) : Prop :=
  if nilQ P f o then ∀ b, ∃ f', f.put o.dst (.bool b) = some f' ∧ K f' σ else AStep P ops o f σ K X

theorem AStepQ.mono {P : Program} {ops : Array Oper} {o : Oper} {f : Fr} {σ : H} {K K' : Fr → H → Prop} {X X' : V → H → Prop} (hk : ∀ f σ, K f σ → K' f σ) (hx : ∀ v σ, X v σ → X' v σ) (h : AStepQ P ops o f σ K X) : AStepQ P ops o f σ K' X' := by
  unfold AStepQ at h ⊢
  split at h
  · rename_i q; rw [if_pos q]; exact fun b => let ⟨f', h1, h2⟩ := h b; ⟨f', h1, hk _ _ h2⟩
  · rename_i q; rw [if_neg q]; exact h.mono hk hx

theorem AStep.toQ {P : Program} {ops : Array Oper} {o : Oper} {f : Fr} {σ : H} {K : Fr → H → Prop} {X : V → H → Prop} (h : AStep P ops o f σ K X) : AStepQ P ops o f σ K X := by
  unfold AStepQ
  split
  · rename_i hq
    exfalso
    obtain ⟨dst, op, type, pos, after, guard⟩ := o
    unfold nilQ at hq
    simp only at hq
    split at hq
    · split at hq
      · rename_i hx hy
        unfold AStep at h
        simp only [aWanted, aCallee, aop, aBin, hx, hy, pairB, Bool.false_eq_true, if_false, Option.map_none] at h
      · cases hq
    · cases hq
  · exact h

/-- The operations of a list themselves. -/
def AL (P : Program) (ops : Array Oper) (Q : Ex → Fr → H → Prop) : List Oper → Fr → H → Prop
  | [], f, σ => Q .normal f σ
  | o :: rest, f, σ => AStepQ P ops o f σ (AL P ops Q rest) fun v σ => Q (.pan v) f σ

theorem AL_nil {P : Program} {ops : Array Oper} {Q : Ex → Fr → H → Prop} {f : Fr} {σ : H} : AL P ops Q [] f σ ↔ Q .normal f σ := .rfl
theorem AL_cons {P : Program} {ops : Array Oper} {Q : Ex → Fr → H → Prop} {o : Oper} {rest : List Oper} {f : Fr} {σ : H} : AL P ops Q (o :: rest) f σ ↔ AStepQ P ops o f σ (AL P ops Q rest) fun v σ => Q (.pan v) f σ := .rfl

theorem AL_ops {P : Program} {ops : Array Oper} {Q : Ex → Fr → H → Prop} : ∀ (l : List Oper) (k : Nat) (f : Fr) (σ : H), (∀ j, l[j]? = ops[k + j]?) → AL P ops Q l f σ → Aops P ops Q (List.range' k l.length) f σ
  | [], k, f, σ, _, h => h
  | o :: l, k, f, σ, hl, h => by
    have h0 : ops[k]? = some o := by have := hl 0; simpa using this.symm
    have ih := fun f σ => AL_ops (P := P) (Q := Q) l (k + 1) f σ (fun j => by have := hl (j + 1); rw [List.getElem?_cons_succ] at this; rw [this]; congr 1; omega)
    simp only [List.length_cons, List.range'_succ, Aops, h0]
    unfold AL at h
    have h := h.mono (K' := Aops P ops Q (List.range' (k + 1) l.length)) (fun f σ => ih f σ) (fun _ _ h => h)
    unfold AStepQ AStep at h
    exact h

theorem Rcode.reg {P : Program} {k : Nat} {id : Nat} {l : List Oper} {f : Fr} {σ : H} {Q : Ex → Fr → H → Prop} (h : AL P l.toArray Q l f σ) : Rcode P k (.region id l.toArray false) f σ Q :=
  Rcode.region (by have := AL_ops l 0 f σ (by simp) h; rw [List.range_eq_range']; simpa using this)

section laws
variable {P : Program} {ops : Array Oper} {K : Fr → H → Prop} {X : V → H → Prop} {n d ty : Nat} {m : List (Nat × V)} {σ : H} {pos : String} {after : Array Edge}

theorem put_some (v : V) : (∃ f', (⟨n, m⟩ : Fr).put (some d) v = some f' ∧ K f' σ) ↔ d < n ∧ K ⟨n, (d, v) :: m⟩ σ := by
  simp only [Fr.put]
  split
  · rename_i h; simp [h]
  · rename_i h; simp [h]

theorem put_none (v : V) : (∃ f', (⟨n, m⟩ : Fr).put none v = some f' ∧ K f' σ) ↔ K ⟨n, m⟩ σ := by simp [Fr.put]

theorem AL_val {op : Op} (hc : aCallee ⟨n, m⟩ op = none) {v : V} {σ' : H} (h : aop P op ⟨n, m⟩ σ σ.length = some (.val v σ')) :
    AStep P ops ⟨some d, op, ty, pos, after, none⟩ ⟨n, m⟩ σ K X ↔ d < n ∧ K ⟨n, (d, v) :: m⟩ σ' := by
  rw [AStep]; simp only [aWanted, hc, h]; exact put_some v

theorem AL_valN {op : Op} (hc : aCallee ⟨n, m⟩ op = none) {v : V} {σ' : H} (h : aop P op ⟨n, m⟩ σ σ.length = some (.val v σ')) :
    AStep P ops ⟨none, op, ty, pos, after, none⟩ ⟨n, m⟩ σ K X ↔ K ⟨n, m⟩ σ' := by
  rw [AStep]; simp only [aWanted, hc, h]; exact put_none v

theorem AL_skip {op : Op} (hc : aCallee ⟨n, m⟩ op = none) {σ' : H} (h : aop P op ⟨n, m⟩ σ σ.length = some (.skip σ')) :
    AStep P ops ⟨none, op, ty, pos, after, none⟩ ⟨n, m⟩ σ K X ↔ K ⟨n, m⟩ σ' := by
  rw [AStep]; simp only [aWanted, hc, h]; exact put_none _

/-- An operation that gives a value that may not be there. -/
theorem AL_opt {op : Op} (hc : aCallee ⟨n, m⟩ op = none) {o : Option V} (h : aop P op ⟨n, m⟩ σ σ.length = o.map fun v => .val v σ) :
    AStep P ops ⟨some d, op, ty, pos, after, none⟩ ⟨n, m⟩ σ K X ↔ ∃ v, o = some v ∧ d < n ∧ K ⟨n, (d, v) :: m⟩ σ := by
  rw [AStep]; simp only [aWanted, hc, h]
  cases o with
  | none => simp
  | some v => simp only [Option.map_some]; rw [put_some]; simp

theorem AL_opt2 {op : Op} (hc : aCallee ⟨n, m⟩ op = none) {o : Option (V × H)} (h : aop P op ⟨n, m⟩ σ σ.length = o.map fun p => .val p.1 p.2) :
    AStep P ops ⟨some d, op, ty, pos, after, none⟩ ⟨n, m⟩ σ K X ↔ ∃ v σ', o = some (v, σ') ∧ d < n ∧ K ⟨n, (d, v) :: m⟩ σ' := by
  rw [AStep]; simp only [aWanted, hc, h]
  cases o with
  | none => simp
  | some p =>
    obtain ⟨v, σ'⟩ := p
    simp only [Option.map_some]
    rw [put_some]
    exact ⟨fun h => ⟨v, σ', rfl, h⟩, fun ⟨v', s', h1, h2⟩ => by cases h1; exact h2⟩

theorem A_move {x : Operand} : AStep P ops ⟨some d, .move x, ty, pos, after, none⟩ ⟨n, m⟩ σ K X ↔ d < n ∧ K ⟨n, (d, Fr.eval ⟨n, m⟩ x) :: m⟩ σ := AL_val rfl rfl
theorem A_assign {x : Operand} : AStep P ops ⟨some d, .assign x, ty, pos, after, none⟩ ⟨n, m⟩ σ K X ↔ d < n ∧ K ⟨n, (d, Fr.eval ⟨n, m⟩ x) :: m⟩ σ := AL_val rfl rfl

def aPick (c a b : V) : Option V :=
  match c with
  | .bool t => some (if t then a else b)
  | _ => none
theorem A_pick {c x y : Operand} : AStep P ops ⟨some d, .pick c x y, ty, pos, after, none⟩ ⟨n, m⟩ σ K X ↔ ∃ v, aPick (Fr.eval ⟨n, m⟩ c) (Fr.eval ⟨n, m⟩ x) (Fr.eval ⟨n, m⟩ y) = some v ∧ d < n ∧ K ⟨n, (d, v) :: m⟩ σ := by
  refine AL_opt rfl ?_
  simp only [aop, aPick]
  split <;> simp_all

theorem A_alloc {t : TypeId} : AStep P ops ⟨some d, .alloc t, ty, pos, after, none⟩ ⟨n, m⟩ σ K X ↔ ∃ v σ', aAlloc P t σ σ.length = some (v, σ') ∧ d < n ∧ K ⟨n, (d, v) :: m⟩ σ' := AL_opt2 rfl rfl
theorem A_box {t : TypeId} {x : Operand} : AStep P ops ⟨some d, .box t x, ty, pos, after, none⟩ ⟨n, m⟩ σ K X ↔ ∃ v σ', aBox t σ σ.length (Fr.eval ⟨n, m⟩ x) = some (v, σ') ∧ d < n ∧ K ⟨n, (d, v) :: m⟩ σ' := AL_opt2 rfl rfl
theorem A_build {t : TypeId} {ps : Array (Nat × Operand)} : AStep P ops ⟨some d, .build t ps, ty, pos, after, none⟩ ⟨n, m⟩ σ K X ↔ ∃ v, aBuild P t (ps.toList.map fun p => (p.1, Fr.eval ⟨n, m⟩ p.2)) = some v ∧ d < n ∧ K ⟨n, (d, v) :: m⟩ σ := AL_opt rfl rfl
theorem A_buildSlice {t len : Nat} {ps : Array (Nat × Operand)} : AStep P ops ⟨some d, .buildSlice t len ps, ty, pos, after, none⟩ ⟨n, m⟩ σ K X ↔ ∃ v σ', aBuildSlice P t len (ps.toList.map fun p => (p.1, Fr.eval ⟨n, m⟩ p.2)) σ σ.length = some (v, σ') ∧ d < n ∧ K ⟨n, (d, v) :: m⟩ σ' := AL_opt2 rfl rfl
theorem A_load {t : TypeId} {x : Operand} : AStep P ops ⟨some d, .load t x, ty, pos, after, none⟩ ⟨n, m⟩ σ K X ↔ ∃ v, aLoad P t σ (Fr.eval ⟨n, m⟩ x) = some v ∧ d < n ∧ K ⟨n, (d, v) :: m⟩ σ := AL_opt rfl rfl
theorem A_store {t : TypeId} {x y : Operand} : AStep P ops ⟨none, .store t x y, ty, pos, after, none⟩ ⟨n, m⟩ σ K X ↔ ∃ σ', aStore P t σ (Fr.eval ⟨n, m⟩ x) (Fr.eval ⟨n, m⟩ y) = some σ' ∧ K ⟨n, m⟩ σ' := by
  rw [AStep]; simp only [aWanted, aCallee, aop]
  cases aStore P t σ (Fr.eval ⟨n, m⟩ x) (Fr.eval ⟨n, m⟩ y) with
  | none => simp
  | some s => simp only [Option.map_some]; rw [put_none]; simp

def aNil (x : V) : Option V :=
  match x with
  | .ptr b o => some (.ptr b o)
  | .pp r o => some (.pp r o)
  | .fn g cs => some (.fn g cs)
  | _ => none
theorem A_nilCheck {x : Operand} : AStep P ops ⟨some d, .nilCheck x, ty, pos, after, none⟩ ⟨n, m⟩ σ K X ↔ ∃ v, aNil (Fr.eval ⟨n, m⟩ x) = some v ∧ d < n ∧ K ⟨n, (d, v) :: m⟩ σ := by
  refine AL_opt rfl ?_
  simp only [aop, aNil]
  split <;> simp_all

theorem A_binOp {op : BinOp} {t yt : TypeId} {x y : Operand} : AStep P ops ⟨some d, .binOp op t x y yt, ty, pos, after, none⟩ ⟨n, m⟩ σ K X ↔ ∃ v, aBin P op t (Fr.eval ⟨n, m⟩ x) (Fr.eval ⟨n, m⟩ y) = some v ∧ d < n ∧ K ⟨n, (d, v) :: m⟩ σ := AL_opt rfl rfl
theorem A_unOp {op : UnOp} {t : TypeId} {x : Operand} : AStep P ops ⟨some d, .unOp op t x, ty, pos, after, none⟩ ⟨n, m⟩ σ K X ↔ ∃ v, aUn op (Fr.eval ⟨n, m⟩ x) = some v ∧ d < n ∧ K ⟨n, (d, v) :: m⟩ σ := AL_opt rfl rfl
theorem A_convert {s t : TypeId} {x : Operand} : AStep P ops ⟨some d, .convert s t x, ty, pos, after, none⟩ ⟨n, m⟩ σ K X ↔ ∃ v, aConv P s t (Fr.eval ⟨n, m⟩ x) = some v ∧ d < n ∧ K ⟨n, (d, v) :: m⟩ σ := AL_opt rfl rfl
theorem A_makeFunc {g : FuncId} {caps : Array Operand} : AStep P ops ⟨some d, .makeFunc (.func g) #[] caps, ty, pos, after, none⟩ ⟨n, m⟩ σ K X ↔ d < n ∧ K ⟨n, (d, .fn g (caps.toList.map (Fr.eval ⟨n, m⟩))) :: m⟩ σ := AL_val rfl rfl
theorem A_makeSlice {t : TypeId} {l c : Operand} : AStep P ops ⟨some d, .makeSlice t l c, ty, pos, after, none⟩ ⟨n, m⟩ σ K X ↔ ∃ v σ', aMake P t (Fr.eval ⟨n, m⟩ l) (Fr.eval ⟨n, m⟩ c) σ σ.length = some (v, σ') ∧ d < n ∧ K ⟨n, (d, v) :: m⟩ σ' := AL_opt2 rfl rfl
theorem A_slice {t : TypeId} {x : Operand} {lo hi : Option Operand} : AStep P ops ⟨some d, .slice t x lo hi none, ty, pos, after, none⟩ ⟨n, m⟩ σ K X ↔ ∃ v, aSlice P t (Fr.eval ⟨n, m⟩ x) (lo.map (Fr.eval ⟨n, m⟩)) (hi.map (Fr.eval ⟨n, m⟩)) = some v ∧ d < n ∧ K ⟨n, (d, v) :: m⟩ σ := AL_opt rfl rfl
theorem A_fieldAddr {s : TypeId} {x : Operand} {i : Nat} : AStep P ops ⟨some d, .fieldAddr s x i, ty, pos, after, none⟩ ⟨n, m⟩ σ K X ↔ ∃ v, aFieldAddr P s i (Fr.eval ⟨n, m⟩ x) = some v ∧ d < n ∧ K ⟨n, (d, v) :: m⟩ σ := AL_opt rfl rfl
theorem A_field {s : TypeId} {x : Operand} {i : Nat} : AStep P ops ⟨some d, .field s x i, ty, pos, after, none⟩ ⟨n, m⟩ σ K X ↔ ∃ v, aField P s i (Fr.eval ⟨n, m⟩ x) = some v ∧ d < n ∧ K ⟨n, (d, v) :: m⟩ σ := AL_opt rfl rfl
theorem A_indexAddr {t : TypeId} {x i : Operand} : AStep P ops ⟨some d, .indexAddr t x i, ty, pos, after, none⟩ ⟨n, m⟩ σ K X ↔ ∃ v, aIndexAddr P t (Fr.eval ⟨n, m⟩ x) (Fr.eval ⟨n, m⟩ i) = some v ∧ d < n ∧ K ⟨n, (d, v) :: m⟩ σ := AL_opt rfl rfl
theorem A_extract {x : Operand} {i : Nat} : AStep P ops ⟨some d, .extract x i, ty, pos, after, none⟩ ⟨n, m⟩ σ K X ↔ ∃ v, aExtract (Fr.eval ⟨n, m⟩ x) i = some v ∧ d < n ∧ K ⟨n, (d, v) :: m⟩ σ := AL_opt rfl rfl
theorem A_len {t : TypeId} {x : Operand} : AStep P ops ⟨some d, .call ⟨.builtin .len, #[x], #[t]⟩, ty, pos, after, none⟩ ⟨n, m⟩ σ K X ↔ ∃ v, aLen P t σ (Fr.eval ⟨n, m⟩ x) = some v ∧ d < n ∧ K ⟨n, (d, v) :: m⟩ σ := AL_opt rfl rfl
theorem A_append {ts : Array TypeId} {s x : Operand} : AStep P ops ⟨some d, .call ⟨.builtin .append, #[s, x], ts⟩, ty, pos, after, none⟩ ⟨n, m⟩ σ K X ↔ ∃ v σ', aAppend P ts (Fr.eval ⟨n, m⟩ s) (Fr.eval ⟨n, m⟩ x) σ σ.length = some (v, σ') ∧ d < n ∧ K ⟨n, (d, v) :: m⟩ σ' := AL_opt2 rfl rfl
theorem A_max {ts : Array TypeId} {x y : Operand} : AStep P ops ⟨some d, .call ⟨.builtin .max, #[x, y], ts⟩, ty, pos, after, none⟩ ⟨n, m⟩ σ K X ↔ ∃ v, aMax2 (Fr.eval ⟨n, m⟩ x) (Fr.eval ⟨n, m⟩ y) = some v ∧ d < n ∧ K ⟨n, (d, v) :: m⟩ σ := AL_opt rfl rfl
theorem A_min {ts : Array TypeId} {x y : Operand} : AStep P ops ⟨some d, .call ⟨.builtin .min, #[x, y], ts⟩, ty, pos, after, none⟩ ⟨n, m⟩ σ K X ↔ ∃ v, aMin2 (Fr.eval ⟨n, m⟩ x) (Fr.eval ⟨n, m⟩ y) = some v ∧ d < n ∧ K ⟨n, (d, v) :: m⟩ σ := AL_opt rfl rfl
theorem A_clear {t : TypeId} {x : Operand} : AStep P ops ⟨none, .call ⟨.builtin .clear, #[x], #[t]⟩, ty, pos, after, none⟩ ⟨n, m⟩ σ K X ↔ ∃ σ', aClear P t (Fr.eval ⟨n, m⟩ x) σ = some σ' ∧ K ⟨n, m⟩ σ' := by
  rw [AStep]; simp only [aWanted, aCallee, aop, aBuiltin, List.map_cons, List.map_nil, Array.toList]
  cases aClear P t (Fr.eval ⟨n, m⟩ x) σ with
  | none => simp
  | some s => simp only [Option.map_some]; rw [put_none]; simp

/-- Whom a function value calls. -/
def callT (x : V) (args : List V) : Option (FuncId × List V) :=
  match x with
  | .fn g caps => some (g, args ++ caps)
  | _ => none

theorem A_call {ts : Array TypeId} {x : Operand} {xs : Array Operand} {g : FuncId} {args : List V} (h1 : callT (Fr.eval ⟨n, m⟩ x) (xs.toList.map (Fr.eval ⟨n, m⟩)) = some (g, args)) (h2 : d < n) (h3 : callB P g = true)
    (h4 : Spec P g args σ fun out σ' => match out with
      | .ret v => K ⟨n, (d, v) :: m⟩ σ'
      | .pan v => X v σ') : AStep P ops ⟨some d, .call ⟨.value x, xs, ts⟩, ty, pos, after, none⟩ ⟨n, m⟩ σ K X := by
  have hc : aCallee ⟨n, m⟩ (.call ⟨.value x, xs, ts⟩) = some (g, args) := by
    simp only [aCallee]
    unfold callT at h1
    split at h1
    · rename_i g' caps hq; simp only [hq]; exact h1
    · cases h1
  rw [AStep]
  simp only [aWanted, hc]
  refine ⟨h3, h4.mono fun out σ' hp => ?_⟩
  cases out with
  | ret v => exact (put_some v).2 ⟨h2, hp⟩
  | pan v => exact hp

theorem A_callN {ts : Array TypeId} {x : Operand} {xs : Array Operand} {g : FuncId} {args : List V} (h1 : callT (Fr.eval ⟨n, m⟩ x) (xs.toList.map (Fr.eval ⟨n, m⟩)) = some (g, args)) (h3 : callB P g = true)
    (h4 : Spec P g args σ fun out σ' => match out with
      | .ret v => K ⟨n, m⟩ σ'
      | .pan v => X v σ') : AStep P ops ⟨none, .call ⟨.value x, xs, ts⟩, ty, pos, after, none⟩ ⟨n, m⟩ σ K X := by
  have hc : aCallee ⟨n, m⟩ (.call ⟨.value x, xs, ts⟩) = some (g, args) := by
    simp only [aCallee]
    unfold callT at h1
    split at h1
    · rename_i g' caps hq; simp only [hq]; exact h1
    · cases h1
  rw [AStep]
  simp only [aWanted, hc]
  refine ⟨h3, h4.mono fun out σ' hp => ?_⟩
  cases out with
  | ret v => exact (put_none v).2 hp
  | pan v => exact hp

/-! ### Guards -/

def slotOf (ops : Array Oper) (j : Nat) : Option Nat := (ops[j]?).bind (·.dst)

theorem A_yes {j t : Nat} {want : Bool} {dst : Option Nat} {op : Op} (hs : slotOf ops j = some t) (hv : look m t = .bool want) : AStep P ops ⟨dst, op, ty, pos, after, some (j, want)⟩ ⟨n, m⟩ σ K X ↔ AStep P ops ⟨dst, op, ty, pos, after, none⟩ ⟨n, m⟩ σ K X := by
  have h1 : aWanted ops ⟨n, m⟩ ⟨dst, op, ty, pos, after, some (j, want)⟩ = some true := by
    unfold slotOf at hs
    simp only [aWanted, hs, Fr.get, hv, beq_self_eq_true]
  have h2 : aWanted ops ⟨n, m⟩ ⟨dst, op, ty, pos, after, none⟩ = some true := rfl
  rw [AStep, AStep, h1, h2]

theorem A_no {j t : Nat} {want : Bool} {op : Op} (hs : slotOf ops j = some t) (hv : look m t = .bool (!want)) : AStep P ops ⟨some d, op, ty, pos, after, some (j, want)⟩ ⟨n, m⟩ σ K X ↔ d < n ∧ K ⟨n, (d, .tup []) :: m⟩ σ := by
  have h1 : aWanted ops ⟨n, m⟩ ⟨some d, op, ty, pos, after, some (j, want)⟩ = some false := by
    unfold slotOf at hs
    simp only [aWanted, hs, Fr.get, hv]
    cases want <;> rfl
  rw [AStep, h1]
  exact put_some _

theorem A_none {j t : Nat} {want : Bool} {op : Op} (hs : slotOf ops j = some t) (hv : look m t = .tup []) : AStep P ops ⟨some d, op, ty, pos, after, some (j, want)⟩ ⟨n, m⟩ σ K X ↔ d < n ∧ K ⟨n, (d, .tup []) :: m⟩ σ := by
  have h1 : aWanted ops ⟨n, m⟩ ⟨some d, op, ty, pos, after, some (j, want)⟩ = some false := by
    unfold slotOf at hs
    simp only [aWanted, hs, Fr.get, hv]
  rw [AStep, h1]
  exact put_some _

end laws

end Go.Am
