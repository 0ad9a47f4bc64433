/- Going through code by rewriting, what comes behind held in constants: nothing is looked at ahead of its time. -/
import Derived.Test.YtbnegbjaoiplmaaAmV
set_option linter.unusedVariables false
set_option linter.unusedSimpArgs false
namespace Go.Am
open Go

def Get (x : Option V) (k : V → Prop) : Prop := ∃ v, x = some v ∧ k v
theorem Get_some {v : V} {k : V → Prop} : Get (some v) k ↔ k v := ⟨fun ⟨u, h, hk⟩ => by cases h; exact hk, fun h => ⟨v, rfl, h⟩⟩
theorem Get_none {k : V → Prop} : Get none k ↔ False := by simp [Get]
def GetH (x : Option H) (k : H → Prop) : Prop := ∃ v, x = some v ∧ k v
theorem GetH_some {v : H} {k : H → Prop} : GetH (some v) k ↔ k v := ⟨fun ⟨u, h, hk⟩ => by cases h; exact hk, fun h => ⟨v, rfl, h⟩⟩
def Get2 (x : Option (V × H)) (k : V → H → Prop) : Prop := ∃ v s, x = some (v, s) ∧ k v s
theorem Get2_some {v : V} {s : H} {k : V → H → Prop} : Get2 (some (v, s)) k ↔ k v s := ⟨fun ⟨u, t, h, hk⟩ => by cases h; exact hk, fun h => ⟨v, s, rfl, h⟩⟩

/-- A temporary is set. -/
def SetK (n d : Nat) (m : List (Nat × V)) (K : Fr → H → Prop) (σ : H) (v : V) : Prop := d < n ∧ K ⟨n, (d, v) :: m⟩ σ
theorem SetK_iff {n d : Nat} {m : List (Nat × V)} {K : Fr → H → Prop} {σ : H} {v : V} : SetK n d m K σ v ↔ d < n ∧ K ⟨n, (d, v) :: m⟩ σ := .rfl
def SetK2 (n d : Nat) (m : List (Nat × V)) (K : Fr → H → Prop) (v : V) (σ : H) : Prop := d < n ∧ K ⟨n, (d, v) :: m⟩ σ
theorem SetK2_iff {n d : Nat} {m : List (Nat × V)} {K : Fr → H → Prop} {σ : H} {v : V} : SetK2 n d m K v σ ↔ d < n ∧ K ⟨n, (d, v) :: m⟩ σ := .rfl
/-- The same, each truth value by itself. -/
def SpK (n d : Nat) (m : List (Nat × V)) (K : Fr → H → Prop) (σ : H) (v : V) : Prop := d < n ∧ Cases v fun v => K ⟨n, (d, v) :: m⟩ σ
def HeapK (f : Fr) (K : Fr → H → Prop) (σ : H) : Prop := K f σ
theorem HeapK_iff {f : Fr} {K : Fr → H → Prop} {σ : H} : HeapK f K σ ↔ K f σ := .rfl
theorem SpK_bool {n d : Nat} {m : List (Nat × V)} {K : Fr → H → Prop} {σ : H} {c : Bool} : SpK n d m K σ (.bool c) ↔ (c = true → SetK n d m K σ (.bool true)) ∧ (c = false → SetK n d m K σ (.bool false)) := by
  simp only [SpK, Cases_iff, SetK]
  cases c <;> simp
theorem SpK_true {n d : Nat} {m : List (Nat × V)} {K : Fr → H → Prop} {σ : H} : SpK n d m K σ (.bool true) ↔ SetK n d m K σ (.bool true) := by simp only [SpK, Cases_iff, SetK]
theorem SpK_false {n d : Nat} {m : List (Nat × V)} {K : Fr → H → Prop} {σ : H} : SpK n d m K σ (.bool false) ↔ SetK n d m K σ (.bool false) := by simp only [SpK, Cases_iff, SetK]
theorem SpK_int {n d : Nat} {m : List (Nat × V)} {K : Fr → H → Prop} {σ : H} {k : IntKind} {i : Int} : SpK n d m K σ (.int k i) ↔ SetK n d m K σ (.int k i) := by simp only [SpK, Cases_iff, SetK]
theorem SpK_str {n d : Nat} {m : List (Nat × V)} {K : Fr → H → Prop} {σ : H} {s : ByteArray} : SpK n d m K σ (.str s) ↔ SetK n d m K σ (.str s) := by simp only [SpK, Cases_iff, SetK]

/-- What holds where a region's operation panics. -/
def PanK (Q : Ex → Fr → H → Prop) (f : Fr) (v : V) (σ : H) : Prop := Q (.pan v) f σ
def NoK (v : V) (σ : H) : Prop := False
theorem L_cons {P : Program} {ops : Array Oper} {Q : Ex → Fr → H → Prop} {o : Oper} {rest : List Oper} {f : Fr} {σ : H} : AL P ops Q (o :: rest) f σ ↔ AStepQ P ops o f σ (AL P ops Q rest) (PanK Q f) := .rfl

def notEql : Op → Bool
  | .binOp .eql _ _ _ _ => false
  | _ => true
theorem ne_move {x : Operand} : notEql (.move x) = true := rfl
theorem ne_assign {x : Operand} : notEql (.assign x) = true := rfl
theorem ne_pick {c x y : Operand} : notEql (.pick c x y) = true := rfl
theorem ne_alloc {t : TypeId} : notEql (.alloc t) = true := rfl
theorem ne_box {t : TypeId} {x : Operand} : notEql (.box t x) = true := rfl
theorem ne_build {t : TypeId} {ps : Array (Nat × Operand)} : notEql (.build t ps) = true := rfl
theorem ne_buildSlice {t : TypeId} {n : Nat} {ps : Array (Nat × Operand)} : notEql (.buildSlice t n ps) = true := rfl
theorem ne_load {t : TypeId} {x : Operand} : notEql (.load t x) = true := rfl
theorem ne_store {t : TypeId} {x y : Operand} : notEql (.store t x y) = true := rfl
theorem ne_nilCheck {x : Operand} : notEql (.nilCheck x) = true := rfl
theorem ne_unOp {op : UnOp} {t : TypeId} {x : Operand} : notEql (.unOp op t x) = true := rfl
theorem ne_convert {s t : TypeId} {x : Operand} : notEql (.convert s t x) = true := rfl
theorem ne_makeFunc {g : FuncId} {a b : Array Operand} : notEql (.makeFunc (.func g) a b) = true := rfl
theorem ne_makeSlice {t : TypeId} {l c : Operand} : notEql (.makeSlice t l c) = true := rfl
theorem ne_slice {t : TypeId} {x : Operand} {lo hi mx : Option Operand} : notEql (.slice t x lo hi mx) = true := rfl
theorem ne_fieldAddr {s : TypeId} {x : Operand} {i : Nat} : notEql (.fieldAddr s x i) = true := rfl
theorem ne_field {s : TypeId} {x : Operand} {i : Nat} : notEql (.field s x i) = true := rfl
theorem ne_indexAddr {t : TypeId} {x i : Operand} : notEql (.indexAddr t x i) = true := rfl
theorem ne_extract {x : Operand} {i : Nat} : notEql (.extract x i) = true := rfl
theorem ne_call {c : Call} : notEql (.call c) = true := rfl
theorem ne_makeMap {t : TypeId} {r : Option Operand} : notEql (.makeMap t r) = true := rfl
theorem ne_mapUpdate {t : TypeId} {a b c : Operand} : notEql (.mapUpdate t a b c) = true := rfl
theorem ne_badd {t u : TypeId} {x y : Operand} : notEql (.binOp .add t x y u) = true := rfl
theorem ne_bsub {t u : TypeId} {x y : Operand} : notEql (.binOp .sub t x y u) = true := rfl
theorem ne_bmul {t u : TypeId} {x y : Operand} : notEql (.binOp .mul t x y u) = true := rfl
theorem ne_bquo {t u : TypeId} {x y : Operand} : notEql (.binOp .quo t x y u) = true := rfl
theorem ne_brem {t u : TypeId} {x y : Operand} : notEql (.binOp .rem t x y u) = true := rfl
theorem ne_band {t u : TypeId} {x y : Operand} : notEql (.binOp .and t x y u) = true := rfl
theorem ne_bor {t u : TypeId} {x y : Operand} : notEql (.binOp .or t x y u) = true := rfl
theorem ne_bxor {t u : TypeId} {x y : Operand} : notEql (.binOp .xor t x y u) = true := rfl
theorem ne_bandNot {t u : TypeId} {x y : Operand} : notEql (.binOp .andNot t x y u) = true := rfl
theorem ne_bshl {t u : TypeId} {x y : Operand} : notEql (.binOp .shl t x y u) = true := rfl
theorem ne_bshr {t u : TypeId} {x y : Operand} : notEql (.binOp .shr t x y u) = true := rfl
theorem ne_bneq {t u : TypeId} {x y : Operand} : notEql (.binOp .neq t x y u) = true := rfl
theorem ne_blss {t u : TypeId} {x y : Operand} : notEql (.binOp .lss t x y u) = true := rfl
theorem ne_bleq {t u : TypeId} {x y : Operand} : notEql (.binOp .leq t x y u) = true := rfl
theorem ne_bgtr {t u : TypeId} {x y : Operand} : notEql (.binOp .gtr t x y u) = true := rfl
theorem ne_bgeq {t u : TypeId} {x y : Operand} : notEql (.binOp .geq t x y u) = true := rfl
theorem L_q {P : Program} {ops : Array Oper} {K : Fr → H → Prop} {X : V → H → Prop} {f : Fr} {σ : H} {dst : Option Nat} {op : Op} {ty : Nat} {pos : String} {after : Array Edge} {guard : Option (Nat × Bool)} (h : notEql op = true) : AStepQ P ops ⟨dst, op, ty, pos, after, guard⟩ f σ K X ↔ AStep P ops ⟨dst, op, ty, pos, after, guard⟩ f σ K X := by
  have : nilQ P f ⟨dst, op, ty, pos, after, guard⟩ = false := by
    unfold nilQ
    split
    · rename_i t x y yt hop _; have hop : op = _ := hop; subst hop; cases h
    · rfl
  simp [AStepQ, this]
section q
variable {P : Program} {ops : Array Oper} {K : Fr → H → Prop} {X : V → H → Prop} {f : Fr} {σ : H} {dst : Option Nat} {ty : Nat} {pos : String} {after : Array Edge} {guard : Option (Nat × Bool)}
theorem q_move {x : Operand} : AStepQ P ops ⟨dst, .move x, ty, pos, after, guard⟩ f σ K X ↔ AStep P ops ⟨dst, .move x, ty, pos, after, guard⟩ f σ K X := L_q rfl
theorem q_assign {x : Operand} : AStepQ P ops ⟨dst, .assign x, ty, pos, after, guard⟩ f σ K X ↔ AStep P ops ⟨dst, .assign x, ty, pos, after, guard⟩ f σ K X := L_q rfl
theorem q_pick {c x y : Operand} : AStepQ P ops ⟨dst, .pick c x y, ty, pos, after, guard⟩ f σ K X ↔ AStep P ops ⟨dst, .pick c x y, ty, pos, after, guard⟩ f σ K X := L_q rfl
theorem q_alloc {t : TypeId} : AStepQ P ops ⟨dst, .alloc t, ty, pos, after, guard⟩ f σ K X ↔ AStep P ops ⟨dst, .alloc t, ty, pos, after, guard⟩ f σ K X := L_q rfl
theorem q_box {t : TypeId} {x : Operand} : AStepQ P ops ⟨dst, .box t x, ty, pos, after, guard⟩ f σ K X ↔ AStep P ops ⟨dst, .box t x, ty, pos, after, guard⟩ f σ K X := L_q rfl
theorem q_build {t : TypeId} {ps : Array (Nat × Operand)} : AStepQ P ops ⟨dst, .build t ps, ty, pos, after, guard⟩ f σ K X ↔ AStep P ops ⟨dst, .build t ps, ty, pos, after, guard⟩ f σ K X := L_q rfl
theorem q_buildSlice {t : TypeId} {n : Nat} {ps : Array (Nat × Operand)} : AStepQ P ops ⟨dst, .buildSlice t n ps, ty, pos, after, guard⟩ f σ K X ↔ AStep P ops ⟨dst, .buildSlice t n ps, ty, pos, after, guard⟩ f σ K X := L_q rfl
theorem q_load {t : TypeId} {x : Operand} : AStepQ P ops ⟨dst, .load t x, ty, pos, after, guard⟩ f σ K X ↔ AStep P ops ⟨dst, .load t x, ty, pos, after, guard⟩ f σ K X := L_q rfl
theorem q_store {t : TypeId} {x y : Operand} : AStepQ P ops ⟨dst, .store t x y, ty, pos, after, guard⟩ f σ K X ↔ AStep P ops ⟨dst, .store t x y, ty, pos, after, guard⟩ f σ K X := L_q rfl
theorem q_nilCheck {x : Operand} : AStepQ P ops ⟨dst, .nilCheck x, ty, pos, after, guard⟩ f σ K X ↔ AStep P ops ⟨dst, .nilCheck x, ty, pos, after, guard⟩ f σ K X := L_q rfl
theorem q_unOp {op : UnOp} {t : TypeId} {x : Operand} : AStepQ P ops ⟨dst, .unOp op t x, ty, pos, after, guard⟩ f σ K X ↔ AStep P ops ⟨dst, .unOp op t x, ty, pos, after, guard⟩ f σ K X := L_q rfl
theorem q_convert {s t : TypeId} {x : Operand} : AStepQ P ops ⟨dst, .convert s t x, ty, pos, after, guard⟩ f σ K X ↔ AStep P ops ⟨dst, .convert s t x, ty, pos, after, guard⟩ f σ K X := L_q rfl
theorem q_makeFunc {g : FuncId} {a b : Array Operand} : AStepQ P ops ⟨dst, .makeFunc (.func g) a b, ty, pos, after, guard⟩ f σ K X ↔ AStep P ops ⟨dst, .makeFunc (.func g) a b, ty, pos, after, guard⟩ f σ K X := L_q rfl
theorem q_makeSlice {t : TypeId} {l c : Operand} : AStepQ P ops ⟨dst, .makeSlice t l c, ty, pos, after, guard⟩ f σ K X ↔ AStep P ops ⟨dst, .makeSlice t l c, ty, pos, after, guard⟩ f σ K X := L_q rfl
theorem q_slice {t : TypeId} {x : Operand} {lo hi mx : Option Operand} : AStepQ P ops ⟨dst, .slice t x lo hi mx, ty, pos, after, guard⟩ f σ K X ↔ AStep P ops ⟨dst, .slice t x lo hi mx, ty, pos, after, guard⟩ f σ K X := L_q rfl
theorem q_fieldAddr {s : TypeId} {x : Operand} {i : Nat} : AStepQ P ops ⟨dst, .fieldAddr s x i, ty, pos, after, guard⟩ f σ K X ↔ AStep P ops ⟨dst, .fieldAddr s x i, ty, pos, after, guard⟩ f σ K X := L_q rfl
theorem q_field {s : TypeId} {x : Operand} {i : Nat} : AStepQ P ops ⟨dst, .field s x i, ty, pos, after, guard⟩ f σ K X ↔ AStep P ops ⟨dst, .field s x i, ty, pos, after, guard⟩ f σ K X := L_q rfl
theorem q_indexAddr {t : TypeId} {x i : Operand} : AStepQ P ops ⟨dst, .indexAddr t x i, ty, pos, after, guard⟩ f σ K X ↔ AStep P ops ⟨dst, .indexAddr t x i, ty, pos, after, guard⟩ f σ K X := L_q rfl
theorem q_extract {x : Operand} {i : Nat} : AStepQ P ops ⟨dst, .extract x i, ty, pos, after, guard⟩ f σ K X ↔ AStep P ops ⟨dst, .extract x i, ty, pos, after, guard⟩ f σ K X := L_q rfl
theorem q_call {c : Call} : AStepQ P ops ⟨dst, .call c, ty, pos, after, guard⟩ f σ K X ↔ AStep P ops ⟨dst, .call c, ty, pos, after, guard⟩ f σ K X := L_q rfl
theorem q_makeMap {t : TypeId} {r : Option Operand} : AStepQ P ops ⟨dst, .makeMap t r, ty, pos, after, guard⟩ f σ K X ↔ AStep P ops ⟨dst, .makeMap t r, ty, pos, after, guard⟩ f σ K X := L_q rfl
theorem q_mapUpdate {t : TypeId} {a b c : Operand} : AStepQ P ops ⟨dst, .mapUpdate t a b c, ty, pos, after, guard⟩ f σ K X ↔ AStep P ops ⟨dst, .mapUpdate t a b c, ty, pos, after, guard⟩ f σ K X := L_q rfl
theorem q_badd {t u : TypeId} {x y : Operand} : AStepQ P ops ⟨dst, .binOp .add t x y u, ty, pos, after, guard⟩ f σ K X ↔ AStep P ops ⟨dst, .binOp .add t x y u, ty, pos, after, guard⟩ f σ K X := L_q rfl
theorem q_bsub {t u : TypeId} {x y : Operand} : AStepQ P ops ⟨dst, .binOp .sub t x y u, ty, pos, after, guard⟩ f σ K X ↔ AStep P ops ⟨dst, .binOp .sub t x y u, ty, pos, after, guard⟩ f σ K X := L_q rfl
theorem q_bmul {t u : TypeId} {x y : Operand} : AStepQ P ops ⟨dst, .binOp .mul t x y u, ty, pos, after, guard⟩ f σ K X ↔ AStep P ops ⟨dst, .binOp .mul t x y u, ty, pos, after, guard⟩ f σ K X := L_q rfl
theorem q_bquo {t u : TypeId} {x y : Operand} : AStepQ P ops ⟨dst, .binOp .quo t x y u, ty, pos, after, guard⟩ f σ K X ↔ AStep P ops ⟨dst, .binOp .quo t x y u, ty, pos, after, guard⟩ f σ K X := L_q rfl
theorem q_brem {t u : TypeId} {x y : Operand} : AStepQ P ops ⟨dst, .binOp .rem t x y u, ty, pos, after, guard⟩ f σ K X ↔ AStep P ops ⟨dst, .binOp .rem t x y u, ty, pos, after, guard⟩ f σ K X := L_q rfl
theorem q_band {t u : TypeId} {x y : Operand} : AStepQ P ops ⟨dst, .binOp .and t x y u, ty, pos, after, guard⟩ f σ K X ↔ AStep P ops ⟨dst, .binOp .and t x y u, ty, pos, after, guard⟩ f σ K X := L_q rfl
theorem q_bor {t u : TypeId} {x y : Operand} : AStepQ P ops ⟨dst, .binOp .or t x y u, ty, pos, after, guard⟩ f σ K X ↔ AStep P ops ⟨dst, .binOp .or t x y u, ty, pos, after, guard⟩ f σ K X := L_q rfl
theorem q_bxor {t u : TypeId} {x y : Operand} : AStepQ P ops ⟨dst, .binOp .xor t x y u, ty, pos, after, guard⟩ f σ K X ↔ AStep P ops ⟨dst, .binOp .xor t x y u, ty, pos, after, guard⟩ f σ K X := L_q rfl
theorem q_bandNot {t u : TypeId} {x y : Operand} : AStepQ P ops ⟨dst, .binOp .andNot t x y u, ty, pos, after, guard⟩ f σ K X ↔ AStep P ops ⟨dst, .binOp .andNot t x y u, ty, pos, after, guard⟩ f σ K X := L_q rfl
theorem q_bshl {t u : TypeId} {x y : Operand} : AStepQ P ops ⟨dst, .binOp .shl t x y u, ty, pos, after, guard⟩ f σ K X ↔ AStep P ops ⟨dst, .binOp .shl t x y u, ty, pos, after, guard⟩ f σ K X := L_q rfl
theorem q_bshr {t u : TypeId} {x y : Operand} : AStepQ P ops ⟨dst, .binOp .shr t x y u, ty, pos, after, guard⟩ f σ K X ↔ AStep P ops ⟨dst, .binOp .shr t x y u, ty, pos, after, guard⟩ f σ K X := L_q rfl
theorem q_bneq {t u : TypeId} {x y : Operand} : AStepQ P ops ⟨dst, .binOp .neq t x y u, ty, pos, after, guard⟩ f σ K X ↔ AStep P ops ⟨dst, .binOp .neq t x y u, ty, pos, after, guard⟩ f σ K X := L_q rfl
theorem q_blss {t u : TypeId} {x y : Operand} : AStepQ P ops ⟨dst, .binOp .lss t x y u, ty, pos, after, guard⟩ f σ K X ↔ AStep P ops ⟨dst, .binOp .lss t x y u, ty, pos, after, guard⟩ f σ K X := L_q rfl
theorem q_bleq {t u : TypeId} {x y : Operand} : AStepQ P ops ⟨dst, .binOp .leq t x y u, ty, pos, after, guard⟩ f σ K X ↔ AStep P ops ⟨dst, .binOp .leq t x y u, ty, pos, after, guard⟩ f σ K X := L_q rfl
theorem q_bgtr {t u : TypeId} {x y : Operand} : AStepQ P ops ⟨dst, .binOp .gtr t x y u, ty, pos, after, guard⟩ f σ K X ↔ AStep P ops ⟨dst, .binOp .gtr t x y u, ty, pos, after, guard⟩ f σ K X := L_q rfl
theorem q_bgeq {t u : TypeId} {x y : Operand} : AStepQ P ops ⟨dst, .binOp .geq t x y u, ty, pos, after, guard⟩ f σ K X ↔ AStep P ops ⟨dst, .binOp .geq t x y u, ty, pos, after, guard⟩ f σ K X := L_q rfl
end q
theorem L_qg {P : Program} {ops : Array Oper} {K : Fr → H → Prop} {X : V → H → Prop} {f : Fr} {σ : H} {dst : Option Nat} {op : Op} {ty : Nat} {pos : String} {after : Array Edge} {g : Nat × Bool} : AStepQ P ops ⟨dst, op, ty, pos, after, some g⟩ f σ K X ↔ AStep P ops ⟨dst, op, ty, pos, after, some g⟩ f σ K X := by
  have : nilQ P f ⟨dst, op, ty, pos, after, some g⟩ = false := by
    unfold nilQ
    split
    · rename_i h; cases h
    · rfl
  simp [AStepQ, this]

/-- Behind a question whether two are the same. -/
def EqlK (P : Program) (t : TypeId) (n d : Nat) (m : List (Nat × V)) (K : Fr → H → Prop) (σ : H) (x y : V) : Prop :=
  match x, y with
  | .ps _ [], .snil => match P.underlying t with
    | some (.slice _) => SetK n d m K σ (.bool true) ∧ SetK n d m K σ (.bool false)
    | _ => False
  | x, y => Get (aBin P .eql t x y) (SpK n d m K σ)
theorem EqlK_int {P : Program} {t : TypeId} {n d : Nat} {m : List (Nat × V)} {K : Fr → H → Prop} {σ : H} {k k' : IntKind} {a b : Int} : EqlK P t n d m K σ (.int k a) (.int k' b) ↔ Get (aBin P .eql t (.int k a) (.int k' b)) (SpK n d m K σ) := .rfl
theorem EqlK_bool {P : Program} {t : TypeId} {n d : Nat} {m : List (Nat × V)} {K : Fr → H → Prop} {σ : H} {a b : Bool} : EqlK P t n d m K σ (.bool a) (.bool b) ↔ Get (aBin P .eql t (.bool a) (.bool b)) (SpK n d m K σ) := .rfl
theorem EqlK_agg {P : Program} {t : TypeId} {n d : Nat} {m : List (Nat × V)} {K : Fr → H → Prop} {σ : H} {a b : List V} : EqlK P t n d m K σ (.agg a) (.agg b) ↔ Get (aBin P .eql t (.agg a) (.agg b)) (SpK n d m K σ) := .rfl
theorem EqlK_cons {P : Program} {t : TypeId} {n d : Nat} {m : List (Nat × V)} {K : Fr → H → Prop} {σ : H} {s : Nat} {a : V} {l : List V} {y : V} : EqlK P t n d m K σ (.ps s (a :: l)) y ↔ Get (aBin P .eql t (.ps s (a :: l)) y) (SpK n d m K σ) := .rfl
theorem EqlK_sl {P : Program} {t : TypeId} {n d : Nat} {m : List (Nat × V)} {K : Fr → H → Prop} {σ : H} {b o l s : Nat} {y : V} : EqlK P t n d m K σ (.sl b o l s) y ↔ Get (aBin P .eql t (.sl b o l s) y) (SpK n d m K σ) := .rfl
theorem EqlK_snil {P : Program} {t : TypeId} {n d : Nat} {m : List (Nat × V)} {K : Fr → H → Prop} {σ : H} {y : V} : EqlK P t n d m K σ .snil y ↔ Get (aBin P .eql t .snil y) (SpK n d m K σ) := .rfl
theorem EqlK_nil {P : Program} {t e : TypeId} (h : P.underlying t = some (.slice e)) {n d : Nat} {m : List (Nat × V)} {K : Fr → H → Prop} {σ : H} {s : Nat} : EqlK P t n d m K σ (.ps s []) .snil ↔ SetK n d m K σ (.bool true) ∧ SetK n d m K σ (.bool false) := by
  simp only [EqlK, h]

/-- Behind an operation of a walk in an order of choice. -/
def APK (P : Program) (l : List Oper) (hs : List (List Nat)) (Q : Fr → H → Prop) (i : Nat) (rest : List Nat) (f : Fr) (σ : H) (f' : Fr) (σ' : H) : Prop := HeldL P l f σ σ' (hs.getD i []) ∧ AP P l hs Q rest f' σ'
theorem APK_iff {P : Program} {l : List Oper} {hs : List (List Nat)} {Q : Fr → H → Prop} {i : Nat} {rest : List Nat} {f f' : Fr} {σ σ' : H} : APK P l hs Q i rest f σ f' σ' ↔ HeldL P l f σ σ' (hs.getD i []) ∧ AP P l hs Q rest f' σ' := .rfl
def APo (P : Program) (l : List Oper) (o : Option Oper) (f : Fr) (σ : H) (K : Fr → H → Prop) : Prop := match o with
  | some o => AStep P l.toArray o f σ K NoK
  | none => False
theorem APo_some {P : Program} {l : List Oper} {o : Oper} {f : Fr} {σ : H} {K : Fr → H → Prop} : APo P l (some o) f σ K ↔ AStep P l.toArray o f σ K NoK := .rfl
theorem L_pick {P : Program} {l : List Oper} {hs : List (List Nat)} {Q : Fr → H → Prop} {i : Nat} {rest : List Nat} {f : Fr} {σ : H} : AP P l hs Q (i :: rest) f σ ↔ APo P l l[i]? f σ (APK P l hs Q i rest f σ) := by
  simp only [AP, APo]
  rfl
def NormK (Q : Ex → Fr → H → Prop) (f : Fr) (σ : H) : Prop := Q .normal f σ
theorem NormK_iff {Q : Ex → Fr → H → Prop} {f : Fr} {σ : H} : NormK Q f σ ↔ Q .normal f σ := .rfl
def PlanK (P : Program) (k id : Nat) (l : List Oper) (Q : Ex → Fr → H → Prop) (f : Fr) (σ : H) : Option Plan → Prop
  | some p => AP P l p.hs (NormK Q) p.ord f σ
  | none => Rcode P k (.region id l.toArray true) f σ Q
theorem PlanK_some {P : Program} {k id : Nat} {l : List Oper} {Q : Ex → Fr → H → Prop} {f : Fr} {σ : H} {a b : List Nat} {c : List (List Nat)} {d e : List Nat} : PlanK P k id l Q f σ (some ⟨a, b, c, d, e⟩) ↔ AP P l c (NormK Q) a f σ := .rfl
theorem PlanK_none {P : Program} {k id : Nat} {l : List Oper} {Q : Ex → Fr → H → Prop} {f : Fr} {σ : H} : PlanK P k id l Q f σ none ↔ Rcode P k (.region id l.toArray true) f σ Q := .rfl
theorem L_draw {P : Program} {pl : Pln} {Q : Ex → Fr → H → Prop} {f : Fr} {σ : H} {id : Nat} {l : List Oper} : W P pl (.region id l.toArray true) f σ Q ↔ PlanK P pl.k id l Q f σ (planOf pl.l id) := by
  rw [W_draw]
  cases planOf pl.l id with
  | none => exact .rfl
  | some p => exact .rfl

/-- Behind a condition. -/
def CondK (P : Program) (pl : Pln) (a b : Code) (f : Fr) (σ : H) (Q : Ex → Fr → H → Prop) (v : V) : Prop := ∃ t, v = .bool t ∧ (t = true → W P pl a f σ Q) ∧ (t = false → W P pl b f σ Q)
theorem CondK_true {P : Program} {pl : Pln} {a b : Code} {f : Fr} {σ : H} {Q : Ex → Fr → H → Prop} : CondK P pl a b f σ Q (.bool true) ↔ W P pl a f σ Q := by simp [CondK]
theorem CondK_false {P : Program} {pl : Pln} {a b : Code} {f : Fr} {σ : H} {Q : Ex → Fr → H → Prop} : CondK P pl a b f σ Q (.bool false) ↔ W P pl b f σ Q := by simp [CondK]
theorem CondK_bool {P : Program} {pl : Pln} {a b : Code} {f : Fr} {σ : H} {Q : Ex → Fr → H → Prop} {c : Bool} : CondK P pl a b f σ Q (.bool c) ↔ (c = true → W P pl a f σ Q) ∧ (c = false → W P pl b f σ Q) := by simp [CondK]
theorem L_cond {P : Program} {pl : Pln} {a b : Code} {f : Fr} {σ : H} {Q : Ex → Fr → H → Prop} {c : Operand} : W P pl (.cond c a b) f σ Q ↔ CondK P pl a b f σ Q (f.eval c) := .rfl

/-- Where a function ends. -/
def EndK (Q : Out → H → Prop) (σ : H) (v : V) : Prop := Q (.ret v) σ
theorem EndK_iff {Q : Out → H → Prop} {σ : H} {v : V} : EndK Q σ v ↔ Q (.ret v) σ := .rfl
theorem L_ret {P : Program} {rs : List ResultVar} {Q : Out → H → Prop} {f : Fr} {σ : H} : End P rs Q .ret f σ ↔ Get (aResults P rs f σ) (EndK Q σ) := .rfl
theorem L_end {P : Program} {rs : List ResultVar} {Q : Out → H → Prop} {f : Fr} {σ : H} : End P rs Q .normal f σ ↔ Get (aResults P rs f σ) (EndK Q σ) := .rfl

section laws
variable {P : Program} {ops : Array Oper} {K : Fr → H → Prop} {X : V → H → Prop} {n d ty : Nat} {m : List (Nat × V)} {σ : H} {pos : String} {after : Array Edge}

theorem L_eql {t yt : TypeId} {x y : Operand} : AStepQ P ops ⟨some d, .binOp .eql t x y yt, ty, pos, after, none⟩ ⟨n, m⟩ σ K X ↔ EqlK P t n d m K σ (Fr.eval ⟨n, m⟩ x) (Fr.eval ⟨n, m⟩ y) := by
  by_cases hs : ∃ sz, Fr.eval ⟨n, m⟩ x = .ps sz [] ∧ Fr.eval ⟨n, m⟩ y = .snil
  · obtain ⟨sz, hx, hy⟩ := hs
    unfold AStepQ nilQ EqlK
    simp only [hx, hy]
    cases hu : P.underlying t with
    | none => simp [A_bin, aBin, pairB, hx, hy]
    | some td => cases td <;> simp [A_bin, aBin, pairB, hx, hy, put_some, SetK] <;> exact And.comm
  · have h1 : nilQ P ⟨n, m⟩ ⟨some d, .binOp .eql t x y yt, ty, pos, after, none⟩ = false := by
      unfold nilQ
      simp only
      split
      · rename_i sz hx hy; exact absurd ⟨sz, hx, hy⟩ hs
      · rfl
    have h2 : EqlK P t n d m K σ (Fr.eval ⟨n, m⟩ x) (Fr.eval ⟨n, m⟩ y) = Get (aBin P .eql t (Fr.eval ⟨n, m⟩ x) (Fr.eval ⟨n, m⟩ y)) (SpK n d m K σ) := by
      unfold EqlK
      split
      · rename_i sz hx hy; exact absurd ⟨sz, hx, hy⟩ hs
      · rfl
    rw [h2]
    simp only [AStepQ, h1, Bool.false_eq_true, if_false]
    exact A_bin
theorem L_bin {op : BinOp} {t yt : TypeId} {x y : Operand} : AStep P ops ⟨some d, .binOp op t x y yt, ty, pos, after, none⟩ ⟨n, m⟩ σ K X ↔ Get (aBin P op t (Fr.eval ⟨n, m⟩ x) (Fr.eval ⟨n, m⟩ y)) (SpK n d m K σ) := A_bin
theorem L_un {op : UnOp} {t : TypeId} {x : Operand} : AStep P ops ⟨some d, .unOp op t x, ty, pos, after, none⟩ ⟨n, m⟩ σ K X ↔ Get (aUn op (Fr.eval ⟨n, m⟩ x)) (SpK n d m K σ) := A_un
theorem L_pk {c x y : Operand} : AStep P ops ⟨some d, .pick c x y, ty, pos, after, none⟩ ⟨n, m⟩ σ K X ↔ Get (aPick (Fr.eval ⟨n, m⟩ c) (Fr.eval ⟨n, m⟩ x) (Fr.eval ⟨n, m⟩ y)) (SetK n d m K σ) := A_pick
theorem L_alloc {t : TypeId} : AStep P ops ⟨some d, .alloc t, ty, pos, after, none⟩ ⟨n, m⟩ σ K X ↔ Get2 (aAlloc P t σ σ.length) (SetK2 n d m K) := A_alloc
theorem L_box {t : TypeId} {x : Operand} : AStep P ops ⟨some d, .box t x, ty, pos, after, none⟩ ⟨n, m⟩ σ K X ↔ Get2 (aBox t σ σ.length (Fr.eval ⟨n, m⟩ x)) (SetK2 n d m K) := A_box
theorem L_build {t : TypeId} {l : List (Nat × Operand)} : AStep P ops ⟨some d, .build t l.toArray, ty, pos, after, none⟩ ⟨n, m⟩ σ K X ↔ Get (aBuild P t (l.map fun p => (p.1, Fr.eval ⟨n, m⟩ p.2))) (SetK n d m K σ) := A_build
theorem L_buildSlice {t len : Nat} {l : List (Nat × Operand)} : AStep P ops ⟨some d, .buildSlice t len l.toArray, ty, pos, after, none⟩ ⟨n, m⟩ σ K X ↔ Get2 (aBuildSlice P t len (l.map fun p => (p.1, Fr.eval ⟨n, m⟩ p.2)) σ σ.length) (SetK2 n d m K) := A_buildSlice
theorem L_load {t : TypeId} {x : Operand} : AStep P ops ⟨some d, .load t x, ty, pos, after, none⟩ ⟨n, m⟩ σ K X ↔ Get (aLoad P t σ (Fr.eval ⟨n, m⟩ x)) (SetK n d m K σ) := A_load
theorem L_store {t : TypeId} {x y : Operand} : AStep P ops ⟨none, .store t x y, ty, pos, after, none⟩ ⟨n, m⟩ σ K X ↔ GetH (aStore P t σ (Fr.eval ⟨n, m⟩ x) (Fr.eval ⟨n, m⟩ y)) (HeapK ⟨n, m⟩ K) := A_store
theorem L_nil {x : Operand} : AStep P ops ⟨some d, .nilCheck x, ty, pos, after, none⟩ ⟨n, m⟩ σ K X ↔ Get (aNil (Fr.eval ⟨n, m⟩ x)) (SetK n d m K σ) := A_nilCheck
theorem L_convert {s t : TypeId} {x : Operand} : AStep P ops ⟨some d, .convert s t x, ty, pos, after, none⟩ ⟨n, m⟩ σ K X ↔ Get (aConv P s t (Fr.eval ⟨n, m⟩ x)) (SetK n d m K σ) := A_convert
theorem L_makeSlice {t : TypeId} {l c : Operand} : AStep P ops ⟨some d, .makeSlice t l c, ty, pos, after, none⟩ ⟨n, m⟩ σ K X ↔ Get2 (aMake P t (Fr.eval ⟨n, m⟩ l) (Fr.eval ⟨n, m⟩ c) σ σ.length) (SetK2 n d m K) := A_makeSlice
theorem L_slice {t : TypeId} {x : Operand} {lo hi : Option Operand} : AStep P ops ⟨some d, .slice t x lo hi none, ty, pos, after, none⟩ ⟨n, m⟩ σ K X ↔ Get (aSlice P t (Fr.eval ⟨n, m⟩ x) (lo.map (Fr.eval ⟨n, m⟩)) (hi.map (Fr.eval ⟨n, m⟩))) (SetK n d m K σ) := A_slice
theorem L_fieldAddr {s : TypeId} {x : Operand} {i : Nat} : AStep P ops ⟨some d, .fieldAddr s x i, ty, pos, after, none⟩ ⟨n, m⟩ σ K X ↔ Get (aFieldAddr P s i (Fr.eval ⟨n, m⟩ x)) (SetK n d m K σ) := A_fieldAddr
theorem L_field {s : TypeId} {x : Operand} {i : Nat} : AStep P ops ⟨some d, .field s x i, ty, pos, after, none⟩ ⟨n, m⟩ σ K X ↔ Get (aField P s i (Fr.eval ⟨n, m⟩ x)) (SetK n d m K σ) := A_field
theorem L_indexAddr {t : TypeId} {x i : Operand} : AStep P ops ⟨some d, .indexAddr t x i, ty, pos, after, none⟩ ⟨n, m⟩ σ K X ↔ Get (aIndexAddr P t (Fr.eval ⟨n, m⟩ x) (Fr.eval ⟨n, m⟩ i)) (SetK n d m K σ) := A_indexAddr
theorem L_extract {x : Operand} {i : Nat} : AStep P ops ⟨some d, .extract x i, ty, pos, after, none⟩ ⟨n, m⟩ σ K X ↔ Get (aExtract (Fr.eval ⟨n, m⟩ x) i) (SetK n d m K σ) := A_extract
theorem L_len {t : TypeId} {x : Operand} : AStep P ops ⟨some d, .call ⟨.builtin .len, #[x], #[t]⟩, ty, pos, after, none⟩ ⟨n, m⟩ σ K X ↔ Get (aLen P t σ (Fr.eval ⟨n, m⟩ x)) (SetK n d m K σ) := A_len
theorem L_append {ts : Array TypeId} {s x : Operand} : AStep P ops ⟨some d, .call ⟨.builtin .append, #[s, x], ts⟩, ty, pos, after, none⟩ ⟨n, m⟩ σ K X ↔ Get2 (aAppend P ts (Fr.eval ⟨n, m⟩ s) (Fr.eval ⟨n, m⟩ x) σ σ.length) (SetK2 n d m K) := A_append
theorem L_max {ts : Array TypeId} {x y : Operand} : AStep P ops ⟨some d, .call ⟨.builtin .max, #[x, y], ts⟩, ty, pos, after, none⟩ ⟨n, m⟩ σ K X ↔ Get (aMax2 (Fr.eval ⟨n, m⟩ x) (Fr.eval ⟨n, m⟩ y)) (SetK n d m K σ) := A_max
theorem L_min {ts : Array TypeId} {x y : Operand} : AStep P ops ⟨some d, .call ⟨.builtin .min, #[x, y], ts⟩, ty, pos, after, none⟩ ⟨n, m⟩ σ K X ↔ Get (aMin2 (Fr.eval ⟨n, m⟩ x) (Fr.eval ⟨n, m⟩ y)) (SetK n d m K σ) := A_min
theorem L_clear {t : TypeId} {x : Operand} : AStep P ops ⟨none, .call ⟨.builtin .clear, #[x], #[t]⟩, ty, pos, after, none⟩ ⟨n, m⟩ σ K X ↔ GetH (aClear P t (Fr.eval ⟨n, m⟩ x) σ) (HeapK ⟨n, m⟩ K) := A_clear

/-- Behind a guard. -/
def GuK (P : Program) (ops : Array Oper) (o : Oper) (f : Fr) (σ : H) (K : Fr → H → Prop) (X : V → H → Prop) (b : Option Bool) : Prop := ∃ c, b = some c ∧ (c = true → AStep P ops o f σ K X) ∧ (c = false → ∃ f', f.put o.dst (.tup []) = some f' ∧ K f' σ)
theorem L_gd {j : Nat} {want : Bool} {op : Op} {dst : Option Nat} : AStep P ops ⟨dst, op, ty, pos, after, some (j, want)⟩ ⟨n, m⟩ σ K X ↔ GuK P ops ⟨dst, op, ty, pos, after, none⟩ ⟨n, m⟩ σ K X (aGuardS m want (slotOf ops j)) := A_guard
theorem GuK_true {o : Oper} {f : Fr} : GuK P ops o f σ K X (some true) ↔ AStep P ops o f σ K X := by simp [GuK]
theorem GuK_false {op : Op} : GuK P ops ⟨some d, op, ty, pos, after, none⟩ ⟨n, m⟩ σ K X (some false) ↔ SetK n d m K σ (.tup []) := by
  simp only [GuK, Option.some.injEq, exists_eq_left', Bool.false_eq_true, false_implies, true_and, forall_const, put_some, SetK]
theorem GuK_falseN {op : Op} : GuK P ops ⟨none, op, ty, pos, after, none⟩ ⟨n, m⟩ σ K X (some false) ↔ K ⟨n, m⟩ σ := by
  simp only [GuK, Option.some.injEq, exists_eq_left', Bool.false_eq_true, false_implies, true_and, forall_const, put_none]
end laws

/-- Known results of calls. -/
theorem L_of {P : Program} {g : FuncId} {args : List V} {v : V} {n d : Nat} {m : List (Nat × V)} {K : Fr → H → Prop} {X : V → H → Prop} {σ : H} (h : Spec P g args σ fun o s => s = σ ∧ o = .ret v) (hk : SpK n d m K σ v) : Spec P g args σ (CallK n d m K X) := CallK_of h hk

end Go.Am
