/- Going through code by rewriting: what each operation gives, case by case. -/
import Derived.Test.YtbnegbjaoiplmaaAmR
set_option linter.unusedVariables false
set_option linter.unusedSimpArgs false
namespace Go.Am
open Go

/-- What holds for a value; for a truth value: for each of the two. -/
def Cases (v : V) (K : V → Prop) : Prop :=
  match v with
  | .bool c => (c = true → K (.bool true)) ∧ (c = false → K (.bool false))
  | v => K v

theorem Cases_iff {v : V} {K : V → Prop} : Cases v K ↔ K v := by
  cases v <;> try exact Iff.rfl
  rename_i b
  cases b <;> simp [Cases]

theorem Cases_bool {c : Bool} {K : V → Prop} : Cases (.bool c) K ↔ (c = true → K (.bool true)) ∧ (c = false → K (.bool false)) := .rfl
theorem Cases_int {k : IntKind} {i : Int} {K : V → Prop} : Cases (.int k i) K ↔ K (.int k i) := .rfl
theorem Cases_str {s : ByteArray} {K : V → Prop} : Cases (.str s) K ↔ K (.str s) := .rfl

section laws
variable {P : Program} {ops : Array Oper} {K : Fr → H → Prop} {X : V → H → Prop} {n d ty : Nat} {m : List (Nat × V)} {σ : H} {pos : String} {after : Array Edge}

theorem A_bin {op : BinOp} {t yt : TypeId} {x y : Operand} : AStep P ops ⟨some d, .binOp op t x y yt, ty, pos, after, none⟩ ⟨n, m⟩ σ K X ↔ ∃ v, aBin P op t (Fr.eval ⟨n, m⟩ x) (Fr.eval ⟨n, m⟩ y) = some v ∧ d < n ∧ Cases v fun v => K ⟨n, (d, v) :: m⟩ σ := by
  rw [A_binOp]
  simp only [Cases_iff]
theorem A_un {op : UnOp} {t : TypeId} {x : Operand} : AStep P ops ⟨some d, .unOp op t x, ty, pos, after, none⟩ ⟨n, m⟩ σ K X ↔ ∃ v, aUn op (Fr.eval ⟨n, m⟩ x) = some v ∧ d < n ∧ Cases v fun v => K ⟨n, (d, v) :: m⟩ σ := by
  rw [A_unOp]
  simp only [Cases_iff]

/-- A guard whose temporary holds a truth value or nothing. -/
def aGuard (x : V) (want : Bool) : Option Bool :=
  match x with
  | .bool b => some (b == want)
  | .tup [] => some false
  | _ => none

def aGuardS (m : List (Nat × V)) (want : Bool) : Option Nat → Option Bool
  | none => some false
  | some t => aGuard (look m t) want

theorem A_guard {j : Nat} {want : Bool} {dst : Option Nat} {op : Op} : AStep P ops ⟨dst, op, ty, pos, after, some (j, want)⟩ ⟨n, m⟩ σ K X ↔
    ∃ b, aGuardS m want (slotOf ops j) = some b ∧ (b = true → AStep P ops ⟨dst, op, ty, pos, after, none⟩ ⟨n, m⟩ σ K X) ∧ (b = false → ∃ f', Fr.put ⟨n, m⟩ dst (.tup []) = some f' ∧ K f' σ) := by
  have h1 : aWanted ops ⟨n, m⟩ ⟨dst, op, ty, pos, after, some (j, want)⟩ = aGuardS m want (slotOf ops j) := by
    unfold slotOf
    simp only [aWanted]
    cases (ops[j]?).bind (·.dst) with
    | none => rfl
    | some t =>
      simp only [aGuardS, Fr.get, aGuard]
      split <;> simp_all
  have h2 : aWanted ops ⟨n, m⟩ ⟨dst, op, ty, pos, after, none⟩ = some true := rfl
  unfold AStep
  rw [h1, h2]
  cases aGuardS m want (slotOf ops j) with
  | none => simp
  | some b => cases b <;> simp

theorem A_gd {j : Nat} {want : Bool} {op : Op} : AStep P ops ⟨some d, op, ty, pos, after, some (j, want)⟩ ⟨n, m⟩ σ K X ↔
    ∃ b, aGuardS m want (slotOf ops j) = some b ∧ (b = true → AStep P ops ⟨some d, op, ty, pos, after, none⟩ ⟨n, m⟩ σ K X) ∧ (b = false → d < n ∧ K ⟨n, (d, .tup []) :: m⟩ σ) := by
  rw [A_guard]
  simp only [put_some]
theorem A_gn {j : Nat} {want : Bool} {op : Op} : AStep P ops ⟨none, op, ty, pos, after, some (j, want)⟩ ⟨n, m⟩ σ K X ↔
    ∃ b, aGuardS m want (slotOf ops j) = some b ∧ (b = true → AStep P ops ⟨none, op, ty, pos, after, none⟩ ⟨n, m⟩ σ K X) ∧ (b = false → K ⟨n, m⟩ σ) := by
  rw [A_guard]
  simp only [put_none]
theorem G_tt : aGuard (.bool true) true = some true := rfl
theorem G_tf : aGuard (.bool true) false = some false := rfl
theorem G_ft : aGuard (.bool false) true = some false := rfl
theorem G_ff : aGuard (.bool false) false = some true := rfl
theorem G_n {b : Bool} : aGuard (.tup []) b = some false := rfl

/-- What holds behind a call. -/
def CallK (n d : Nat) (m : List (Nat × V)) (K : Fr → H → Prop) (X : V → H → Prop) : Out → H → Prop
  | .ret v, σ' => d < n ∧ Cases v fun v => K ⟨n, (d, v) :: m⟩ σ'
  | .pan v, σ' => X v σ'
def CallN (n : Nat) (m : List (Nat × V)) (K : Fr → H → Prop) (X : V → H → Prop) : Out → H → Prop
  | .ret v, σ' => K ⟨n, m⟩ σ'
  | .pan v, σ' => X v σ'
theorem CallK_ret {v : V} : CallK n d m K X (.ret v) σ ↔ d < n ∧ Cases v fun v => K ⟨n, (d, v) :: m⟩ σ := .rfl
theorem CallN_ret {v : V} : CallN n m K X (.ret v) σ ↔ K ⟨n, m⟩ σ := .rfl

theorem A_callI {ts : Array TypeId} {l : List Operand} {g : FuncId} : AStep P ops ⟨some d, .call ⟨.value (.func g), l.toArray, ts⟩, ty, pos, after, none⟩ ⟨n, m⟩ σ K X ↔ callB P g = true ∧ Spec P g (l.map (Fr.eval ⟨n, m⟩)) σ (CallK n d m K X) := by
  have e : aCallee ⟨n, m⟩ (.call ⟨.value (.func g), l.toArray, ts⟩) = some (g, l.map (Fr.eval ⟨n, m⟩)) := by simp [aCallee, Fr.eval]
  unfold AStep
  simp only [aWanted, e]
  refine and_congr Iff.rfl ⟨fun h => h.mono fun o s hp => ?_, fun h => h.mono fun o s hp => ?_⟩
  · cases o with
    | ret v => have := (put_some v).1 hp; exact ⟨this.1, Cases_iff.2 this.2⟩
    | pan v => exact hp
  · cases o with
    | ret v => exact (put_some v).2 ⟨hp.1, Cases_iff.1 hp.2⟩
    | pan v => exact hp
theorem A_callJ {ts : Array TypeId} {l : List Operand} {g : FuncId} : AStep P ops ⟨none, .call ⟨.value (.func g), l.toArray, ts⟩, ty, pos, after, none⟩ ⟨n, m⟩ σ K X ↔ callB P g = true ∧ Spec P g (l.map (Fr.eval ⟨n, m⟩)) σ (CallN n m K X) := by
  have e : aCallee ⟨n, m⟩ (.call ⟨.value (.func g), l.toArray, ts⟩) = some (g, l.map (Fr.eval ⟨n, m⟩)) := by simp [aCallee, Fr.eval]
  unfold AStep
  simp only [aWanted, e]
  refine and_congr Iff.rfl ⟨fun h => h.mono fun o s hp => ?_, fun h => h.mono fun o s hp => ?_⟩
  · cases o with
    | ret v => exact (put_none v).1 hp
    | pan v => exact hp
  · cases o with
    | ret v => exact (put_none v).2 hp
    | pan v => exact hp
/-- A call of which it is known what it gives. -/
theorem CallK_of {g : FuncId} {args : List V} {v : V} (h : Spec P g args σ fun o s => s = σ ∧ o = .ret v) (hk : d < n ∧ Cases v fun v => K ⟨n, (d, v) :: m⟩ σ) : Spec P g args σ (CallK n d m K X) :=
  h.mono fun o s hp => by obtain ⟨rfl, rfl⟩ := hp; exact hk

theorem putA {v : V} : (∃ f', Fr.put ⟨n, m⟩ (some d) v = some f' ∧ K f' σ) ↔ d < n ∧ K ⟨n, (d, v) :: m⟩ σ := put_some v
theorem putB {v : V} : (∃ f', Fr.put ⟨n, m⟩ none v = some f' ∧ K f' σ) ↔ K ⟨n, m⟩ σ := put_none v

end laws

theorem init0 {n : Nat} : Fr.init n [] = ⟨n, []⟩ := rfl
theorem init1 {n : Nat} {a : V} : Fr.init n [a] = ⟨n, [(0, a)]⟩ := rfl
theorem init2 {n : Nat} {a b : V} : Fr.init n [a, b] = ⟨n, [(0, a), (1, b)]⟩ := rfl
theorem init3 {n : Nat} {a b c : V} : Fr.init n [a, b, c] = ⟨n, [(0, a), (1, b), (2, c)]⟩ := rfl
theorem init4 {n : Nat} {a b c d : V} : Fr.init n [a, b, c, d] = ⟨n, [(0, a), (1, b), (2, c), (3, d)]⟩ := rfl
theorem init5 {n : Nat} {a b c d e : V} : Fr.init n [a, b, c, d, e] = ⟨n, [(0, a), (1, b), (2, c), (3, d), (4, e)]⟩ := rfl
theorem init6 {n : Nat} {a b c d e f : V} : Fr.init n [a, b, c, d, e, f] = ⟨n, [(0, a), (1, b), (2, c), (3, d), (4, e), (5, f)]⟩ := rfl
theorem init7 {n : Nat} {a b c d e f g : V} : Fr.init n [a, b, c, d, e, f, g] = ⟨n, [(0, a), (1, b), (2, c), (3, d), (4, e), (5, f), (6, g)]⟩ := rfl
theorem init8 {n : Nat} {a b c d e f g h : V} : Fr.init n [a, b, c, d, e, f, g, h] = ⟨n, [(0, a), (1, b), (2, c), (3, d), (4, e), (5, f), (6, g), (7, h)]⟩ := rfl

theorem AP_cons2 {P : Program} {l : List Oper} {hs : List (List Nat)} {Q : Fr → H → Prop} {i : Nat} {rest : List Nat} {f : Fr} {σ : H} : AP P l hs Q (i :: rest) f σ ↔ match l[i]? with | some o => AStep P l.toArray o f σ (fun f' σ' => HeldL P l f σ σ' (hs.getD i []) ∧ AP P l hs Q rest f' σ') (fun _ _ => False) | none => False := Iff.rfl

theorem look_same {k : Nat} {v : V} {r : List (Nat × V)} : look ((k, v) :: r) k = v := by simp [look]

section ints
variable {P : Program} {t : TypeId} {k : IntKind} {a b : Int}
theorem B_add : aBin P .add t (.int k a) (.int k b) = some (.int k (k.wrap (a + b))) := by simp [aBin, aInt]
theorem B_sub : aBin P .sub t (.int k a) (.int k b) = some (.int k (k.wrap (a - b))) := by simp [aBin, aInt]
theorem B_mul : aBin P .mul t (.int k a) (.int k b) = some (.int k (k.wrap (a * b))) := by simp [aBin, aInt]
theorem B_and : aBin P .and t (.int k a) (.int k b) = some (.int k (Go.bits .and k a b)) := by simp [aBin, aInt]
theorem B_or : aBin P .or t (.int k a) (.int k b) = some (.int k (Go.bits .or k a b)) := by simp [aBin, aInt]
theorem B_xor : aBin P .xor t (.int k a) (.int k b) = some (.int k (Go.bits .xor k a b)) := by simp [aBin, aInt]
theorem B_andNot : aBin P .andNot t (.int k a) (.int k b) = some (.int k (Go.bits .andNot k a b)) := by simp [aBin, aInt]
theorem B_eql : aBin P .eql t (.int k a) (.int k b) = some (.bool (decide (a = b))) := by simp [aBin, aInt] <;> rfl
theorem B_neq : aBin P .neq t (.int k a) (.int k b) = some (.bool (decide (a ≠ b))) := by simp [aBin, aInt] <;> rfl
theorem B_lss : aBin P .lss t (.int k a) (.int k b) = some (.bool (decide (a < b))) := by simp [aBin, aInt]
theorem B_leq : aBin P .leq t (.int k a) (.int k b) = some (.bool (decide (a ≤ b))) := by simp [aBin, aInt]
theorem B_gtr : aBin P .gtr t (.int k a) (.int k b) = some (.bool (decide (a > b))) := by simp [aBin, aInt]
theorem B_geq : aBin P .geq t (.int k a) (.int k b) = some (.bool (decide (a ≥ b))) := by simp [aBin, aInt]
theorem B_rem (h : b ≠ 0) : aBin P .rem t (.int k a) (.int k b) = some (.int k (a.tmod b)) := by simp [aBin, aInt, h]
theorem B_quo (h : b ≠ 0) : aBin P .quo t (.int k a) (.int k b) = some (.int k (k.wrap (a.tdiv b))) := by simp [aBin, aInt, h]
theorem B_not {c : Bool} : aUn .not (.bool c) = some (.bool !c) := rfl
theorem B_neg : aUn .neg (.int k a) = some (.int k (k.wrap (0 - a))) := rfl
end ints

theorem wrap_i64 {x : Int} (h1 : -9223372036854775808 ≤ x) (h2 : x ≤ 9223372036854775807) : IntKind.i64.wrap x = x := by
  simp only [IntKind.wrap, IntKind.bits, IntKind.signed]
  simp only [Bool.true_and, ge_iff_le, decide_eq_true_eq, Nat.reduceSub]
  split <;> omega

/-! ### What depends on types -/

section types
variable {P : Program} {t e : TypeId} {sz : Nat} {σ : H}

theorem Len_ps (h : P.underlying t = some (.slice e)) {s : Nat} {xs : List V} : aLen P t σ (.ps s xs) = some (.int .i64 xs.length) := by simp [aLen, h]
theorem Len_sl (h : P.underlying t = some (.slice e)) {b o l s : Nat} : aLen P t σ (.sl b o l s) = some (.int .i64 l) := by simp [aLen, h]
theorem Len_snil (h : P.underlying t = some (.slice e)) : aLen P t σ .snil = some (.int .i64 0) := by simp [aLen, h]
theorem Ix_ps (h : P.underlying t = some (.slice e)) (hs : sizeT P e = some sz) {xs : List V} {k : IntKind} {i : Int} : aIndexAddr P t (.ps sz xs) (.int k i) = if 0 ≤ i then (xs[i.toNat]?).bind fun y => y.cells.map fun cs => .pp cs 0 else none := by simp [aIndexAddr, h, hs]
theorem Ix_sl (h : P.underlying t = some (.slice e)) (hs : sizeT P e = some sz) {b o l : Nat} {k : IntKind} {i : Int} : aIndexAddr P t (.sl b o l sz) (.int k i) = if 0 ≤ i ∧ i < l then some (.ptr b (o + i.toNat * sz)) else none := by simp [aIndexAddr, h, hs]
theorem Ld_pp {row : List V} {o : Nat} : aLoad P t σ (.pp row o) = loadRow P t row o := rfl
theorem Ld_ptr {b o : Nat} : aLoad P t σ (.ptr b o) = (rowAt σ b).bind fun cells => loadRow P t cells o := rfl
def scalarT (P : Program) (t : TypeId) : Bool := (P.underlying t).isSome && !aggT P t
theorem Row_one (h : scalarT P t = true) {cells : List V} {o : Nat} : loadRow P t cells o = cells[o]? := by
  simp only [scalarT, Bool.and_eq_true, Bool.not_eq_true'] at h
  obtain ⟨h1, h2⟩ := h
  unfold loadRow
  split
  · rename_i q; simp [q] at h1
  · simp [h2]
theorem Row_agg (h : aggT P t = true) (hs : sizeT P t = some sz) {cells : List V} {o : Nat} : loadRow P t cells o = if o + sz ≤ cells.length then some (.agg ((cells.drop o).take sz)) else none := by
  unfold loadRow
  split
  · rename_i q; simp [aggT, q] at h
  · simp [h, hs]

/-- A field's offset. -/
def offT (P : Program) (s : TypeId) (i : Nat) : Option Nat :=
  match P.underlying s with
  | some (.struct fields) =>
    match fields[i]? with
    | some f =>
      match sizeT P f.type with
      | some (_ + 1) => some f.offset
      | _ => none
    | none => none
  | _ => none
theorem Fa_ptr {s : TypeId} {i off : Nat} (h : offT P s i = some off) {b o : Nat} : aFieldAddr P s i (.ptr b o) = some (.ptr b (o + off)) := by
  unfold offT at h
  unfold aFieldAddr
  split at h <;> try (cases h; done)
  rename_i fields hu
  simp only [hu]
  split at h <;> try (cases h; done)
  rename_i f hf
  simp only [hf]
  split at h <;> try (cases h; done)
  rename_i hs
  cases h
  simp only [hs]
theorem Fa_pp {s : TypeId} {i off : Nat} (h : offT P s i = some off) {r : List V} {o : Nat} : aFieldAddr P s i (.pp r o) = some (.pp r (o + off)) := by
  unfold offT at h
  unfold aFieldAddr
  split at h <;> try (cases h; done)
  rename_i fields hu
  simp only [hu]
  split at h <;> try (cases h; done)
  rename_i f hf
  simp only [hf]
  split at h <;> try (cases h; done)
  rename_i hs
  cases h
  simp only [hs]
/-- A field's type and place. -/
def fieldT (P : Program) (s : TypeId) (i : Nat) : Option (TypeId × Nat) :=
  match P.underlying s with
  | some (.struct fields) => (fields[i]?).map fun f => (f.type, f.offset)
  | _ => none
theorem Fd_agg {s ft : TypeId} {i off : Nat} (h : fieldT P s i = some (ft, off)) {cs : List V} : aField P s i (.agg cs) = loadRow P ft cs off := by
  unfold fieldT at h
  unfold aField
  split at h <;> try (cases h; done)
  rename_i fields hu
  simp only [hu]
  obtain ⟨f, h1, h2⟩ := map_some h
  cases h2
  simp only [h1]

end types

/-! ### Cells of a value -/

theorem cells_int {k : IntKind} {n : Int} : (V.int k n).cells = some [.int k n] := rfl
theorem cells_bool {b : Bool} : (V.bool b).cells = some [.bool b] := rfl
theorem cells_str {s : ByteArray} : (V.str s).cells = some [.str s] := rfl
theorem cells_agg {cs : List V} : (V.agg cs).cells = some cs := rfl
theorem cells_ps {s : Nat} {xs : List V} : (V.ps s xs).cells = some [.ps s xs] := rfl
theorem cells_sl {b o l s : Nat} : (V.sl b o l s).cells = some [.sl b o l s] := rfl
theorem cells_snil : V.snil.cells = some [.snil] := rfl
theorem cells_ptr {b o : Nat} : (V.ptr b o).cells = some [.ptr b o] := rfl

end Go.Am
