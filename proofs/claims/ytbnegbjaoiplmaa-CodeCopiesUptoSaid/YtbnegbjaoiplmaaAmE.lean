/- The abstract machine's operations, each with what it says of the model's: signs of two, new rows, slices, append. -/
import Derived.Test.YtbnegbjaoiplmaaAmD
set_option linter.unusedVariables false
set_option linter.unusedSimpArgs false
namespace Go.Am
open Go

theorem aInt_ok {P : Program} {w : World} {ro : Nat → Prop} {m : Pl} {op : BinOp} {k : IntKind} {a b : Int} {v : V} (h : aInt op k a b = some v) (hs1 : op ≠ .shl) (hs2 : op ≠ .shr) (t : TypeId) (x y : Operand) :
    ∃ v', (do eqGuard op t x y (.int k a) (.int k b); binOp op t (.int k a) (.int k b) : Sem Value).run P w = .ok v' w ∧ VR w ro m v v' := by
  cases op <;> simp only [aInt] at h <;> first | (exact absurd rfl hs1) | (exact absurd rfl hs2) | (cases h; done) | skip
  case add => cases h; exact ⟨.int k (k.wrap (a + b)), by simp [binOp, Op.intArith, eqGuard_at_int], .int _ _⟩
  case sub => cases h; exact ⟨.int k (k.wrap (a - b)), by simp [binOp, Op.intArith, eqGuard_at_int], .int _ _⟩
  case mul => cases h; exact ⟨.int k (k.wrap (a * b)), by simp [binOp, Op.intArith, eqGuard_at_int], .int _ _⟩
  case quo =>
    split at h
    · cases h
    · rename_i hb; cases h; exact ⟨.int k (k.wrap (a.tdiv b)), by simp [binOp, Op.intDiv, eqGuard_at_int, hb], .int _ _⟩
  case rem =>
    split at h
    · cases h
    · rename_i hb; cases h; exact ⟨.int k (a.tmod b), by simp [binOp, Op.intDiv, eqGuard_at_int, hb], .int _ _⟩
  case and => cases h; exact ⟨.int k (Go.bits .and k a b), by simp [binOp, eqGuard_at_int, intBits_and], .int _ _⟩
  case or => cases h; exact ⟨.int k (Go.bits .or k a b), by simp [binOp, eqGuard_at_int, intBits_or], .int _ _⟩
  case xor => cases h; exact ⟨.int k (Go.bits .xor k a b), by simp [binOp, eqGuard_at_int, intBits_xor], .int _ _⟩
  case andNot => cases h; exact ⟨.int k (Go.bits .andNot k a b), by simp [binOp, eqGuard_at_int, intBits_andNot], .int _ _⟩
  case eql => cases h; exact ⟨.bool (a == b), by simp [binOp, Op.intCmp, eqGuard_at_int], .bool _⟩
  case neq => cases h; exact ⟨.bool (a != b), by simp [binOp, Op.intCmp, eqGuard_at_int], .bool _⟩
  case lss => cases h; exact ⟨.bool (decide (a < b)), by simp [binOp, Op.intCmp, eqGuard_at_int], .bool _⟩
  case leq => cases h; exact ⟨.bool (decide (a ≤ b)), by simp [binOp, Op.intCmp, eqGuard_at_int], .bool _⟩
  case gtr => cases h; exact ⟨.bool (decide (a > b)), by simp [binOp, Op.intCmp, eqGuard_at_int], .bool _⟩
  case geq => cases h; exact ⟨.bool (decide (a ≥ b)), by simp [binOp, Op.intCmp, eqGuard_at_int], .bool _⟩

/-- The pairs of which it is asked whether they are alike, but for numbers and texts. -/
inductive Pair (P : Program) (t : TypeId) : V → V → Prop
  | bool (a b : Bool) : Pair P t (.bool a) (.bool b)
  | nn : Pair P t .nil .nil
  | np (b o : Nat) : Pair P t .nil (.ptr b o)
  | nq (r : List V) (o : Nat) : Pair P t .nil (.pp r o)
  | pn (b o : Nat) : Pair P t (.ptr b o) .nil
  | qn (r : List V) (o : Nat) : Pair P t (.pp r o) .nil
  | ss : Pair P t .snil .snil
  | ls (b o l z : Nat) : Pair P t (.sl b o l z) .snil
  | sl (b o l z : Nat) : Pair P t .snil (.sl b o l z)
  | qs (z : Nat) (y : V) (ys : List V) : Pair P t (.ps z (y :: ys)) .snil
  | sq (z : Nat) (y : V) (ys : List V) : Pair P t .snil (.ps z (y :: ys))
  | mm : Pair P t .mnil .mnil
  | mn (b : Nat) : Pair P t (.mp b) .mnil
  | nm (b : Nat) : Pair P t .mnil (.mp b)
  | agg (cs ds : List V) (h : P.eqGuardType P.depth t = false) : Pair P t (.agg cs) (.agg ds)

def pairB (P : Program) (t : TypeId) : V → V → Bool
  | .bool _, .bool _ => true
  | .nil, .nil => true
  | .nil, .ptr _ _ => true
  | .nil, .pp _ _ => true
  | .ptr _ _, .nil => true
  | .pp _ _, .nil => true
  | .snil, .snil => true
  | .sl _ _ _ _, .snil => true
  | .snil, .sl _ _ _ _ => true
  | .ps _ (_ :: _), .snil => true
  | .snil, .ps _ (_ :: _) => true
  | .mnil, .mnil => true
  | .mp _, .mnil => true
  | .mnil, .mp _ => true
  | .agg _, .agg _ => !P.eqGuardType P.depth t
  | _, _ => false

theorem pairB_ok {P : Program} {t : TypeId} {x y : V} (h : pairB P t x y = true) : Pair P t x y := by
  unfold pairB at h
  split at h <;> first | (constructor; done) | (exact .agg _ _ (by simpa using h)) | (cases h)

theorem Pair.run {P : Program} {w : World} {ro : Nat → Prop} {m : Pl} {t : TypeId} {a b : V} (hp : Pair P t a b) (x y : Operand) {a' b' : Value} (ha : VR w ro m a a') (hb : VR w ro m b b') {r : Bool} (h : aEq P 10000 t a b = some r) :
    (do eqGuard .eql t x y a' b'; binOp .eql t a' b' : Sem Value).run P w = .ok (.bool r) w ∧ (do eqGuard .neq t x y a' b'; binOp .neq t a' b' : Sem Value).run P w = .ok (.bool (!r)) w := by
  have he := aEq_ok 10000 ha hb h
  have e : (Op.equal t a' b').run P w = .ok r w := he
  cases hp
  case agg hg =>
    cases ha; cases hb
    rw [Sem.run_bind, Sem.run_bind, run_eqGuard_agg w .eql t x y _ _ hg, run_eqGuard_agg w .neq t x y _ _ hg]
    simp only [Result.andThen_ok, run_eql_struct, run_neq_struct, he, and_self]
  case qs =>
    cases hb
    obtain ⟨a1, n, c, rfl⟩ := ha.ps_addr
    constructor <;> simp [eqGuard, binOp, e]
  case sq =>
    cases ha
    obtain ⟨a1, n, c, rfl⟩ := hb.ps_addr
    constructor <;> simp [eqGuard, binOp, e]
  all_goals (cases ha; cases hb; constructor <;> simp [eqGuard, binOp, e])

def aBin (P : Program) (op : BinOp) (t : TypeId) (x y : V) : Option V :=
  match x, y with
  | .int k a, .int k' b =>
    if op = .shl then (if b < 0 then none else some (.int k (k.wrap (a * 2 ^ (min b.toNat k.bits)))))
    else if op = .shr then (if b < 0 then none else some (.int k (a.fdiv (2 ^ (min b.toNat k.bits)))))
    else if k = k' then aInt op k a b else none
  | .str a, .str b =>
    match op with
    | .eql => some (.bool (a.toList == b.toList))
    | .neq => some (.bool (!(a.toList == b.toList)))
    | .add => if a.size + b.size ≤ 9223372036854775807 then some (.str (a ++ b)) else none
    | _ => none
  | x, y =>
    if pairB P t x y then
      match op with
      | .eql => (aEq P 10000 t x y).map .bool
      | .neq => (aEq P 10000 t x y).map fun r => .bool (!r)
      | _ => none
    else none

theorem aBin_ok {P : Program} {w : World} {ro : Nat → Prop} {m : Pl} {op : BinOp} {t : TypeId} {a b v : V} (x y : Operand) {a' b' : Value} (ha : VR w ro m a a') (hb : VR w ro m b b') (h : aBin P op t a b = some v) :
    ∃ v', (do eqGuard op t x y a' b'; binOp op t a' b' : Sem Value).run P w = .ok v' w ∧ VR w ro m v v' := by
  unfold aBin at h
  split at h
  case h_1 k a k' b =>
    cases ha; cases hb
    split at h
    · rename_i hop; subst hop
      split at h
      · cases h
      · rename_i hlt; cases h
        exact ⟨.int k (k.wrap (a * 2 ^ (min b.toNat k.bits))), by simp [binOp, Op.shift, eqGuard_at_int, hlt], .int _ _⟩
    · rename_i h1
      split at h
      · rename_i hop; subst hop
        split at h
        · cases h
        · rename_i hlt; cases h
          exact ⟨.int k (a.fdiv (2 ^ (min b.toNat k.bits))), by simp [binOp, Op.shift, eqGuard_at_int, hlt], .int _ _⟩
      · rename_i h2
        split at h
        · rename_i hk; subst hk; exact aInt_ok h h1 h2 t x y
        · cases h
  case h_2 a b =>
    cases ha; cases hb
    split at h
    · cases h; exact ⟨.bool (a.toList == b.toList), by simp [binOp, Op.stringOp, eqGuard], .bool _⟩
    · cases h; exact ⟨.bool (!(a.toList == b.toList)), by simp [binOp, Op.stringOp, eqGuard], .bool _⟩
    · split at h
      · rename_i hs; cases h
        have : ¬ (9223372036854775807 < ((a.size : Int) + (b.size : Int))) := by omega
        exact ⟨.string (a ++ b), by simp [binOp, Op.stringOp, eqGuard, this], .str _⟩
      · cases h
    · cases h
  case h_3 =>
    split at h
    case isFalse => cases h
    rename_i hp
    split at h
    · cases he : aEq P 10000 t a b with
      | none => simp [he] at h
      | some r => simp [he] at h; subst h; exact ⟨_, ((pairB_ok hp).run x y ha hb he).1, .bool _⟩
    · cases he : aEq P 10000 t a b with
      | none => simp [he] at h
      | some r => simp [he] at h; subst h; exact ⟨_, ((pairB_ok hp).run x y ha hb he).2, .bool _⟩
    · cases h

def aUn (op : UnOp) (x : V) : Option V :=
  match op, x with
  | .not, .bool b => some (.bool !b)
  | .neg, .int k n => some (.int k (k.wrap (0 - n)))
  | .xor, .int k n => some (.int k (Go.bits .xor k (if k.signed then -1 else k.max) n))
  | _, _ => none

theorem aUn_ok {P : Program} {w : World} {ro : Nat → Prop} {m : Pl} {op : UnOp} {x v : V} {x' : Value} (hx : VR w ro m x x') (h : aUn op x = some v) :
    ∃ v', (Op.unary op x').run P w = .ok v' w ∧ VR w ro m v v' := by
  unfold aUn at h
  split at h
  · cases hx; cases h; exact ⟨.bool _, by simp [Op.unary], .bool _⟩
  · cases hx; cases h; exact ⟨.int _ _, by simp [Op.unary, Op.intArith], .int _ _⟩
  · cases hx; cases h; exact ⟨.int _ _, by simp [Op.unary, intBits_xor], .int _ _⟩
  · cases h

def aConv (P : Program) (src dst : TypeId) (x : V) : Option V :=
  match P.underlying src, P.underlying dst, x with
  | some _, some (.int k), .int _ n => some (.int k (k.wrap n))
  | some (.string), some .string, .str s => some (.str s)
  | _, _, _ => none

theorem aConv_ok {P : Program} {w : World} {ro : Nat → Prop} {m : Pl} {src dst : TypeId} {x v : V} {x' : Value} (hx : VR w ro m x x') (h : aConv P src dst x = some v) :
    ∃ v', (convert src dst x').run P w = .ok v' w ∧ VR w ro m v v' := by
  unfold aConv at h
  split at h
  · rename_i hs hd
    cases hx; cases h; exact ⟨.int _ _, by simp [convert, run_underlying hs, run_underlying hd, Conv.intToInt], .int _ _⟩
  · rename_i hs hd
    cases hx; cases h; exact ⟨.string _, by simp [convert, run_underlying hs, run_underlying hd], .str _⟩
  · cases h

end Go.Am
