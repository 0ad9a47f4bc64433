/- The abstract machine's values, and how they stand to the model's: definitions and plain lemmas. -/
import Derived.WalkKit
namespace Go.Am
open Go

/-- Values: 'ps' is a slice of which only the content is known and that nobody writes; 'pp' a pointer into such memory; 'sl' and 'ptr' lead into the machine's heap; of 'unk' nothing is known. -/
inductive V where
  | int (k : IntKind) (n : Int)
  | bool (b : Bool)
  | str (s : ByteArray)
  | nil
  | ptr (b off : Nat)
  | pp (row : List V) (off : Nat)
  | snil
  | sl (b off len sz : Nat)
  | ps (sz : Nat) (xs : List V)
  | agg (cs : List V)
  | tup (vs : List V)
  | fn (f : Nat) (cap : List V)
  | fnil
  | ifc (t : Nat) (v : V)
  | inil
  | mp (b : Nat)
  | mnil
  | unk
  deriving Inhabited

/-- The cells of a value; of what isn't known none are told. -/
def V.cells : V → Option (List V)
  | .agg cs => some cs
  | .unk => none
  | .tup _ => none
  | v => some [v]

/-- Cell j of element i. -/
def cellAt (xs : List V) (i j : Nat) : Option V := (xs[i]?).bind fun x => x.cells.bind fun cs => cs[j]?

theorem cellAt_ne {xs : List V} {i j : Nat} {c : V} (h : cellAt xs i j = some c) : xs ≠ [] := by
  intro e
  subst e
  simp [cellAt] at h

/-- What a name of the heap holds: a row of cells, or a map's entries. -/
inductive Ent where
  | row (cells : List V)
  | mapE (es : List (V × V))
  deriving Inhabited

abbrev H := List (Option Ent)

/-- Where a name lies. -/
abbrev Pl := Nat → Option (Nat × Nat)

/-- A value of the machine that names nothing stands for a value of the model. -/
inductive VN (w : World) (ro : Nat → Prop) : V → Value → Prop
  | int (k : IntKind) (n : Int) : VN w ro (.int k n) (.int k n)
  | bool (b : Bool) : VN w ro (.bool b) (.bool b)
  | str (s : ByteArray) : VN w ro (.str s) (.string s)
  | nil : VN w ro .nil (.pointer none)
  | pp {row : List V} {off B O : Nat} (f : Nat → Value) (hro : ro B) (hc : ∀ (j : Nat) (c : V), row[j]? = some c → w.cell? ⟨B, O + j, none⟩ = some (f j))
      (hv : ∀ (j : Nat) (c : V), row[j]? = some c → VN w ro c (f j)) : VN w ro (.pp row off) (.pointer (some ⟨B, O + off, none⟩))
  | snil : VN w ro .snil (.slice none 0 0)
  | ps {sz : Nat} {xs : List V} {A : Option Addr} {cap : Nat} (f : Nat → Nat → Value) (hl : xs.length ≤ cap) (hsz : ∀ (i : Nat) (x : V), xs[i]? = some x → ∃ cs, x.cells = some cs ∧ cs.length = sz)
      (hA : xs ≠ [] → ∃ a : Addr, A = some a ∧ a.spot = none ∧ ro a.block)
      (hc : ∀ a : Addr, A = some a → ∀ (i j : Nat) (c : V), cellAt xs i j = some c → w.cell? ⟨a.block, a.off + (i * sz + j), none⟩ = some (f i j))
      (hv : ∀ (i j : Nat) (c : V), cellAt xs i j = some c → VN w ro c (f i j)) :
      VN w ro (.ps sz xs) (.slice A xs.length cap)
  | agg {cs : List V} {vs : Array Value} (hl : cs.length = vs.size) (hv : ∀ (j : Nat) (c : V) (v : Value), cs[j]? = some c → vs[j]? = some v → VN w ro c v) : VN w ro (.agg cs) (.agg vs)
  | tup {cs : List V} {vs : Array Value} (hl : cs.length = vs.size) (hv : ∀ (j : Nat) (c : V) (v : Value), cs[j]? = some c → vs[j]? = some v → VN w ro c v) : VN w ro (.tup cs) (.tuple vs)
  | fn {f : Nat} {cs : List V} {vs : Array Value} (hl : cs.length = vs.size) (hv : ∀ (j : Nat) (c : V) (v : Value), cs[j]? = some c → vs[j]? = some v → VN w ro c v) : VN w ro (.fn f cs) (.func (.func f) #[] vs)
  | fnil : VN w ro .fnil .nilFunc
  | ifc {t : Nat} {v : V} {v' : Value} (h : VN w ro v v') : VN w ro (.ifc t v) (.iface t v')
  | inil : VN w ro .inil .nilIface
  | mnil : VN w ro .mnil (.map none)
  | unk (v : Value) : VN w ro .unk v

/-- A value of the machine stands for a value of the model. -/
inductive VR (w : World) (ro : Nat → Prop) (m : Pl) : V → Value → Prop
  | int (k : IntKind) (n : Int) : VR w ro m (.int k n) (.int k n)
  | bool (b : Bool) : VR w ro m (.bool b) (.bool b)
  | str (s : ByteArray) : VR w ro m (.str s) (.string s)
  | nil : VR w ro m .nil (.pointer none)
  | ptr {b off B D : Nat} (h : m b = some (B, D)) : VR w ro m (.ptr b off) (.pointer (some ⟨B, D + off, none⟩))
  | pp {row : List V} {off B O : Nat} (f : Nat → Value) (hro : ro B) (hc : ∀ (j : Nat) (c : V), row[j]? = some c → w.cell? ⟨B, O + j, none⟩ = some (f j))
      (hv : ∀ (j : Nat) (c : V), row[j]? = some c → VN w ro c (f j)) : VR w ro m (.pp row off) (.pointer (some ⟨B, O + off, none⟩))
  | snil : VR w ro m .snil (.slice none 0 0)
  | sl {b off len sz B D cap : Nat} {cs : Array Value} {e : TypeId} (h : m b = some (B, D)) (hcap : len ≤ cap) (hb : w.heap[B]? = some (.cells cs e (0, 0))) (hs : D + off + cap * sz ≤ cs.size) :
      VR w ro m (.sl b off len sz) (.slice (some ⟨B, D + off, none⟩) len cap)
  | ps {sz : Nat} {xs : List V} {A : Option Addr} {cap : Nat} (f : Nat → Nat → Value) (hl : xs.length ≤ cap) (hsz : ∀ (i : Nat) (x : V), xs[i]? = some x → ∃ cs, x.cells = some cs ∧ cs.length = sz)
      (hA : xs ≠ [] → ∃ a : Addr, A = some a ∧ a.spot = none ∧ ro a.block)
      (hc : ∀ a : Addr, A = some a → ∀ (i j : Nat) (c : V), cellAt xs i j = some c → w.cell? ⟨a.block, a.off + (i * sz + j), none⟩ = some (f i j))
      (hv : ∀ (i j : Nat) (c : V), cellAt xs i j = some c → VN w ro c (f i j)) :
      VR w ro m (.ps sz xs) (.slice A xs.length cap)
  | agg {cs : List V} {vs : Array Value} (hl : cs.length = vs.size) (hv : ∀ (j : Nat) (c : V) (v : Value), cs[j]? = some c → vs[j]? = some v → VR w ro m c v) : VR w ro m (.agg cs) (.agg vs)
  | tup {cs : List V} {vs : Array Value} (hl : cs.length = vs.size) (hv : ∀ (j : Nat) (c : V) (v : Value), cs[j]? = some c → vs[j]? = some v → VR w ro m c v) : VR w ro m (.tup cs) (.tuple vs)
  | fn {f : Nat} {cs : List V} {vs : Array Value} (hl : cs.length = vs.size) (hv : ∀ (j : Nat) (c : V) (v : Value), cs[j]? = some c → vs[j]? = some v → VR w ro m c v) : VR w ro m (.fn f cs) (.func (.func f) #[] vs)
  | fnil : VR w ro m .fnil .nilFunc
  | ifc {t : Nat} {v : V} {v' : Value} (h : VR w ro m v v') : VR w ro m (.ifc t v) (.iface t v')
  | inil : VR w ro m .inil .nilIface
  | mp {b B D : Nat} (h : m b = some (B, D)) : VR w ro m (.mp b) (.map (some B))
  | mnil : VR w ro m .mnil (.map none)
  | unk (v : Value) : VR w ro m .unk v

/-- What the world must keep for values to stand: what nobody writes, and the size of each row. -/
structure Keeps (w : World) (ro : Nat → Prop) (m : Pl) (w' : World) (ro' : Nat → Prop) (m' : Pl) : Prop where
  kro : ∀ B : Nat, ro B → ro' B
  kcell : ∀ (B o : Nat) (v : Value), ro B → w.cell? ⟨B, o, none⟩ = some v → w'.cell? ⟨B, o, none⟩ = some v
  km : ∀ (b : Nat) (p : Nat × Nat), m b = some p → m' b = some p
  kshape : ∀ (b B D : Nat) (cs : Array Value) (e : TypeId), m b = some (B, D) → w.heap[B]? = some (.cells cs e (0, 0)) → ∃ cs' : Array Value, w'.heap[B]? = some (.cells cs' e (0, 0)) ∧ cs'.size = cs.size

theorem Keeps.refl (w : World) (ro : Nat → Prop) (m : Pl) : Keeps w ro m w ro m :=
  ⟨fun _ h => h, fun _ _ _ _ h => h, fun _ _ h => h, fun _ _ _ cs _ _ h => ⟨cs, h, rfl⟩⟩

theorem Keeps.trans {w w1 w2 : World} {ro ro1 ro2 : Nat → Prop} {m m1 m2 : Pl} (h : Keeps w ro m w1 ro1 m1) (k : Keeps w1 ro1 m1 w2 ro2 m2) : Keeps w ro m w2 ro2 m2 :=
  ⟨fun B hB => k.kro B (h.kro B hB), fun B o v hB hv => k.kcell B o v (h.kro B hB) (h.kcell B o v hB hv), fun b p hp => k.km b p (h.km b p hp), fun b B D cs e hm hc => by
    obtain ⟨c1, h1, e1⟩ := h.kshape b B D cs e hm hc
    obtain ⟨c2, h2, e2⟩ := k.kshape b B D c1 e (h.km b _ hm) h1
    exact ⟨c2, h2, e2.trans e1⟩⟩

theorem VN.keep {w w' : World} {ro ro' : Nat → Prop} (kro : ∀ B : Nat, ro B → ro' B) (kcell : ∀ (B o : Nat) (v : Value), ro B → w.cell? ⟨B, o, none⟩ = some v → w'.cell? ⟨B, o, none⟩ = some v) {v : V} {u : Value} (h : VN w ro v u) : VN w' ro' v u := by
  induction h with
  | int k n => exact .int k n
  | bool b => exact .bool b
  | str s => exact .str s
  | nil => exact .nil
  | pp f hro hc _ ih => exact .pp f (kro _ hro) (fun j c hj => kcell _ _ _ hro (hc j c hj)) ih
  | snil => exact .snil
  | ps f hl hsz hA hc _ ih =>
    refine .ps f hl hsz (fun hne => ?_) (fun a ha i j c hx => ?_) ih
    · obtain ⟨a, h1, h2, h3⟩ := hA hne
      exact ⟨a, h1, h2, kro _ h3⟩
    · have hne : _ ≠ [] := cellAt_ne hx
      obtain ⟨a', h1, _, h3⟩ := hA hne
      obtain rfl : a = a' := by rw [ha] at h1; exact Option.some.inj h1
      exact kcell _ _ _ h3 (hc a ha i j c hx)
  | agg hl _ ih => exact .agg hl ih
  | tup hl _ ih => exact .tup hl ih
  | fn hl _ ih => exact .fn hl ih
  | fnil => exact .fnil
  | ifc _ ih => exact .ifc ih
  | inil => exact .inil
  | mnil => exact .mnil
  | unk v => exact .unk v

/-- What names nothing stands wherever names lie. -/
theorem VN.lift {w : World} {ro : Nat → Prop} {m : Pl} {v : V} {u : Value} (h : VN w ro v u) : VR w ro m v u := by
  induction h with
  | int k n => exact .int k n
  | bool b => exact .bool b
  | str s => exact .str s
  | nil => exact .nil
  | pp f hro hc hv _ => exact .pp f hro hc hv
  | snil => exact .snil
  | ps f hl hsz hA hc hv _ => exact .ps f hl hsz hA hc hv
  | agg hl _ ih => exact .agg hl ih
  | tup hl _ ih => exact .tup hl ih
  | fn hl _ ih => exact .fn hl ih
  | fnil => exact .fnil
  | ifc _ ih => exact .ifc ih
  | inil => exact .inil
  | mnil => exact .mnil
  | unk v => exact .unk v

theorem VR.keep {w w' : World} {ro ro' : Nat → Prop} {m m' : Pl} (k : Keeps w ro m w' ro' m') {v : V} {u : Value} (h : VR w ro m v u) : VR w' ro' m' v u := by
  induction h with
  | int k n => exact .int k n
  | bool b => exact .bool b
  | str s => exact .str s
  | nil => exact .nil
  | ptr h => exact .ptr (k.km _ _ h)
  | pp f hro hc hv => exact .pp f (k.kro _ hro) (fun j c hj => k.kcell _ _ _ hro (hc j c hj)) (fun j c hj => (hv j c hj).keep k.kro k.kcell)
  | snil => exact .snil
  | sl h hcap hb hs =>
    obtain ⟨cs', h', hsz⟩ := k.kshape _ _ _ _ _ h hb
    exact .sl (k.km _ _ h) hcap h' (by omega)
  | ps f hl hsz hA hc hv =>
    refine .ps f hl hsz (fun hne => ?_) (fun a ha i j c hx => ?_) (fun i j c hx => (hv i j c hx).keep k.kro k.kcell)
    · obtain ⟨a, h1, h2, h3⟩ := hA hne
      exact ⟨a, h1, h2, k.kro _ h3⟩
    · have hne : _ ≠ [] := cellAt_ne hx
      obtain ⟨a', h1, _, h3⟩ := hA hne
      obtain rfl : a = a' := by rw [ha] at h1; exact Option.some.inj h1
      exact k.kcell _ _ _ h3 (hc a ha i j c hx)
  | agg hl _ ih => exact .agg hl ih
  | tup hl _ ih => exact .tup hl ih
  | fn hl _ ih => exact .fn hl ih
  | fnil => exact .fnil
  | ifc _ ih => exact .ifc ih
  | inil => exact .inil
  | mp h => exact .mp (k.km _ _ h)
  | mnil => exact .mnil
  | unk v => exact .unk v

/-- The cells of a value stand for the cells of the model's. -/
theorem VR.cells {w : World} {ro : Nat → Prop} {m : Pl} {v : V} {u : Value} (h : VR w ro m v u) {cs : List V} (hc : v.cells = some cs) :
    cs.length = u.cells.size ∧ ∀ (j : Nat) (c : V) (x : Value), cs[j]? = some c → u.cells[j]? = some x → VR w ro m c x := by
  have h0 := h
  cases h
  case agg hl hv => simp only [V.cells, Option.some.injEq] at hc; subst hc; exact ⟨hl, hv⟩
  case tup => simp [V.cells] at hc
  case unk => simp [V.cells] at hc
  all_goals
    simp only [V.cells, Option.some.injEq] at hc
    subst hc
    refine ⟨rfl, fun j c x h1 h2 => ?_⟩
    match j, h1, h2 with
    | 0, h1, h2 =>
      simp only [List.getElem?_cons_zero, Option.some.injEq] at h1
      subst h1
      simp only [Value.cells, List.getElem?_toArray, List.getElem?_cons_zero, Option.some.injEq] at h2
      subst h2
      exact h0
    | j + 1, h1, _ => simp at h1

end Go.Am
