/- The abstract machine's operations, each with what it says of the model's: frames, loads and stores, addresses, new rows. -/
import Derived.Test.YtbnegbjaoiplmaaAmB
import Derived.Great.BuildSlice
set_option linter.unusedVariables false
set_option linter.unusedSimpArgs false
namespace Go.Am
open Go

/-! ### Frames -/

def look : List (Nat × V) → Nat → V
  | [], _ => .unk
  | (k, v) :: r, t => if k = t then v else look r t

structure Fr where
  n : Nat
  m : List (Nat × V)

def Fr.get (f : Fr) (t : Nat) : V := look f.m t

def Fr.put (f : Fr) (d : Option Nat) (v : V) : Option Fr :=
  match d with
  | none => some f
  | some d => if d < f.n then some { f with m := (d, v) :: f.m } else none

/-- A frame of the machine stands for one of the model. -/
structure FrOk (w : World) (ro : Nat → Prop) (m : Pl) (f : Fr) (a : Act) : Prop where
  n : a.tmps.size = f.n
  d : a.defers = []
  v : ∀ t, VR w ro m (f.get t) (a.tmps.getD t undef)

theorem FrOk.keep {w w' : World} {ro ro' : Nat → Prop} {m m' : Pl} (k : Keeps w ro m w' ro' m') {f : Fr} {a : Act} (h : FrOk w ro m f a) : FrOk w' ro' m' f a := ⟨h.n, h.d, fun t => (h.v t).keep k⟩

theorem FrOk.put {w : World} {ro : Nat → Prop} {m : Pl} {f f' : Fr} {a : Act} (h : FrOk w ro m f a) {d : Option Nat} {v : V} {v' : Value} (hv : VR w ro m v v') (hp : f.put d v = some f') : FrOk w ro m f' (a.put d v') := by
  cases d with
  | none => simp only [Fr.put, Option.some.injEq] at hp; subst hp; exact h
  | some d =>
    simp only [Fr.put] at hp
    split at hp
    · rename_i hd
      simp only [Option.some.injEq] at hp
      subst hp
      refine ⟨by simp [Act.put, h.n], h.d, fun t => ?_⟩
      simp only [Fr.get, look, Act.put]
      by_cases e : d = t
      · subst e
        simp only [if_true, Array.getD_eq_getD_getElem?, Array.getElem?_setIfInBounds_self]
        rw [if_pos (by rw [h.n]; exact hd)]
        exact hv
      · rw [if_neg e]
        have := h.v t
        simp only [Array.getD_eq_getD_getElem?] at this ⊢
        rw [Array.getElem?_setIfInBounds_ne e]
        exact this
    · cases hp

/-- A constant. -/
def ofVal : Value → V
  | .int k n => .int k n
  | .bool b => .bool b
  | .string s => .str s
  | .pointer none => .nil
  | .slice none 0 0 => .snil
  | .map none => .mnil
  | .nilFunc => .fnil
  | .nilIface => .inil
  | .tuple vs => if vs.size = 0 then .tup [] else .unk
  | _ => .unk

theorem VR.ofVal (w : World) (ro : Nat → Prop) (m : Pl) (v : Value) : VR w ro m (ofVal v) v := by
  unfold Am.ofVal
  split
  · exact .int _ _
  · exact .bool _
  · exact .str _
  · exact .nil
  · exact .snil
  · exact .mnil
  · exact .fnil
  · exact .inil
  · split
    · rename_i vs h
      exact .tup (by simp [h]) (fun j c v h1 => by simp at h1)
    · exact .unk _
  · exact .unk _

def Fr.eval (f : Fr) : Operand → V
  | .tmp t => f.get t
  | .const v => ofVal v
  | .global _ => .unk
  | .func g => .fn g []

theorem FrOk.eval {w : World} {ro : Nat → Prop} {m : Pl} {f : Fr} {a : Act} (h : FrOk w ro m f a) (x : Operand) : VR w ro m (f.eval x) (a.eval x) := by
  cases x with
  | tmp t => exact h.v t
  | const v => exact .ofVal w ro m v
  | global g => exact .unk _
  | func g => exact .fn rfl (fun j c v h1 => by simp at h1)

/-! ### What an operation gives -/

/-- The names stay where they lay; one more may have got a place. -/
def Grow (nm : Nat) (m m' : Pl) : Prop := (∀ b p, m b = some p → m' b = some p) ∧ ∀ b, b ≠ nm → m' b = m b

theorem Grow.refl (nm : Nat) (m : Pl) : Grow nm m m := ⟨fun _ _ h => h, fun _ _ => rfl⟩
theorem Grow.put {nm : Nat} {m : Pl} (h : m nm = none) (p : Nat × Nat) : Grow nm m (m.put nm p) := ⟨Pl.put_keep p h, fun b hb => Pl.put_other m p hb⟩

def Fine (P : Program) (s : Sem Value) (w : World) (ro : Nat → Prop) (m : Pl) (nm : Nat) (v : V) (σ' : H) : Prop :=
  ∃ v' w' m', s.run P w = .ok v' w' ∧ VR w' ro m' v v' ∧ HeapOk w' ro m' σ' ∧ Ext w ro m w' ro m' ∧ Grow nm m m'

theorem Fine.same {P : Program} {s : Sem Value} {w : World} {ro : Nat → Prop} {m : Pl} {nm : Nat} {v : V} {σ : H} {v' : Value} (hσ : HeapOk w ro m σ) (h : s.run P w = .ok v' w) (hv : VR w ro m v v') : Fine P s w ro m nm v σ :=
  ⟨v', w, m, h, hv, hσ, Ext.refl w ro m, Grow.refl nm m⟩

theorem add_none (B O n : Nat) : (⟨B, O, none⟩ : Addr).add n = ⟨B, O + n, none⟩ := by
  unfold Addr.add
  split
  · rename_i h; subst h; rfl
  · rfl

/-! ### Loads -/

def aggT (P : Program) (t : TypeId) : Bool :=
  match P.underlying t with
  | some (.struct _) => true
  | some (.array _ _) => true
  | _ => false

def sizeT (P : Program) (t : TypeId) : Option Nat := (P.info? t).map (·.size)

def loadRow (P : Program) (t : TypeId) (cells : List V) (off : Nat) : Option V :=
  match P.underlying t with
  | none => none
  | some _ =>
    if aggT P t then
      match sizeT P t with
      | some s => if off + s ≤ cells.length then some (.agg ((cells.drop off).take s)) else none
      | none => none
    else cells[off]?

/-- Cells of the machine stand for cells of memory from a place on. -/
def Lies (w : World) (ro : Nat → Prop) (m : Pl) (B O : Nat) (cells : List V) : Prop :=
  ∀ (j : Nat) (c : V), cells[j]? = some c → ∃ v : Value, w.cell? ⟨B, O + j, none⟩ = some v ∧ VR w ro m c v

theorem Lies.fn {w : World} {ro : Nat → Prop} {m : Pl} {B O : Nat} {cells : List V} (h : Lies w ro m B O cells) : ∃ f : Nat → Value, ∀ (j : Nat) (c : V), cells[j]? = some c → w.cell? ⟨B, O + j, none⟩ = some (f j) ∧ VR w ro m c (f j) := by
  refine ⟨fun j => (w.cell? ⟨B, O + j, none⟩).getD undef, fun j c hj => ?_⟩
  obtain ⟨v, h1, h2⟩ := h j c hj
  simp only [h1, Option.getD_some, true_and]
  exact h2

theorem run_aggT {P : Program} {t : TypeId} {d : TypeDesc} (h : P.underlying t = some d) (w : World) : (isAgg t).run P w = .ok (aggT P t) w := by
  unfold isAgg aggT
  rw [Sem.run_bind, run_underlying h w, h]
  cases d <;> rfl

theorem run_sizeOf {P : Program} {t : TypeId} {s : Nat} (h : sizeT P t = some s) (w : World) : (sizeOf t).run P w = .ok s w := by
  unfold sizeT at h
  cases hi : P.info? t with
  | none => simp [hi] at h
  | some i =>
    simp [hi] at h
    simp [sizeOf, typeInfo, hi, h]

theorem loadRow_run {P : Program} {w : World} {ro : Nat → Prop} {m : Pl} {B O : Nat} {cells : List V} (h : Lies w ro m B O cells) {t : TypeId} {off : Nat} {x : V} (hl : loadRow P t cells off = some x) :
    ∃ x', (loadVar t ⟨B, O + off, none⟩).run P w = .ok x' w ∧ VR w ro m x x' := by
  unfold loadRow at hl
  cases hu : P.underlying t with
  | none => simp [hu] at hl
  | some d =>
    simp only [hu] at hl
    cases ha : aggT P t with
    | false =>
      simp only [ha, Bool.false_eq_true, if_false] at hl
      obtain ⟨v, h1, h2⟩ := h off x hl
      exact ⟨v, by simp [loadVar, run_aggT hu, ha, h1], h2⟩
    | true =>
      simp only [ha, if_true] at hl
      cases hs : sizeT P t with
      | none => simp [hs] at hl
      | some s =>
        simp only [hs] at hl
        split at hl
        · rename_i hle
          simp only [Option.some.injEq] at hl
          subst hl
          obtain ⟨f, hf⟩ := h.fn
          have hr := run_loadCells (P := P) w ⟨B, O + off, none⟩ s (fun j => f (off + j)) (fun j hj => by
            rw [add_none, Nat.add_assoc]
            exact (hf (off + j) _ (List.getElem?_eq_getElem (by omega))).1)
          refine ⟨.agg (List.map (fun j => f (off + j)) (List.range s)).toArray, by simp only [loadVar, Sem.run_bind, run_aggT hu, ha, Result.andThen_ok, if_true, run_sizeOf hs, hr, Sem.run_pure], .agg ?_ ?_⟩
          · simp; omega
          · intro j c v hj hv
            simp only [List.getElem?_take, List.getElem?_drop] at hj
            split at hj
            · rename_i hjs
              simp [hjs] at hv
              subst hv
              exact (hf (off + j) c hj).2
            · cases hj
        · cases hl

def rowAt (σ : H) (b : Nat) : Option (List V) :=
  match σ[b]? with
  | some (some (.row cells)) => some cells
  | _ => none

theorem rowAt_some {σ : H} {b : Nat} {cells : List V} (h : rowAt σ b = some cells) : σ[b]? = some (some (.row cells)) := by
  unfold rowAt at h
  split at h
  · rename_i c hc; simp only [Option.some.injEq] at h; subst h; exact hc
  · cases h

theorem HeapOk.lies {w : World} {ro : Nat → Prop} {m : Pl} {σ : H} (h : HeapOk w ro m σ) {b : Nat} {cells : List V} (hb : σ[b]? = some (some (.row cells))) {B D : Nat} (hm : m b = some (B, D)) : Lies w ro m B D cells := by
  obtain ⟨B', D', cs, e, h1, h2, h3, h4⟩ := h.row b cells hb
  obtain ⟨rfl, rfl⟩ : B' = B ∧ D' = D := by rw [hm] at h1; injection h1 with h1; injection h1 with a b; exact ⟨a.symm, b.symm⟩
  intro j c hj
  obtain ⟨v, h5, h6⟩ := h4 j c hj
  exact ⟨v, by simp [World.cell?, h3, h5], h6⟩

def aLoad (P : Program) (t : TypeId) (σ : H) : V → Option V
  | .ptr b off => (rowAt σ b).bind fun cells => loadRow P t cells off
  | .pp row off => loadRow P t row off
  | _ => none

theorem aLoad_same {P : Program} {w : World} {ro : Nat → Prop} {m : Pl} {σ : H} (hσ : HeapOk w ro m σ) {a : V} {a' : Value} (ha : VR w ro m a a') {t : TypeId} {x : V} (h : aLoad P t σ a = some x) :
    ∃ b x', a' = .pointer (some b) ∧ (loadVar t b).run P w = .ok x' w ∧ VR w ro m x x' := by
  cases ha <;> simp only [aLoad] at h <;> try cases h
  case ptr b off B D hm =>
    cases hr : rowAt σ b with
    | none => simp [hr] at h
    | some cells =>
      simp only [hr, Option.bind_some] at h
      obtain ⟨x', h1, h2⟩ := loadRow_run (hσ.lies (rowAt_some hr) hm) h
      exact ⟨_, x', rfl, h1, h2⟩
  case pp row off B O f hro hc hv =>
    obtain ⟨x', h1, h2⟩ := loadRow_run (B := B) (O := O) (fun j c hj => ⟨f j, hc j c hj, (hv j c hj).lift⟩) h
    exact ⟨_, x', rfl, h1, h2⟩

theorem aLoad_ok {P : Program} {w : World} {ro : Nat → Prop} {m : Pl} {σ : H} (hσ : HeapOk w ro m σ) {a : V} {a' : Value} (ha : VR w ro m a a') {t : TypeId} {x : V} {nm : Nat} (h : aLoad P t σ a = some x) :
    Fine P (Instr.loadAt t a') w ro m nm x σ := by
  obtain ⟨b, x', rfl, h1, h2⟩ := aLoad_same hσ ha h
  exact Fine.same hσ (by simp [Instr.loadAt, Instr.sureAddr, h1]) h2

/-! ### Stores -/

def V.one : V → Bool
  | .agg _ => false
  | .tup _ => false
  | .unk => false
  | _ => true

theorem VR.one {w : World} {ro : Nat → Prop} {m : Pl} {v : V} {u : Value} (h : VR w ro m v u) (h1 : v.one = true) : u.oneCell' = true := by
  cases h <;> first | rfl | (simp [V.one] at h1)

def splice (cells : List V) (off : Nat) (cs : List V) : List V := cells.take off ++ cs ++ cells.drop (off + cs.length)

theorem splice_get {α : Type} (cells : List α) (off : Nat) (cs : List α) (h : off + cs.length ≤ cells.length) (j : Nat) :
    (cells.take off ++ cs ++ cells.drop (off + cs.length))[j]? = if j < off then cells[j]? else if j < off + cs.length then cs[j - off]? else cells[j]? := by
  by_cases h1 : j < off
  · rw [if_pos h1, List.append_assoc, List.getElem?_append_left (by simp; omega), List.getElem?_take, if_pos h1]
  · rw [if_neg h1, List.append_assoc, List.getElem?_append_right (by simp; omega)]
    by_cases h2 : j < off + cs.length
    · rw [if_pos h2, List.getElem?_append_left (by simp; omega)]
      congr 1
      simp; omega
    · rw [if_neg h2, List.getElem?_append_right (by simp; omega), List.getElem?_drop]
      congr 1
      simp; omega

def aStore (P : Program) (t : TypeId) (σ : H) (a v : V) : Option H :=
  match a with
  | .ptr b off =>
    match rowAt σ b, v.cells with
    | some cells, some cs => if sizeT P t = some cs.length ∧ off + cs.length ≤ cells.length ∧ cs.all V.one = true then some (σ.set b (some (.row (splice cells off cs)))) else none
    | _, _ => none
  | _ => none

/-- Cells written into a row that is alive. -/
theorem HeapOk.splice {w : World} {ro : Nat → Prop} {m : Pl} {σ : H} (hσ : HeapOk w ro m σ) {b off : Nat} {cells : List V} (hb : σ[b]? = some (some (.row cells))) {B D : Nat} (hm : m b = some (B, D))
    {cs : List V} {vs : List Value} (hl : cs.length = vs.length) (hv : ∀ (j : Nat) (c : V) (v : Value), cs[j]? = some c → vs[j]? = some v → VR w ro m c v) (hoff : off + cs.length ≤ cells.length) (P : Program) (h1 : ∀ v ∈ vs, v.oneCell' = true) :
    ∃ w', (storeCells ⟨B, D + off, none⟩ vs).run P w = .ok () w' ∧ HeapOk w' ro m (σ.set b (some (.row (Am.splice cells off cs)))) ∧ Ext w ro m w' ro m := by
  obtain ⟨B', D', cur, e, hm', hr, hg, hcs⟩ := hσ.row b cells hb
  obtain ⟨rfl, rfl⟩ : B' = B ∧ D' = D := by rw [hm] at hm'; injection hm' with h1; injection h1 with a b; exact ⟨a.symm, b.symm⟩
  have hcur : cells.length = 0 ∨ D' + cells.length ≤ cur.size := by
    rcases Nat.eq_zero_or_pos cells.length with h0 | h0
    · exact .inl h0
    · right
      obtain ⟨v, h2, _⟩ := hcs (cells.length - 1) _ (List.getElem?_eq_getElem (by omega))
      have := (Array.getElem?_eq_some_iff.1 h2).1
      omega
  rcases Nat.eq_zero_or_pos cs.length with h0 | h0
  · have hcs0 : cs = [] := List.eq_nil_of_length_eq_zero h0
    have hvs0 : vs = [] := List.eq_nil_of_length_eq_zero (by omega)
    subst hcs0 hvs0
    have hs : Am.splice cells off [] = cells := by simp [Am.splice]
    rw [hs]
    refine ⟨w, rfl, ?_, Ext.refl w ro m⟩
    have : σ.set b (some (.row cells)) = σ := by
      apply List.ext_getElem?
      intro j
      by_cases q : j = b
      · subst q; rw [List.getElem?_set_self (List.getElem?_eq_some_iff.1 hb).1, hb]
      · rw [List.getElem?_set_ne (fun e => q e.symm)]
    rw [this]
    exact hσ
  · have hsz : D' + off + vs.length ≤ cur.size := by omega
    have hrun := run_storeCells_at (P := P) B' (D' + off) e vs 0 cur w hg (by omega) h1
    simp only [Nat.add_zero] at hrun
    have hsize : (List.take (D' + off) cur.toList ++ vs ++ List.drop (D' + off + vs.length) cur.toList).toArray.size = cur.size := by simp; omega
    refine ⟨_, hrun, HeapOk.setRow hσ hb hm hg hsize (fun j c hj => ?_), Ext.setRow hm hr hg hsize⟩
    simp only [Am.splice] at hj
    rw [splice_get _ _ _ hoff] at hj
    rw [List.getElem?_toArray, splice_get _ _ _ (by simpa using hsz)]
    by_cases q1 : j < off
    · rw [if_pos q1] at hj
      rw [if_pos (by omega)]
      obtain ⟨v, h2, h3⟩ := hcs j c hj
      exact ⟨v, by simpa using h2, h3⟩
    · rw [if_neg q1] at hj
      rw [if_neg (by omega)]
      by_cases q2 : j < off + cs.length
      · rw [if_pos q2] at hj
        rw [if_pos (by omega)]
        have hlt : j - off < vs.length := by omega
        refine ⟨vs[j - off], ?_, hv (j - off) c _ hj (List.getElem?_eq_getElem hlt)⟩
        rw [show D' + j - (D' + off) = j - off by omega]
        exact List.getElem?_eq_getElem hlt
      · rw [if_neg q2] at hj
        rw [if_neg (by omega)]
        obtain ⟨v, h2, h3⟩ := hcs j c hj
        exact ⟨v, by simpa using h2, h3⟩

theorem aStore_ok {P : Program} {w : World} {ro : Nat → Prop} {m : Pl} {σ σ' : H} (hσ : HeapOk w ro m σ) {a v : V} {a' v' : Value} (ha : VR w ro m a a') (hv : VR w ro m v v') {t : TypeId} (h : aStore P t σ a v = some σ') :
    ∃ w', (Instr.storeAt t a' v').run P w = .ok () w' ∧ HeapOk w' ro m σ' ∧ Ext w ro m w' ro m := by
  cases ha <;> simp only [aStore] at h <;> try cases h
  case ptr b off B D hm =>
    cases hr : rowAt σ b with
    | none => simp [hr] at h
    | some cells =>
      cases hc : v.cells with
      | none => simp [hr, hc] at h
      | some cs =>
        simp only [hr, hc] at h
        split at h
        · rename_i hh
          obtain ⟨hs, hoff, hone⟩ := hh
          simp only [Option.some.injEq] at h
          subst h
          obtain ⟨hl, hcv⟩ := hv.cells hc
          have h1 : ∀ u ∈ v'.cells.toList, u.oneCell' = true := by
            intro u hu
            obtain ⟨j, hj, hju⟩ := List.mem_iff_getElem.1 hu
            have hj' : j < cs.length := by rw [hl]; simpa using hj
            exact VR.one (hcv j cs[j] u (List.getElem?_eq_getElem hj') (by rw [← hju]; simp)) (List.all_eq_true.1 hone _ (List.getElem_mem hj'))
          obtain ⟨w', h2, h3, h4⟩ := hσ.splice (off := off) (rowAt_some hr) hm (cs := cs) (vs := v'.cells.toList) (by simpa using hl) (fun j c u hj hu => hcv j c u hj (by simpa using hu)) hoff P h1
          refine ⟨w', ?_, h3, h4⟩
          have hne : ¬ v'.cells.size ≠ cs.length := by omega
          simp only [Instr.storeAt, Instr.sureAddr, Sem.run_bind, Sem.run_pure, Result.andThen_ok, storeVar, run_sizeOf hs, hne, if_false, h2]
        · cases h

end Go.Am
