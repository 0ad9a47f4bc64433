/- Rows that grow: append, make, put together, cut; and lists that lie in rows. -/
import Derived.Test.YtbnegbjaoiplmaaAmX
set_option linter.unusedVariables false
set_option linter.unusedSimpArgs false
namespace Go.Am
open Go

/-! ### Slices that may be nil yet -/

/-- Nil, or a slice from its row's beginning. -/
def aW (e : Bool) (b n sz : Nat) : V := if e then .snil else .sl b 0 n sz
def aE (e : Bool) (r : List V) : Option Ent := if e then none else some (.row r)
theorem aW_true {b n sz : Nat} : aW true b n sz = .snil := rfl
theorem aW_false {b n sz : Nat} : aW false b n sz = .sl b 0 n sz := rfl
theorem aE_true {r : List V} : aE true r = none := rfl
theorem aE_false {r : List V} : aE false r = some (.row r) := rfl
theorem aW_one {e : Bool} {b n sz : Nat} : (aW e b n sz).one = true := by cases e <;> rfl
theorem aW_cells {e : Bool} {b n sz : Nat} : (aW e b n sz).cells = some [aW e b n sz] := by cases e <;> rfl

/-- Nil while nothing has been appended. -/
def aV (b n sz : Nat) : V := if n = 0 then .snil else .sl b 0 n sz
def aN (n : Nat) (r : List V) : Option Ent := if n = 0 then none else some (.row r)
theorem aV_zero {b sz : Nat} : aV b 0 sz = .snil := rfl
theorem aN_zero {r : List V} : aN 0 r = none := rfl
theorem aV_succ {b n sz : Nat} : aV b (n + 1) sz = .sl b 0 (n + 1) sz := by simp [aV]
theorem aN_succ {n : Nat} {r : List V} : aN (n + 1) r = some (.row r) := by simp [aN]
theorem aV_one {b n sz : Nat} : (aV b n sz).one = true := by unfold aV; split <;> rfl
theorem aV_cells {b n sz : Nat} : (aV b n sz).cells = some [aV b n sz] := by unfold aV; split <;> rfl

section cn
variable {s : H} {old : Nat → Option Nat} {N : Nat → Prop}
theorem Cn_aV {b b' n n' sz sz' : Nat} (h : old b' = some b ∧ n' = n ∧ sz' = sz) : Cn s old N (aV b n sz) (aV b' n' sz') := by
  obtain ⟨h1, rfl, rfl⟩ := h
  unfold aV
  split
  · exact Cn.same rfl
  · exact .sl h1
theorem RowsCn_aN {n : Nat} {r r' : List V} {rows : List (Option Ent)} {i : Nat} {ρ : List (Option Nat)} {rs : List (Option Ent)} (hi : rows[i]? = some (aN n r)) (h : RowCn s old N r r') (hr : RowsCn s old N rows ρ rs) : RowsCn s old N rows (some i :: ρ) (aN n r' :: rs) := by
  by_cases q : n = 0
  · subst q; exact RowsCn_gone.2 hr
  · simp only [aN, q, if_false] at hi ⊢
    exact RowsCn_cons.2 ⟨by rw [hi]; exact h, hr⟩
theorem Cn_aVT {b b' n sz : Nat} (h : old b' = some b) : Cn s old N (aV b n sz) (aV b' n sz) ↔ True := ⟨fun _ => trivial, fun _ => Cn_aV ⟨h, rfl, rfl⟩⟩
theorem RowsCn_aNT {n : Nat} {r : List V} {rows : List (Option Ent)} {i : Nat} {ρ : List (Option Nat)} {rs : List (Option Ent)} (hi : rows[i]? = some (aN n r)) (hp : pureL r = true) : RowsCn s old N rows (some i :: ρ) (aN n r :: rs) ↔ RowsCn s old N rows ρ rs := by
  refine ⟨fun h => ?_, fun h => RowsCn_aN hi (RowCn.same hp) h⟩
  unfold aN at h
  split at h
  · exact RowsCn_gone.1 h
  · exact (RowsCn_cons.1 h).2
theorem Cn_aW {e e' : Bool} {b b' n n' sz sz' : Nat} (h : e' = e ∧ (e = false → old b' = some b ∧ n' = n ∧ sz' = sz)) : Cn s old N (aW e b n sz) (aW e' b' n' sz') := by
  obtain ⟨rfl, h⟩ := h
  cases e' with
  | true => exact Cn.same rfl
  | false => obtain ⟨h1, rfl, rfl⟩ := h rfl; exact .sl h1
theorem EntCn_aE {e : Bool} {r r' : List V} {rows : List (Option Ent)} {i : Nat} {ρ : List (Option Nat)} {rs : List (Option Ent)} (hi : rows[i]? = some (aE e r)) (h : e = false → RowCn s old N r r') (hr : RowsCn s old N rows ρ rs) : RowsCn s old N rows (some i :: ρ) (aE e r' :: rs) := by
  cases e with
  | true => exact RowsCn_gone.2 hr
  | false => exact RowsCn_cons.2 ⟨by rw [hi]; exact h rfl, hr⟩
end cn

theorem cast0 : ((0 : Nat) : Int) = 0 := rfl

/-! ### Lists that lie in rows -/

/-- Values of so many cells, each plain. -/
def Enc {α : Type} (sz : Nat) (f : α → V) : Prop := ∀ a, ∃ cs, (f a).cells = some cs ∧ cs.length = sz ∧ pureL cs = true ∧ cs.all V.one = true

section enc
variable {α : Type} {sz : Nat} {f : α → V}
theorem flat_nil : flat [] = [] := rfl
theorem flat_cons {x : V} {xs : List V} {cs : List V} (h : x.cells = some cs) : flat (x :: xs) = cs ++ flat xs := by simp [flat, h]
theorem flat_app {xs ys : List V} : flat (xs ++ ys) = flat xs ++ flat ys := by simp [flat]
theorem Enc.sizes (h : Enc sz f) (l : List α) : ∀ (i : Nat) (x : V), (l.map f)[i]? = some x → ∃ cs, x.cells = some cs ∧ cs.length = sz := fun i x hx => by
  rw [List.getElem?_map] at hx
  obtain ⟨a, _, rfl⟩ := map_some hx
  obtain ⟨cs, h1, h2, _⟩ := h a
  exact ⟨cs, h1, h2⟩
theorem Enc.len (h : Enc sz f) (l : List α) : (flat (l.map f)).length = l.length * sz := by rw [flat_length (h.sizes l), List.length_map]
theorem Enc.pureL (h : Enc sz f) (l : List α) : Am.pureL (flat (l.map f)) = true := by
  refine pureL_of fun c hc => ?_
  simp only [flat, List.mem_flatMap] at hc
  obtain ⟨x, h1, h2⟩ := hc
  obtain ⟨a, _, rfl⟩ := List.mem_map.1 h1
  obtain ⟨cs, h3, _, h4, _⟩ := h a
  rw [h3] at h2
  exact pureL_mem h4 c h2
theorem Enc.ones (h : Enc sz f) (l : List α) : (flat (l.map f)).all V.one = true := by
  refine List.all_eq_true.2 fun c hc => ?_
  simp only [flat, List.mem_flatMap] at hc
  obtain ⟨x, h1, h2⟩ := hc
  obtain ⟨a, _, rfl⟩ := List.mem_map.1 h1
  obtain ⟨cs, h3, _, _, h4⟩ := h a
  rw [h3] at h2
  exact List.all_eq_true.1 h4 c h2
theorem Enc.snoc (l : List α) (a : α) {cs : List V} (hc : (f a).cells = some cs) : flat ((l ++ [a]).map f) = flat (l.map f) ++ cs := by
  simp [flat, hc]
theorem Enc.takeAll (h : Enc sz f) (l : List α) : (flat (l.map f)).take (l.length * sz) = flat (l.map f) := List.take_of_length_le (by rw [h.len]; exact Nat.le_refl _)
theorem Enc.at (h : Enc sz f) : ∀ (l : List α) {i : Nat} {a : α} {cs : List V}, l[i]? = some a → (f a).cells = some cs → ((flat (l.map f)).drop (i * sz)).take sz = cs
  | [], i, a, cs, ha, _ => by simp at ha
  | b :: l, i, a, cs, ha, hc => by
    obtain ⟨ds, h1, h2, _⟩ := h b
    have e : flat ((b :: l).map f) = ds ++ flat (l.map f) := by simp [flat, h1]
    rw [e]
    cases i with
    | zero =>
      simp at ha; subst ha
      rw [h1] at hc; cases hc
      simp [← h2]
    | succ i =>
      simp at ha
      rw [Nat.add_one_mul, Nat.add_comm, ← h2, List.drop_append, List.drop_of_length_le (by omega), List.nil_append, Nat.add_sub_cancel_left, h2]
      exact Enc.at h l ha hc
theorem Enc.cell (h : Enc sz f) (l : List α) {i j : Nat} {a : α} {cs : List V} (ha : l[i]? = some a) (hc : (f a).cells = some cs) (hj : j < sz) : (flat (l.map f))[i * sz + j]? = cs[j]? := by
  rw [← h.at l ha hc, List.getElem?_take, if_pos hj, List.getElem?_drop]
theorem Enc.setAt (h : Enc sz f) : ∀ (l : List α) {i : Nat} {a : α} {cs : List V}, i < l.length → (f a).cells = some cs → splice (flat (l.map f)) (i * sz) cs = flat ((l.set i a).map f)
  | [], i, a, cs, hi, _ => by simp at hi
  | b :: l, i, a, cs, hi, hc => by
    obtain ⟨ds, h1, h2, _⟩ := h b
    obtain ⟨es, h3, h4, _⟩ := h a
    rw [hc] at h3; cases h3
    have e : flat ((b :: l).map f) = ds ++ flat (l.map f) := by simp [flat, h1]
    rw [e]
    cases i with
    | zero => simp [splice, flat, hc, h4, ← h2]
    | succ i =>
      have := Enc.setAt h l (i := i) (by simpa using hi) hc
      simp only [List.set_cons_succ, List.map_cons]
      rw [flat_cons h1, ← this]
      have e1 : (i + 1) * sz = ds.length + i * sz := by rw [Nat.add_one_mul, h2]; omega
      unfold splice
      rw [e1, List.take_length_add_append, Nat.add_assoc, List.drop_length_add_append]
      simp [List.append_assoc]
theorem flat_ones (h : ∀ a, (f a).cells = some [f a]) (l : List α) : flat (l.map f) = l.map f := by
  induction l with
  | nil => rfl
  | cons a l ih => simp only [List.map_cons]; rw [flat_cons (h a), ih]; rfl

/-- A list in a row may be read. -/
theorem Rd.flat {N : Nat → Prop} {σ : H} (h : Enc sz f) {l : List α} {b n : Nat} (hn : n = l.length) (hN : N b) (hr : rowAt σ b = some (Am.flat (l.map f))) : Rd N σ 1 (.sl b 0 n sz) (.ps sz (l.map f)) := by
  refine ⟨l.map f, _, rfl, by simp [hn], hN, hr, h.sizes l, fun i j c' hc => ?_⟩
  unfold cellAt at hc
  rw [List.getElem?_map] at hc
  cases ha : l[i]? with
  | none => rw [ha] at hc; cases hc
  | some a =>
    obtain ⟨cs, h1, h2, h3, _⟩ := h a
    rw [ha, Option.map_some, Option.bind_some, h1, Option.bind_some] at hc
    have hj : j < sz := by rw [← h2]; exact lt_of_some hc
    exact ⟨c', by rw [Nat.zero_add, h.cell l ha h1 hj]; exact hc, rfl, pureL_mem h3 c' (List.mem_of_getElem? hc)⟩
theorem Rd.flatW {N : Nat → Prop} {σ : H} (h : Enc sz f) {l : List α} {e : Bool} {b n : Nat} (he : e = true → l = []) (hn : n = l.length) (hN : e = false → N b) (hr : e = false → rowAt σ b = some (Am.flat (l.map f))) : Rd N σ 1 (aW e b n sz) (.ps sz (l.map f)) := by
  cases e with
  | true => rw [he rfl]; exact .inr ⟨sz, rfl⟩
  | false => exact Rd.flat h hn (hN rfl) (hr rfl)
end enc

theorem Rd.flatV {α : Type} {sz : Nat} {f : α → V} {N : Nat → Prop} {σ : H} (h : Enc sz f) {l : List α} {b n : Nat} (hn : n = l.length) (hN : N b) (hr : σ[b]? = some (aN n (Am.flat (l.map f)))) : Rd N σ 1 (aV b n sz) (.ps sz (l.map f)) := by
  unfold aV
  split
  · rename_i q
    rw [q] at hn
    rw [List.length_eq_zero_iff.1 hn.symm]
    exact .inr ⟨sz, rfl⟩
  · rename_i q
    refine Rd.flat h hn hN ?_
    rw [rowAt_eq, hr, aN, if_neg q]; rfl
/-- A list that nobody writes any more becomes plain content. -/
theorem Cn.fz {α : Type} {sz : Nat} {f : α → V} {s : H} {old : Nat → Option Nat} {N : Nat → Prop} (h : Enc sz f) {l : List α} {b n : Nat} (hn : n = l.length) (hN : N b) (hr : rowAt s b = some (flat (l.map f))) : Cn s old N (.sl b 0 n sz) (.ps sz (l.map f)) := .rd 1 (Rd.flat h hn hN hr)
theorem Cn.fzV {α : Type} {sz : Nat} {f : α → V} {s : H} {old : Nat → Option Nat} {N : Nat → Prop} (h : Enc sz f) {l : List α} {b n : Nat} (hn : n = l.length) (hN : N b) (hr : s[b]? = some (aN n (flat (l.map f)))) : Cn s old N (aV b n sz) (.ps sz (l.map f)) := .rd 1 (Rd.flatV h hn hN hr)
theorem Get2_none {k : V → H → Prop} : Get2 none k ↔ False := by simp [Get2]
theorem Get2_if {c : Prop} [Decidable c] {v : V} {s : H} {k : V → H → Prop} : Get2 (if c then some (v, s) else none) k ↔ c ∧ k v s := by
  by_cases q : c
  · rw [if_pos q, Get2_some]; simp [q]
  · rw [if_neg q, Get2_none]; simp [q]
theorem GetH_none {k : H → Prop} : GetH none k ↔ False := by simp [GetH]
theorem GetH_if {c : Prop} [Decidable c] {s : H} {k : H → Prop} : GetH (if c then some s else none) k ↔ c ∧ k s := by
  by_cases q : c
  · rw [if_pos q, GetH_some]; simp [q]
  · rw [if_neg q, GetH_none]; simp [q]

/-! ### Cells of a row -/

theorem splice_one {cells : List V} {o : Nat} {c : V} (h : o < cells.length) : splice cells o [c] = cells.set o c := by
  unfold splice
  rw [List.set_eq_take_append_cons_drop, if_pos h]
  simp

theorem decide_succ {n : Nat} : decide (n + 1 = 0) = false := by simp
theorem RowCn.snoc {s : H} {old : Nat → Option Nat} {N : Nat → Prop} {α : Type} {sz n : Nat} {f : α → V} (h : Enc sz f) {l : List α} {a : α} (hn : n = l.length) {cs new : List V} (hc : (f a).cells = some cs) (hr : RowCn s old N new cs) : RowCn s old N ((flat (l.map f)).take (n * sz) ++ new) (flat ((l ++ [a]).map f)) := by
  subst hn
  rw [Enc.snoc l a hc, h.takeAll]
  exact RowCn.app rfl (RowCn.same (h.pureL l)) hr

section laws
variable {P : Program} {t t1 e : TypeId} {sz bt : Nat} {σ : H} {nm : Nat} {K : V → H → Prop}

/-- What is behind an append. -/
def ApK (bt sz : Nat) (s : V) (src : Option (Nat × List V)) (σ : H) (nm : Nat) (K : V → H → Prop) : Prop :=
  match src with
  | none => False
  | some (n, new) => new.all V.one = true ∧
    match s with
    | .snil => if n = 0 then K .snil σ else n * bt ≤ 140737488355328 ∧ n ≤ 140737488355328 ∧ K (.sl nm 0 n sz) (H.place σ nm (.row new))
    | .sl b off len sz' => ∃ cells, rowAt σ b = some cells ∧ sz' = sz ∧ (len + n) * bt ≤ 140737488355328 ∧ len + n ≤ 140737488355328 ∧ off + len * sz ≤ cells.length ∧ K (.sl nm 0 (len + n) sz) (H.place (kil σ b) nm (.row ((cells.drop off).take (len * sz) ++ new)))
    | _ => False

structure ElemOk (P : Program) (t e : TypeId) (sz bt : Nat) : Prop where
  u : P.underlying t = some (.slice e)
  i : ∃ i, P.info? e = some i ∧ i.size = sz ∧ i.bytes = bt
  z : ∃ z, zeroT P e = some z ∧ z.length = sz
def elemB (P : Program) (t e sz bt : Nat) : Bool :=
  match P.underlying t, P.info? e, zeroT P e with
  | some (.slice e'), some i, some z => e' == e && i.size == sz && i.bytes == bt && z.length == sz
  | _, _, _ => false
theorem ElemOk.of (h : elemB P t e sz bt = true) : ElemOk P t e sz bt := by
  unfold elemB at h
  split at h
  · rename_i e' i z h1 h2 h3
    simp only [Bool.and_eq_true, beq_iff_eq] at h
    obtain ⟨⟨⟨rfl, h4⟩, h5⟩, h6⟩ := h
    exact ⟨h1, ⟨i, h2, h4, h5⟩, ⟨z, h3, h6⟩⟩
  · cases h
def notInt (P : Program) (t : TypeId) : Bool := match P.underlying t with | some d => !intD d | none => false

theorem Ap_iff (h : ElemOk P t e sz bt) (h1 : notInt P t1 = true) {s x : V} : Get2 (aAppend P #[t, t1] s x σ nm) K ↔ ApK bt sz s (srcCells σ sz x) σ nm K := by
  obtain ⟨i, hi, rfl, rfl⟩ := h.i
  obtain ⟨z, hz, hzl⟩ := h.z
  unfold notInt at h1
  cases hu : P.underlying t1 with
  | none => rw [hu] at h1; cases h1
  | some d =>
    rw [hu] at h1
    simp only [Bool.not_eq_true'] at h1
    simp only [aAppend, List.getElem?_toArray, List.getElem?_cons_zero, List.getElem?_cons_succ, h.u, hu, hi, hz, h1, hzl, ne_eq, not_true_eq_false, Bool.false_eq_true, if_false, ApK]
    cases srcCells σ i.size x with
    | none => simp only [Get2_none]
    | some p =>
      obtain ⟨n, new⟩ := p
      cases hall : new.all V.one with
      | false => simp [Get2_none, hall]
      | true =>
        simp only [hall, if_true, true_and]
        cases s <;> try (simp only [Get2_none]; done)
        case snil =>
          by_cases q : n = 0
          · simp only [q, if_true, Get2_some]
          · simp only [q, if_false, Get2_if, and_assoc]
        case sl b off len sz' =>
          cases hr : rowAt σ b with
          | none => simp [hr, Get2_none]
          | some cells =>
            simp only [hr, Get2_if, Option.some.injEq, exists_eq_left', kil, and_assoc]
            refine ⟨fun ⟨k1, k2, k3, k4, k5⟩ => by subst k1; exact ⟨rfl, k2, k3, k4, k5⟩, fun ⟨k1, k2, k3, k4, k5⟩ => by subst k1; exact ⟨rfl, k2, k3, k4, k5⟩⟩

theorem ApK_snil {n : Nat} {new : List V} : ApK bt sz .snil (some (n, new)) σ nm K ↔ new.all V.one = true ∧ if n = 0 then K .snil σ else n * bt ≤ 140737488355328 ∧ n ≤ 140737488355328 ∧ K (.sl nm 0 n sz) (H.place σ nm (.row new)) := .rfl
/-- What is behind an append to a slice that is there. -/
def ApR (bt sz off len sz' n b : Nat) (new : List V) (σ : H) (nm : Nat) (K : V → H → Prop) : Option (List V) → Prop
  | some cells => sz' = sz ∧ (len + n) * bt ≤ 140737488355328 ∧ len + n ≤ 140737488355328 ∧ off + len * sz ≤ cells.length ∧ K (.sl nm 0 (len + n) sz) (H.place (kil σ b) nm (.row ((cells.drop off).take (len * sz) ++ new)))
  | none => False
theorem ApK_sl {b off len sz' n : Nat} {new : List V} : ApK bt sz (.sl b off len sz') (some (n, new)) σ nm K ↔ new.all V.one = true ∧ ApR bt sz off len sz' n b new σ nm K (rowAt σ b) := by
  simp only [ApK]
  cases rowAt σ b with
  | none => simp [ApR]
  | some c => simp [ApR]
theorem ApR_some {b off len sz' n : Nat} {new cells : List V} : ApR bt sz off len sz' n b new σ nm K (some cells) ↔ sz' = sz ∧ (len + n) * bt ≤ 140737488355328 ∧ len + n ≤ 140737488355328 ∧ off + len * sz ≤ cells.length ∧ K (.sl nm 0 (len + n) sz) (H.place (kil σ b) nm (.row ((cells.drop off).take (len * sz) ++ new))) := .rfl
/-- What is behind an append to a slice that may be nil yet. -/
def ApW (bt sz len n b : Nat) (new : List V) (σ : H) (nm : Nat) (K : V → H → Prop) : Option (Option Ent) → Prop
  | some (some (.row cells)) => (len + n) * bt ≤ 140737488355328 ∧ len + n ≤ 140737488355328 ∧ len * sz ≤ cells.length ∧ K (.sl nm 0 (len + n) sz) (H.place (kil σ b) nm (.row (cells.take (len * sz) ++ new)))
  | some none => (len + n) * bt ≤ 140737488355328 ∧ len + n ≤ 140737488355328 ∧ len = 0 ∧ K (.sl nm 0 (len + n) sz) (H.place (kil σ b) nm (.row new))
  | _ => False
theorem kil_none {b : Nat} (h : σ[b]? = some none) : kil σ b = σ := by
  unfold kil
  apply List.ext_getElem?
  intro i
  by_cases q : b = i
  · subst q
    rw [List.getElem?_set_self (lt_of_some h), h]
  · rw [List.getElem?_set_ne q]
/-- At least one element is appended. -/
theorem ApK_aW {b len n : Nat} {new r : List V} {e : Bool} (hr : σ[b]? = some (aE e r)) (h0 : e = true → len = 0 ∧ r = []) (hn : (n = 0) = False) :
    ApK bt sz (aW e b len sz) (some (n, new)) σ nm K ↔ new.all V.one = true ∧ (len + n) * bt ≤ 140737488355328 ∧ len + n ≤ 140737488355328 ∧ len * sz ≤ r.length ∧ K (.sl nm 0 (len + n) sz) (H.place (kil σ b) nm (.row (r.take (len * sz) ++ new))) := by
  cases e with
  | true =>
    obtain ⟨rfl, rfl⟩ := h0 rfl
    rw [aW_true, ApK_snil, kil_none hr]
    simp [hn]
  | false =>
    have hr' : rowAt σ b = some r := by rw [rowAt_eq, hr]; rfl
    rw [aW_false, ApK_sl, hr', ApR_some]
    simp

/-- What is behind an append to a slice that is nil while it is empty. -/
def ApV (bt sz len n b : Nat) (new : List V) (σ : H) (nm : Nat) (K : V → H → Prop) (o : Option (Option Ent)) : Prop := o = σ[b]? ∧ ApK bt sz (aV b len sz) (some (n, new)) σ nm K
theorem ApK_aV {b len n : Nat} {new : List V} : ApK bt sz (aV b len sz) (some (n, new)) σ nm K ↔ ApV bt sz len n b new σ nm K σ[b]? := by simp [ApV]
theorem ApV_aN {b len n : Nat} {new r : List V} (h : σ[b]? = some (aN len r)) (hn : (n = 0) = False) :
    ApV bt sz len n b new σ nm K (some (aN len r)) ↔ new.all V.one = true ∧ (len + n) * bt ≤ 140737488355328 ∧ len + n ≤ 140737488355328 ∧ len * sz ≤ r.length ∧ K (.sl nm 0 (len + n) sz) (H.place (kil σ b) nm (.row (r.take (len * sz) ++ new))) := by
  unfold ApV
  rw [h]
  simp only [true_and]
  unfold aV aN at *
  by_cases q : len = 0
  · subst q
    simp only [if_true] at h ⊢
    rw [ApK_snil, kil_none h]
    simp [hn]
  · simp only [q, if_false] at h ⊢
    have hr' : rowAt σ b = some r := by rw [rowAt_eq, h]; rfl
    rw [ApK_sl, hr', ApR_some]
    simp

theorem src_snil : srcCells σ sz .snil = some (0, []) := rfl
theorem src_ps {xs : List V} : srcCells σ sz (.ps sz xs) = some (xs.length, flat xs) := by simp [srcCells]
theorem src_sl {b off len sz' : Nat} : srcCells σ sz (.sl b off len sz') = (rowAt σ b).bind fun cells => if sz' = sz ∧ off + len * sz ≤ cells.length then some (len, (cells.drop off).take (len * sz)) else none := rfl

/-- Make: so many zero values. -/
theorem Mk_iff (h : ElemOk P t e sz bt) {z : List V} (hz : zeroT P e = some z) {k k' : IntKind} {l c : Int} :
    Get2 (aMake P t (.int k l) (.int k' c) σ nm) K ↔ 0 ≤ l ∧ l ≤ c ∧ (bt : Int) * c ≤ 281474976710656 ∧ c ≤ 281474976710656 ∧ K (.sl nm 0 l.toNat sz) (H.place σ nm (.row (zeros z c.toNat))) := by
  obtain ⟨i, hi, rfl, rfl⟩ := h.i
  obtain ⟨z', hz', hzl⟩ := h.z
  rw [hz] at hz'; cases hz'
  simp only [aMake, h.u, hi, hz, hzl, true_and]
  simp only [Get2_if, and_assoc]
theorem zeros_one {c : V} {n : Nat} : zeros [c] n = List.replicate n c := by
  induction n with
  | zero => rfl
  | succ n ih =>
    have : zeros [c] (n + 1) = [c] ++ zeros [c] n := by simp [zeros, List.replicate_succ]
    rw [this, ih]; rfl
theorem zeros_flat {x : V} {z : List V} (h : x.cells = some z) {n : Nat} : zeros z n = flat (List.replicate n x) := by
  induction n with
  | zero => rfl
  | succ n ih =>
    have : zeros z (n + 1) = z ++ zeros z n := by simp [zeros, List.replicate_succ]
    rw [this, List.replicate_succ, flat_cons h, ih]

/-- A list of so many values put together. -/
def CellsAll (sz : Nat) : List V → (List V → Prop) → Prop
  | [], k => k []
  | v :: r, k => ∃ c, v.cells = some c ∧ c.length = sz ∧ CellsAll sz r fun d => k (c ++ d)
def GetL (x : Option (List V)) (k : List V → Prop) : Prop := ∃ c, x = some c ∧ k c
theorem GetL_some {c : List V} {k : List V → Prop} : GetL (some c) k ↔ k c := by simp [GetL]
theorem CellsAll_nil {k : List V → Prop} : CellsAll sz [] k ↔ k [] := .rfl
theorem CellsAll_cons {v : V} {r : List V} {k : List V → Prop} : CellsAll sz (v :: r) k ↔ GetL v.cells fun c => c.length = sz ∧ CellsAll sz r fun d => k (c ++ d) := .rfl
/-- One behind the other. -/
def inRow : Nat → List (Nat × V) → Bool
  | _, [] => true
  | i, (j, _) :: r => if j = i then inRow (i + 1) r else false
theorem inRow_nil {i : Nat} : inRow i [] = true := rfl
theorem inRow_cons {i j : Nat} {v : V} {r : List (Nat × V)} : inRow i ((j, v) :: r) = if j = i then inRow (i + 1) r else false := rfl

theorem CellsAll_iff : ∀ {vs : List V} {k : List V → Prop}, CellsAll sz vs k ↔ (∀ v, v ∈ vs → ∃ c, v.cells = some c ∧ c.length = sz) ∧ k (flat vs)
  | [], k => by simp [CellsAll, flat]
  | v :: r, k => by
    simp only [CellsAll]
    refine ⟨fun ⟨c, h1, h2, h3⟩ => ?_, fun ⟨h1, h2⟩ => ?_⟩
    · have := CellsAll_iff.1 h3
      refine ⟨fun x hx => ?_, by rw [flat_cons h1]; exact this.2⟩
      rcases List.mem_cons.1 hx with rfl | hx
      · exact ⟨c, h1, h2⟩
      · exact this.1 x hx
    · obtain ⟨c, h3, h4⟩ := h1 v (by simp)
      exact ⟨c, h3, h4, CellsAll_iff.2 ⟨fun x hx => h1 x (by simp [hx]), by rw [← flat_cons h3]; exact h2⟩⟩

theorem fill_inRow : ∀ {ps : List (Nat × V)} {i : Nat} {pre post : List V}, inRow i ps = true → pre.length = i * sz → post.length = ps.length * sz → (∀ p, p ∈ ps → ∃ c, p.2.cells = some c ∧ c.length = sz) →
    aFill (fun i => some (i * sz, sz)) (pre ++ post) ps = some (pre ++ flat (ps.map (·.2)))
  | [], i, pre, post, _, _, hp, _ => by
    have : post = [] := List.length_eq_zero_iff.1 (by simpa using hp)
    subst this
    simp [aFill, flat]
  | (j, v) :: r, i, pre, post, hi, hpre, hpost, hc => by
    simp only [inRow] at hi
    split at hi
    · rename_i hji
      subst hji
      obtain ⟨c, h1, h2⟩ := hc (j, v) (by simp)
      simp only at h1
      have hs : post.length = sz + r.length * sz := by rw [hpost, List.length_cons, Nat.add_one_mul]; omega
      simp only [aFill, h1, h2, List.length_append, hpre, hs, true_and]
      rw [if_pos (by omega)]
      have e : splice (pre ++ post) (j * sz) c = (pre ++ c) ++ post.drop sz := by
        unfold splice
        rw [← hpre, List.take_left, ← h2, List.drop_length_add_append]
      rw [e, fill_inRow (i := j + 1) hi (by rw [List.length_append, hpre, h2, Nat.add_one_mul]) (by rw [List.length_drop, hs]; omega) (fun p hp => hc p (by simp [hp]))]
      simp only [List.map_cons]
      rw [flat_cons h1, List.append_assoc]
    · cases hi

theorem zeros_len {z : List V} {n : Nat} : (zeros z n).length = n * z.length := by
  induction n with
  | zero => simp [zeros]
  | succ n ih =>
    have : zeros z (n + 1) = z ++ zeros z n := by simp [zeros, List.replicate_succ]
    rw [this, List.length_append, ih, Nat.add_one_mul]; omega

theorem Bs_if (h : ElemOk P t e sz bt) (hs : 0 < sz) {n : Nat} {ps : List (Nat × V)} (hi : inRow 0 ps = true) (hl : ps.length = n) (hb : n * sz ≤ 16777216) (hk : CellsAll sz (ps.map (·.2)) fun cells => K (.sl nm 0 n sz) (H.place σ nm (.row cells))) : Get2 (aBuildSlice P t n ps σ nm) K := by
  obtain ⟨i, hif, rfl, rfl⟩ := h.i
  obtain ⟨z, hz, hzl⟩ := h.z
  obtain ⟨h1, h2⟩ := CellsAll_iff.1 hk
  have hsz : sizeT P e = some i.size := by simp [sizeT, hif]
  have hf := fill_inRow (sz := i.size) (ps := ps) (i := 0) (pre := []) (post := zeros z n) hi (by simp) (by rw [zeros_len, hzl, hl]) (fun p hp => h1 p.2 (List.mem_map.2 ⟨p, hp, rfl⟩))
  simp only [List.nil_append] at hf
  exact ⟨_, _, by simp only [aBuildSlice, h.u, hsz, hz, hzl, true_and, hs]; rw [if_pos (by simpa using hb), hf]; rfl, h2⟩

theorem fill_cells : ∀ {ps : List (Nat × V)} {cells out : List V}, aFill (fun i => some (i * sz, sz)) cells ps = some out → ∀ p, p ∈ ps → ∃ c, p.2.cells = some c ∧ c.length = sz
  | [], _, _, _, p, hp => by cases hp
  | (j, v) :: r, cells, out, h, p, hp => by
    simp only [aFill] at h
    cases hv : v.cells with
    | none => simp [hv] at h
    | some c =>
      simp only [hv] at h
      split at h
      · rename_i q
        rcases List.mem_cons.1 hp with rfl | hp
        · exact ⟨c, hv, q.1⟩
        · exact fill_cells h p hp
      · cases h

theorem Bs_iff (h : ElemOk P t e sz bt) (hs : 0 < sz) {n : Nat} {ps : List (Nat × V)} (hi : inRow 0 ps = true) (hl : ps.length = n) (hb : n * sz ≤ 16777216) :
    Get2 (aBuildSlice P t n ps σ nm) K ↔ CellsAll sz (ps.map (·.2)) fun cells => K (.sl nm 0 n sz) (H.place σ nm (.row cells)) := by
  refine ⟨fun ⟨v, s, h1, h2⟩ => ?_, Bs_if h hs hi hl hb⟩
  have hc : ∀ v, v ∈ ps.map (·.2) → ∃ c, v.cells = some c ∧ c.length = sz := by
    intro v hv
    obtain ⟨p, hp, rfl⟩ := List.mem_map.1 hv
    obtain ⟨i, hif, rfl, rfl⟩ := h.i
    obtain ⟨z, hz, hzl⟩ := h.z
    have hsz : sizeT P e = some i.size := by simp [sizeT, hif]
    simp only [aBuildSlice, h.u, hsz, hz, hzl, true_and, hs] at h1
    rw [if_pos (by simpa using hb)] at h1
    obtain ⟨out, h3, _⟩ := map_some h1
    exact fill_cells h3 p hp
  obtain ⟨v', s', h3, h4⟩ := Bs_if (K := fun v s => v = .sl nm 0 n sz ∧ s = H.place σ nm (.row (flat (ps.map (·.2))))) h hs hi hl hb (CellsAll_iff.2 ⟨hc, rfl, rfl⟩)
  rw [h1] at h3
  cases h3
  obtain ⟨rfl, rfl⟩ := h4
  exact CellsAll_iff.2 ⟨hc, h2⟩

/-- Bounds of a piece. -/
def Bd (len : Nat) (x : Option V) (d : Nat) (k : Nat → Prop) : Prop :=
  match x with
  | none => k d
  | some (.int _ i) => 0 ≤ i ∧ i ≤ len ∧ k i.toNat
  | _ => False
theorem Bd_none {len d : Nat} {k : Nat → Prop} : Bd len none d k ↔ k d := .rfl
theorem Bd_int {len d : Nat} {kk : IntKind} {i : Int} {k : Nat → Prop} : Bd len (some (.int kk i)) d k ↔ 0 ≤ i ∧ i ≤ len ∧ k i.toNat := .rfl
theorem Bd_iff {len d : Nat} {x : Option V} {k : Nat → Prop} : Bd len x d k ↔ ∃ j, aBound len x d = some j ∧ k j := by
  cases x with
  | none => simp [Bd, aBound]
  | some v =>
    cases v <;> simp [Bd, aBound]
    case int kk i => exact ⟨fun ⟨h1, h2, h3⟩ => ⟨_, ⟨⟨h1, h2⟩, rfl⟩, h3⟩, fun ⟨j, ⟨⟨h1, h2⟩, h4⟩, h3⟩ => ⟨h1, h2, h4 ▸ h3⟩⟩
theorem Sl_ps (hu : P.underlying t = some (.slice e)) (hs : sizeT P e = some sz) {xs : List V} {lo hi : Option V} {K : V → Prop} : Get (aSlice P t (.ps sz xs) lo hi) K ↔ Bd xs.length hi xs.length fun h => Bd h lo 0 fun l => K (.ps sz ((xs.take h).drop l)) := by
  simp only [aSlice, hu, hs, Bd_iff]
  cases aBound xs.length hi xs.length with
  | none => simp [Get]
  | some h =>
    simp only [Option.some.injEq, exists_eq_left']
    cases aBound h lo 0 with
    | none => simp [Get]
    | some l => simp [Get]
theorem Sl_sl (hu : P.underlying t = some (.slice e)) (hs : sizeT P e = some sz) {b off len : Nat} {lo hi : Option V} {K : V → Prop} : Get (aSlice P t (.sl b off len sz) lo hi) K ↔ Bd len hi len fun h => Bd h lo 0 fun l => K (if l = 0 then .sl b off h sz else if l = h then .ps sz [] else .sl b (off + l * sz) (h - l) sz) := by
  simp only [aSlice, hu, hs, Bd_iff]
  cases aBound len hi len with
  | none => simp [Get]
  | some h =>
    simp only [Option.some.injEq, exists_eq_left']
    cases aBound h lo 0 with
    | none => simp [Get]
    | some l => simp [Get]
theorem Sl_snil (hu : P.underlying t = some (.slice e)) (hs : sizeT P e = some sz) {lo hi : Option V} {K : V → Prop} : Get (aSlice P t .snil lo hi) K ↔ Bd 0 hi 0 fun _ => Bd 0 lo 0 fun _ => K .snil := by
  simp only [aSlice, hu, hs, Bd_iff]
  cases aBound 0 hi 0 with
  | none => simp [Get]
  | some h =>
    simp only [Option.some.injEq, exists_eq_left']
    cases aBound 0 lo 0 with
    | none => simp [Get]
    | some l => simp [Get]
theorem Ix_aV (hu : P.underlying t = some (.slice e)) (hs : sizeT P e = some sz) {b n : Nat} {k : IntKind} {i : Int} : aIndexAddr P t (aV b n sz) (.int k i) = if 0 ≤ i ∧ i < n then some (.ptr b (0 + i.toNat * sz)) else none := by
  unfold aV
  split
  · rename_i q
    rw [q, if_neg (by omega)]
    simp [aIndexAddr, hu]
  · exact Ix_sl hu hs
theorem Len_aV (hu : P.underlying t = some (.slice e)) {b n sz : Nat} : aLen P t σ (aV b n sz) = some (.int .i64 n) := by
  unfold aV
  split
  · rename_i q; rw [q]; exact Len_snil hu
  · exact Len_sl hu
end laws

section res
variable {P : Program} {f : Fr} {σ : H} {t u x ty tu : Nat}
theorem aResults_ct : aResults P [.cell t ty, .tmp u] f σ = (aLoad P ty σ (f.get t)).map fun v => .tup [v, f.get u] := by
  simp only [aResults, List.mapM_cons, List.mapM_nil, aResult, Option.bind_eq_bind, Option.pure_def]
  cases aLoad P ty σ (f.get t) <;> rfl
theorem aResults_tc : aResults P [.tmp u, .cell t ty] f σ = (aLoad P ty σ (f.get t)).map fun v => .tup [f.get u, v] := by
  simp only [aResults, List.mapM_cons, List.mapM_nil, aResult, Option.bind_eq_bind, Option.pure_def]
  cases aLoad P ty σ (f.get t) <;> rfl
theorem aResults_ctt : aResults P [.cell t ty, .tmp u, .tmp x] f σ = (aLoad P ty σ (f.get t)).map fun v => .tup [v, f.get u, f.get x] := by
  simp only [aResults, List.mapM_cons, List.mapM_nil, aResult, Option.bind_eq_bind, Option.pure_def]
  cases aLoad P ty σ (f.get t) <;> rfl
theorem aResults_tmp4 {y : Nat} : aResults P [.tmp t, .tmp u, .tmp x, .tmp y] f σ = some (.tup [f.get t, f.get u, f.get x, f.get y]) := rfl
end res

/-- A struct put together. -/
def BuK (pl : List (Nat × Nat)) (cells : List V) : List (Nat × V) → (V → Prop) → Prop
  | [], k => k (.agg cells)
  | (i, v) :: r, k => ∃ q cs, pl[i]? = some q ∧ v.cells = some cs ∧ cs.length = q.2 ∧ q.1 + q.2 ≤ cells.length ∧ BuK pl (splice cells q.1 cs) r k
def BuF (pl : List (Nat × Nat)) (cells : List V) (v : V) (r : List (Nat × V)) (k : V → Prop) : Option (Nat × Nat) → Prop
  | some (off, size) => GetL v.cells fun cs => cs.length = size ∧ off + size ≤ cells.length ∧ BuK pl (splice cells off cs) r k
  | none => False
theorem BuF_some {pl : List (Nat × Nat)} {cells : List V} {v : V} {r : List (Nat × V)} {k : V → Prop} {off size : Nat} : BuF pl cells v r k (some (off, size)) ↔ GetL v.cells fun cs => cs.length = size ∧ off + size ≤ cells.length ∧ BuK pl (splice cells off cs) r k := .rfl
theorem BuK_nil {pl : List (Nat × Nat)} {cells : List V} {k : V → Prop} : BuK pl cells [] k ↔ k (.agg cells) := .rfl
theorem BuK_cons {pl : List (Nat × Nat)} {cells : List V} {i : Nat} {v : V} {r : List (Nat × V)} {k : V → Prop} : BuK pl cells ((i, v) :: r) k ↔ BuF pl cells v r k pl[i]? := by
  simp only [BuK]
  cases pl[i]? with
  | none => simp [BuF]
  | some q => obtain ⟨off, size⟩ := q; simp [BuF, GetL]
theorem BuK_iff {pl : List (Nat × Nat)} : ∀ {ps : List (Nat × V)} {cells : List V} {k : V → Prop}, Get ((aFill (fun i => pl[i]?) cells ps).map .agg) k ↔ BuK pl cells ps k
  | [], cells, k => by simp [aFill, Get, BuK]
  | (i, v) :: r, cells, k => by
    rw [BuK_cons]
    simp only [aFill]
    cases hq : pl[i]? with
    | none => simp [BuF, Get]
    | some q =>
      obtain ⟨off, size⟩ := q
      cases hv : v.cells with
      | none => simp [BuF, Get, GetL, hv]
      | some cs =>
        simp only [BuF, GetL, hv, Option.some.injEq, exists_eq_left']
        by_cases c : cs.length = size ∧ off + size ≤ cells.length
        · rw [if_pos c, BuK_iff]
          simp [c.1, c.2]
        · rw [if_neg c]
          simp only [Option.map_none, Get_none, false_iff]
          exact fun h => c ⟨h.1, h.2.1⟩
/-- A struct's zero value, and where its fields lie. -/
def strT (P : Program) (t : TypeId) (z : List V) (pl : List (Nat × Nat)) : Prop := zeroT P t = some z ∧ ∃ fs, P.underlying t = some (.struct fs) ∧ places P fs = some pl
theorem Bu_iff {P : Program} {t : TypeId} {z : List V} {pl : List (Nat × Nat)} (h : strT P t z pl) {ps : List (Nat × V)} {k : V → Prop} : Get (aBuild P t ps) k ↔ BuK pl z ps k := by
  obtain ⟨h1, fs, h2, h3⟩ := h
  simp only [aBuild, h1, h2, h3]
  exact BuK_iff
theorem strT_of {P : Program} {t : TypeId} {z : List V} {pl : List (Nat × Nat)} (h1 : zeroT P t = some z) (h2 : (match P.underlying t with | some (.struct fs) => places P fs == some pl | _ => false) = true) : strT P t z pl := by
  refine ⟨h1, ?_⟩
  split at h2
  · rename_i fs hu; exact ⟨fs, hu, by simpa using h2⟩
  · cases h2

section nil
variable {P : Program} {t e : TypeId}
theorem Nl_ps (hu : P.underlying t = some (.slice e)) {s : Nat} {x : V} {xs : List V} : aBin P .eql t (.ps s (x :: xs)) .snil = some (.bool false) := by simp [aBin, pairB, aEq, hu]
theorem Nl_sl (hu : P.underlying t = some (.slice e)) {b o l s : Nat} : aBin P .eql t (.sl b o l s) .snil = some (.bool false) := by simp [aBin, pairB, aEq, hu]
theorem Nl_snil (hu : P.underlying t = some (.slice e)) : aBin P .eql t .snil .snil = some (.bool true) := by simp [aBin, pairB, aEq, hu]
theorem Nn_ps (hu : P.underlying t = some (.slice e)) {s : Nat} {x : V} {xs : List V} : aBin P .neq t (.ps s (x :: xs)) .snil = some (.bool true) := by simp [aBin, pairB, aEq, hu]
theorem Nn_sl (hu : P.underlying t = some (.slice e)) {b o l s : Nat} : aBin P .neq t (.sl b o l s) .snil = some (.bool true) := by simp [aBin, pairB, aEq, hu]
theorem Nn_snil (hu : P.underlying t = some (.slice e)) : aBin P .neq t .snil .snil = some (.bool false) := by simp [aBin, pairB, aEq, hu]
theorem Bl_eql (hu : P.underlying t = some .bool) {a b : Bool} : aBin P .eql t (.bool a) (.bool b) = some (.bool (a == b)) := by simp [aBin, pairB, aEq, hu]
theorem Bl_neq (hu : P.underlying t = some .bool) {a b : Bool} : aBin P .neq t (.bool a) (.bool b) = some (.bool (!(a == b))) := by simp [aBin, pairB, aEq, hu]
end nil

/-- A store of one cell. -/
theorem Store_one {P : Program} {t : TypeId} (hs : sizeT P t = some 1) {s : H} {b o : Nat} {v : V} {K : H → Prop} (h1 : v.cells = some [v]) : GetH (aStore P t s (.ptr b o) v) K ↔ GetL (rowAt s b) fun cells => o < cells.length ∧ v.one = true ∧ K (upd s b (cells.set o v)) := by
  rw [Store_ptr hs]
  cases rowAt s b with
  | none => simp [GetH_none, GetL]
  | some cells =>
    simp only [h1, Option.bind_some, List.length_cons, List.length_nil, Nat.zero_add, true_and, List.all_cons, List.all_nil, Bool.and_true, GetL, Option.some.injEq, exists_eq_left']
    simp only [GetH_if, and_assoc]
    exact ⟨fun ⟨h1, h2, h3⟩ => ⟨by omega, h2, by rw [← splice_one (by omega)]; exact h3⟩, fun ⟨h1, h2, h3⟩ => ⟨by omega, h2, by rw [splice_one (by omega)]; exact h3⟩⟩
/-- A store of more cells. -/
theorem Store_more {P : Program} {t : TypeId} {sz : Nat} (hs : sizeT P t = some sz) {s : H} {b o : Nat} {cs : List V} {K : H → Prop} : GetH (aStore P t s (.ptr b o) (.agg cs)) K ↔ GetL (rowAt s b) fun cells => sz = cs.length ∧ o + cs.length ≤ cells.length ∧ cs.all V.one = true ∧ K (upd s b (splice cells o cs)) := by
  rw [Store_ptr hs]
  cases rowAt s b with
  | none => simp [GetH_none, GetL]
  | some cells =>
    simp only [V.cells, Option.bind_some, GetL, Option.some.injEq, exists_eq_left']
    simp only [GetH_if, and_assoc]

end Go.Am
