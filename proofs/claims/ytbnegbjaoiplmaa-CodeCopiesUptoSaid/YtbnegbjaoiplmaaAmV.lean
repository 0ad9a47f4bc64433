/- Heaps written as a base and the rows laid on it since. -/
import Derived.Test.YtbnegbjaoiplmaaAmS
import Derived.Test.YtbnegbjaoiplmaaAmU
set_option linter.unusedVariables false
set_option linter.unusedSimpArgs false
namespace Go.Am
open Go

/-- A base with rows laid on it. -/
def Stk (σ : H) (rows : List (Option Ent)) : H := σ ++ rows
/-- A row written anew. -/
def upd (σ : H) (b : Nat) (r : List V) : H := σ.set b (some (.row r))
/-- A row taken away. -/
def kil (σ : H) (b : Nat) : H := σ.set b none
/-- The cells of an entry that is a row. -/
def rowO : Option (Option Ent) → Option (List V)
  | some (some (.row r)) => some r
  | _ => none
theorem rowO_row {r : List V} : rowO (some (some (.row r))) = some r := rfl
theorem rowO_gone : rowO (some none) = none := rfl
theorem rowO_none : rowO none = none := rfl
theorem rowO_map {es : List (V × V)} : rowO (some (some (.mapE es))) = none := rfl
theorem rowAt_eq {σ : H} {b : Nat} : rowAt σ b = rowO σ[b]? := by
  unfold rowAt rowO
  split <;> simp_all

section stk
variable {σ : H} {rows : List (Option Ent)} {n : Nat}
theorem Stk_nil (σ : H) : Stk σ [] = σ := by simp [Stk]
theorem Stk_len : (Stk σ rows).length = σ.length + rows.length := by simp [Stk]
theorem Stk_stk {r1 r2 : List (Option Ent)} : Stk (Stk σ r1) r2 = Stk σ (r1 ++ r2) := by simp [Stk]
theorem upd_len {b : Nat} {r : List V} : (upd σ b r).length = σ.length := by simp [upd]
theorem kil_len {b : Nat} : (kil σ b).length = σ.length := by simp [kil]

theorem get_stk (hn : σ.length = n) {j : Nat} : (Stk σ rows)[n + j]? = rows[j]? := by
  subst hn
  unfold Stk
  rw [List.getElem?_append_right (by omega), Nat.add_sub_cancel_left]
theorem get_stk0 (hn : σ.length = n) : (Stk σ rows)[n]? = rows[0]? := get_stk (j := 0) hn
theorem get_old {b : Nat} (h : b < σ.length) : (Stk σ rows)[b]? = σ[b]? := by
  unfold Stk
  rw [List.getElem?_append_left h]
theorem rowAt_stk (hn : σ.length = n) {j : Nat} : rowAt (Stk σ rows) (n + j) = rowO rows[j]? := by rw [rowAt_eq, get_stk hn]
theorem rowAt_stk0 (hn : σ.length = n) : rowAt (Stk σ rows) n = rowO rows[0]? := rowAt_stk (j := 0) hn
theorem rowAt_old {b : Nat} (h : b < σ.length) : rowAt (Stk σ rows) b = rowAt σ b := by rw [rowAt_eq, rowAt_eq, get_old h]

theorem upd_stk (hn : σ.length = n) {j : Nat} {r : List V} : upd (Stk σ rows) (n + j) r = Stk σ (rows.set j (some (.row r))) := by
  subst hn
  unfold upd Stk
  rw [List.set_append_right _ _ (by omega), Nat.add_sub_cancel_left]
theorem upd_stk0 (hn : σ.length = n) {r : List V} : upd (Stk σ rows) n r = Stk σ (rows.set 0 (some (.row r))) := upd_stk (j := 0) hn
theorem kil_stk (hn : σ.length = n) {j : Nat} : kil (Stk σ rows) (n + j) = Stk σ (rows.set j none) := by
  subst hn
  unfold kil Stk
  rw [List.set_append_right _ _ (by omega), Nat.add_sub_cancel_left]
theorem kil_stk0 (hn : σ.length = n) : kil (Stk σ rows) n = Stk σ (rows.set 0 none) := kil_stk (j := 0) hn
theorem kil_old {b : Nat} (h : b < σ.length) : kil (Stk σ rows) b = Stk (kil σ b) rows := by
  unfold kil Stk
  rw [List.set_append_left _ _ h]
theorem get_kil_ne {b b' : Nat} (h : b ≠ b') : (kil σ b)[b']? = σ[b']? := by
  unfold kil
  rw [List.getElem?_set_ne h]
theorem rowAt_kil_ne {b b' : Nat} (h : b ≠ b') : rowAt (kil σ b) b' = rowAt σ b' := by
  unfold rowAt
  rw [get_kil_ne h]
theorem upd_old {b : Nat} {r : List V} (h : b < σ.length) : upd (Stk σ rows) b r = Stk (upd σ b r) rows := by
  unfold upd Stk
  rw [List.set_append_left _ _ h]
theorem rowAt_upd {b : Nat} {r : List V} (h : b < σ.length) : rowAt (upd σ b r) b = some r := by
  unfold rowAt upd
  rw [List.getElem?_set_self h]
theorem get_upd_ne {b b' : Nat} {r : List V} (h : b ≠ b') : (upd σ b r)[b']? = σ[b']? := by
  unfold upd
  rw [List.getElem?_set_ne h]
theorem rowAt_upd_ne {b b' : Nat} {r : List V} (h : b ≠ b') : rowAt (upd σ b r) b' = rowAt σ b' := by
  unfold rowAt
  rw [get_upd_ne h]
theorem upd_upd {b : Nat} {r r' : List V} : upd (upd σ b r) b r' = upd σ b r' := by simp [upd]
theorem kil_upd {b : Nat} {r : List V} : kil (upd σ b r) b = kil σ b := by simp [upd, kil]
theorem rowAt_lt {b : Nat} {r : List V} (h : rowAt σ b = some r) : b < σ.length := (List.getElem?_eq_some_iff.1 (rowAt_some h)).1
theorem upd_same {b : Nat} {r : List V} (h : rowAt σ b = some r) : upd σ b r = σ := by
  unfold upd
  apply List.ext_getElem?
  intro i
  by_cases q : b = i
  · subst q
    rw [List.getElem?_set_self (rowAt_lt h), rowAt_some h]
  · rw [List.getElem?_set_ne q]

theorem place_stk {e : Ent} : H.place (Stk σ rows) (Stk σ rows).length e = Stk σ (rows ++ [some e]) := by
  unfold H.place
  rw [if_neg (Nat.lt_irrefl _)]
  simp [Stk]
theorem place_at (hn : σ.length = n) {k : Nat} (hk : rows.length = k) {e : Ent} : H.place (Stk σ rows) (n + k) e = Stk σ (rows ++ [some e]) := by
  rw [← hn, ← hk, ← Stk_len]; exact place_stk
theorem place_at0 (hn : σ.length = n) {e : Ent} : H.place (Stk σ []) n e = Stk σ [some e] := place_at (rows := []) hn rfl
end stk

/-- Nothing that was there has changed. -/
def Old (σ s : H) : Prop := σ.length ≤ s.length ∧ ∀ b : Nat, b < σ.length → s[b]? = σ[b]?
theorem Old.refl (σ : H) : Old σ σ := ⟨Nat.le_refl _, fun _ _ => rfl⟩
theorem Old.trans {a b c : H} (h : Old a b) (k : Old b c) : Old a c := ⟨Nat.le_trans h.1 k.1, fun x hx => (k.2 x (Nat.lt_of_lt_of_le hx h.1)).trans (h.2 x hx)⟩
theorem Old.stk {σ s : H} (h : Old σ s) (rows : List (Option Ent)) : Old σ (Stk s rows) := ⟨by rw [Stk_len]; have := h.1; omega, fun b hb => (get_old (Nat.lt_of_lt_of_le hb h.1)).trans (h.2 b hb)⟩
theorem Old.upd {σ s : H} (h : Old σ s) {b : Nat} (hb : σ.length ≤ b) (r : List V) : Old σ (Am.upd s b r) := ⟨by rw [upd_len]; exact h.1, fun x hx => (get_upd_ne (by omega)).trans (h.2 x hx)⟩
theorem Old.kil {σ s : H} (h : Old σ s) {b : Nat} (hb : σ.length ≤ b) : Old σ (Am.kil s b) := ⟨by rw [kil_len]; exact h.1, fun x hx => (get_kil_ne (by omega)).trans (h.2 x hx)⟩
theorem Old.row {σ s : H} (h : Old σ s) {b : Nat} {r : List V} (hr : rowAt σ b = some r) : rowAt s b = some r := by
  have := h.2 b (rowAt_lt hr)
  unfold rowAt at hr ⊢
  rw [this]
  exact hr

section laws
variable {P : Program} {t : TypeId} {σ : H} {rows : List (Option Ent)} {n : Nat}

theorem Alloc_at (hn : σ.length = n) {z : List V} (h : zeroT P t = some z) {k : Nat} (hk : rows.length = k) : aAlloc P t (Stk σ rows) (n + k) = some (.ptr (n + k) 0, Stk σ (rows ++ [some (.row z)])) := by
  simp only [aAlloc, h, Option.map_some, place_at hn hk]
theorem Alloc_at0 (hn : σ.length = n) {z : List V} (h : zeroT P t = some z) : aAlloc P t (Stk σ []) n = some (.ptr n 0, Stk σ [some (.row z)]) := Alloc_at (rows := []) hn h rfl
theorem Box_at (hn : σ.length = n) {x : V} {k : Nat} (hk : rows.length = k) : aBox t (Stk σ rows) (n + k) x = x.cells.map fun cs => (.ptr (n + k) 0, Stk σ (rows ++ [some (.row cs)])) := by
  simp only [aBox, place_at hn hk]
theorem Box_at0 (hn : σ.length = n) {x : V} : aBox t (Stk σ []) n x = x.cells.map fun cs => (.ptr n 0, Stk σ [some (.row cs)]) := Box_at (rows := []) hn rfl
theorem Store_ptr {sz : Nat} (hs : sizeT P t = some sz) {s : H} {b o : Nat} {v : V} : aStore P t s (.ptr b o) v = (rowAt s b).bind fun cells => v.cells.bind fun cs => if sz = cs.length ∧ o + cs.length ≤ cells.length ∧ cs.all V.one = true then some (upd s b (splice cells o cs)) else none := by
  unfold aStore
  cases h1 : rowAt s b with
  | none => simp [h1]
  | some cells =>
    cases h2 : v.cells with
    | none => simp [h1, h2]
    | some cs => simp only [h1, h2, hs, Option.bind_some, Option.some.injEq, upd]
end laws

theorem one_int {k : IntKind} {n : Int} : (V.int k n).one = true := rfl
theorem one_bool {b : Bool} : (V.bool b).one = true := rfl
theorem one_str {b : ByteArray} : (V.str b).one = true := rfl
theorem one_ps {s : Nat} {xs : List V} : (V.ps s xs).one = true := rfl
theorem one_sl {b o l s : Nat} : (V.sl b o l s).one = true := rfl
theorem one_snil : V.snil.one = true := rfl
theorem one_ptr {b o : Nat} : (V.ptr b o).one = true := rfl
theorem one_nil : V.nil.one = true := rfl
theorem one_fn {f : Nat} {xs : List V} : (V.fn f xs).one = true := rfl
theorem one_mp {b : Nat} : (V.mp b).one = true := rfl

/-! ### Where heaps begin -/

theorem W_stk {P : Program} {pl : Pln} {c : Code} {f : Fr} {σ : H} {Q : Ex → Fr → H → Prop} (h : W P pl c f (Stk σ []) Q) : W P pl c f σ Q := by rwa [Stk_nil] at h

theorem Spec.introS {P : Program} (hm : P.follows .mixedOrders = true) {g : FuncId} {fn : Func} {c : Code} {args : List V} {σ : H} {Q : Out → H → Prop} (pl : List (Nat × Plan)) (hf : P.funcs[g]? = some fn) (hb : fn.body = some c) (hp : planned pl c = true) (nt : Nat) (hnt : fn.ntmps = nt) (rs : List ResultVar) (hrs : fn.results.toList = rs) (hn : args.length ≤ nt)
    (h : W P ⟨σ.length, pl⟩ c (Fr.init nt args) (Stk σ []) (End P rs Q)) : Spec P g args σ Q :=
  Spec.introW hm pl hf hb hp nt hnt rs hrs hn (W_stk h)


/-! ### Closed heaps -/

mutual
/-- All names are lower. -/
def V.low (n : Nat) : V → Bool
  | .ptr b _ => decide (b < n)
  | .sl b _ _ _ => decide (b < n)
  | .mp b => decide (b < n)
  | .agg cs => lowL n cs
  | .tup cs => lowL n cs
  | .fn _ cs => lowL n cs
  | .ifc _ v => v.low n
  | .int _ _ => true
  | .bool _ => true
  | .str _ => true
  | .nil => true
  | .pp _ _ => true
  | .snil => true
  | .ps _ _ => true
  | .fnil => true
  | .inil => true
  | .mnil => true
  | .unk => true
def lowL (n : Nat) : List V → Bool
  | [] => true
  | c :: cs => c.low n && lowL n cs
end

theorem lowL_mem {n : Nat} : ∀ {cs : List V}, lowL n cs = true → ∀ c, c ∈ cs → c.low n = true
  | [], _, c, h => by cases h
  | d :: cs, hp, c, h => by
    simp only [lowL, Bool.and_eq_true] at hp
    rcases List.mem_cons.1 h with rfl | h
    · exact hp.1
    · exact lowL_mem hp.2 c h
theorem lowL_of {n : Nat} : ∀ {cs : List V}, (∀ c, c ∈ cs → c.low n = true) → lowL n cs = true
  | [], _ => rfl
  | d :: cs, hp => by
    simp only [lowL, Bool.and_eq_true]
    exact ⟨hp d (by simp), lowL_of fun c hc => hp c (by simp [hc])⟩

theorem VR.lows {w : World} {ro : Nat → Prop} {m : Pl} {n : Nat} (hd : ∀ b p, m b = some p → b < n) {v : V} {u : Value} (h : VR w ro m v u) : v.low n = true := by
  have each : ∀ {cs : List V} {us : Array Value}, cs.length = us.size → (∀ (j : Nat) (c : V) (x : Value), cs[j]? = some c → us[j]? = some x → c.low n = true) → lowL n cs = true := fun hl ih => lowL_of fun c hc => by
    obtain ⟨j, hj⟩ := List.getElem?_of_mem hc
    obtain ⟨x, hx⟩ := somA_of_lt (hl ▸ lt_of_some hj)
    exact ih j c x hj hx
  induction h with
  | ptr h => simp [V.low, hd _ _ h]
  | sl h => simp [V.low, hd _ _ h]
  | mp h => simp [V.low, hd _ _ h]
  | agg hl _ ih => simp only [V.low]; exact each hl ih
  | tup hl _ ih => simp only [V.low]; exact each hl ih
  | fn hl _ ih => simp only [V.low]; exact each hl ih
  | ifc _ ih => simpa only [V.low] using ih
  | _ => rfl

def Ent.low (n : Nat) : Ent → Prop
  | .row cells => lowL n cells = true
  | .mapE es => ∀ e, e ∈ es → e.1.low n = true ∧ e.2.low n = true

/-- All names that stand in a heap are its own. -/
def Clo (σ : H) : Prop := ∀ (b : Nat) (e : Ent), σ[b]? = some (some e) → e.low σ.length

theorem HeapOk.clo {w : World} {ro : Nat → Prop} {m : Pl} {σ : H} (h : HeapOk w ro m σ) : Clo σ := fun b e hb => by
  cases e with
  | row cells =>
    obtain ⟨B, D, cs, e, _, _, _, h4⟩ := h.row b cells hb
    refine lowL_of fun c hc => ?_
    obtain ⟨j, hj⟩ := List.getElem?_of_mem hc
    obtain ⟨v, _, hv⟩ := h4 j c hj
    exact hv.lows h.dom
  | mapE es =>
    obtain ⟨B, arr, clock, _, _, _, h4, h5⟩ := h.mapE b es hb
    intro e he
    obtain ⟨j, hj⟩ := List.getElem?_of_mem he
    obtain ⟨a, ha⟩ := somA_of_lt (h4 ▸ lt_of_some hj)
    exact ⟨(h5 j e a hj ha).1.lows h.dom, (h5 j e a hj ha).2.lows h.dom⟩

theorem Spec.clo {P : Program} {g : FuncId} {args : List V} {σ : H} {Q : Out → H → Prop} (h : Clo σ → Spec P g args σ Q) : Spec P g args σ Q := fun w ro m vs ha hσ => h hσ.clo w ro m vs ha hσ

theorem Clo.upd {σ : H} (h : Clo σ) {b : Nat} {r : List V} (hr : lowL σ.length r = true) : Clo (Am.upd σ b r) := fun b' e he => by
  rw [upd_len]
  by_cases q : b = b'
  · subst q
    have hl : b < σ.length := by have := lt_of_some he; rwa [upd_len] at this
    unfold Am.upd at he
    rw [List.getElem?_set_self hl] at he
    cases he
    exact hr
  · rw [get_upd_ne q] at he
    exact h b' e he
theorem Clo.kil {σ : H} (h : Clo σ) {b : Nat} : Clo (Am.kil σ b) := fun b' e he => by
  rw [kil_len]
  by_cases q : b = b'
  · subst q
    have hl : b < σ.length := by have := lt_of_some he; rwa [kil_len] at this
    unfold Am.kil at he
    rw [List.getElem?_set_self hl] at he
    cases he
  · rw [get_kil_ne q] at he
    exact h b' e he

/-! ### Heaps written as a base and rows, told anew -/

/-- Of a new name the old one: below n the same, above as the list says. -/
def oldS (n : Nat) (ρ : List (Option Nat)) (b : Nat) : Option Nat := if b < n then some b else (ρ[b - n]?).join.map (n + ·)
theorem oldS_lt {n : Nat} {ρ : List (Option Nat)} {b : Nat} (h : b < n) : oldS n ρ b = some b := by simp [oldS, h]
theorem oldS_at {n : Nat} {ρ : List (Option Nat)} {j : Nat} : oldS n ρ (n + j) = (ρ[j]?).join.map (n + ·) := by
  unfold oldS
  rw [if_neg (by omega), Nat.add_sub_cancel_left]
theorem oldS_at0 {n : Nat} {ρ : List (Option Nat)} : oldS n ρ n = (ρ[0]?).join.map (n + ·) := by simp [oldS]
/-- The names that have gone. -/
def goneS (n : Nat) (ρ : List (Option Nat)) (b : Nat) : Prop := n ≤ b ∧ ρ.all (fun r => decide (r ≠ some (b - n))) = true
theorem goneS_at {n : Nat} {ρ : List (Option Nat)} {j : Nat} : goneS n ρ (n + j) ↔ ρ.all (fun r => decide (r ≠ some j)) = true := by simp [goneS]
theorem goneS_at0 {n : Nat} {ρ : List (Option Nat)} : goneS n ρ n ↔ ρ.all (fun r => decide (r ≠ some 0)) = true := by simp [goneS]

def onceS : List (Option Nat) → Bool
  | [] => true
  | none :: r => onceS r
  | some i :: r => r.all (fun x => decide (x ≠ some i)) && onceS r
theorem onceS_ok : ∀ {ρ : List (Option Nat)}, onceS ρ = true → ∀ (i j x : Nat), ρ[i]? = some (some x) → ρ[j]? = some (some x) → i = j
  | [], _, i, j, x, h1, _ => by simp at h1
  | a :: r, h, i, j, x, h1, h2 => by
    have hr : onceS r = true := by
      cases a with
      | none => exact h
      | some y => simp only [onceS, Bool.and_eq_true] at h; exact h.2
    have ha : ∀ y, a = some y → ∀ k : Nat, r[k]? ≠ some (some y) := fun y e k hk => by
      subst e
      simp only [onceS, Bool.and_eq_true, List.all_eq_true] at h
      have := h.1 _ (List.mem_of_getElem? hk)
      simp at this
    cases i with
    | zero =>
      cases j with
      | zero => rfl
      | succ j => simp at h1 h2; exact absurd h2 (ha x h1 j)
    | succ i =>
      cases j with
      | zero => simp at h1 h2; exact absurd h1 (ha x h2 i)
      | succ j => simp at h1 h2; rw [onceS_ok hr i j x h1 h2]

/-- Cells told anew. -/
def RowCn (s : H) (old : Nat → Option Nat) (N : Nat → Prop) (cells cells' : List V) : Prop := ∀ (j : Nat) (c' : V), cells'[j]? = some c' → ∃ c, cells[j]? = some c ∧ Cn s old N c c'
def EntCn (s : H) (old : Nat → Option Nat) (N : Nat → Prop) : Option (Option Ent) → Ent → Prop
  | some (some (.row cells)), .row cells' => RowCn s old N cells cells'
  | some (some (.mapE es)), .mapE es' => es'.length = es.length ∧ ∀ (j : Nat) (e e' : V × V), es[j]? = some e → es'[j]? = some e' → Cn s old N e.1 e'.1 ∧ Cn s old N e.2 e'.2
  | _, _ => False
/-- Rows told anew. -/
def RowsCn (s : H) (old : Nat → Option Nat) (N : Nat → Prop) (rows : List (Option Ent)) : List (Option Nat) → List (Option Ent) → Prop
  | [], [] => True
  | _ :: ρ, none :: r => RowsCn s old N rows ρ r
  | some i :: ρ, some e :: r => EntCn s old N rows[i]? e ∧ RowsCn s old N rows ρ r
  | _, _ => False

theorem RowsCn.get {s : H} {old : Nat → Option Nat} {N : Nat → Prop} {rows : List (Option Ent)} : ∀ {ρ : List (Option Nat)} {rows' : List (Option Ent)}, RowsCn s old N rows ρ rows' → rows'.length = ρ.length ∧ ∀ (j : Nat) (e : Ent), rows'[j]? = some (some e) → ∃ i, ρ[j]? = some (some i) ∧ EntCn s old N rows[i]? e
  | [], [], _ => ⟨rfl, fun j e h => by simp at h⟩
  | a :: ρ, none :: r, h => by
    have h : RowsCn s old N rows ρ r := by cases a <;> exact h
    obtain ⟨h1, h2⟩ := h.get
    refine ⟨by simp [h1], fun j e he => ?_⟩
    cases j with
    | zero => simp at he
    | succ j => simpa using h2 j e (by simpa using he)
  | some i :: ρ, some e0 :: r, h => by
    obtain ⟨h1, h2⟩ := h.2.get
    refine ⟨by simp [h1], fun j e he => ?_⟩
    cases j with
    | zero => simp at he; subst he; exact ⟨i, rfl, h.1⟩
    | succ j => simpa using h2 j e (by simpa using he)
  | [], _ :: _, h => h.elim
  | none :: _, some _ :: _, h => h.elim
  | _ :: _, [], h => by rename_i a _; cases a <;> exact h.elim

theorem Cn.low {s : H} {old : Nat → Option Nat} {N : Nat → Prop} {n : Nat} (ho : ∀ b, b < n → old b = some b) : ∀ (v : V), v.low n = true → Cn s old N v v
  | .ptr b o, h => .ptr (ho b (by simpa [V.low] using h))
  | .sl b o l z, h => .sl (ho b (by simpa [V.low] using h))
  | .mp b, h => .mp (ho b (by simpa [V.low] using h))
  | .agg cs, h => .agg rfl fun j c c' h1 h2 => by
    rw [h1] at h2; cases h2
    exact Cn.low ho c (lowL_mem (by simpa only [V.low] using h) c (List.mem_of_getElem? h1))
  | .tup cs, h => .tup rfl fun j c c' h1 h2 => by
    rw [h1] at h2; cases h2
    exact Cn.low ho c (lowL_mem (by simpa only [V.low] using h) c (List.mem_of_getElem? h1))
  | .fn f cs, h => .fn rfl fun j c c' h1 h2 => by
    rw [h1] at h2; cases h2
    exact Cn.low ho c (lowL_mem (by simpa only [V.low] using h) c (List.mem_of_getElem? h1))
  | .ifc t v, h => .ifc (Cn.low ho v (by simpa only [V.low] using h))
  | .int _ _, _ => .rd 0 ⟨rfl, rfl⟩
  | .bool _, _ => .rd 0 ⟨rfl, rfl⟩
  | .str _, _ => .rd 0 ⟨rfl, rfl⟩
  | .nil, _ => .rd 0 ⟨rfl, rfl⟩
  | .pp _ _, _ => .rd 0 ⟨rfl, rfl⟩
  | .snil, _ => .rd 0 ⟨rfl, rfl⟩
  | .ps _ _, _ => .rd 0 ⟨rfl, rfl⟩
  | .fnil, _ => .rd 0 ⟨rfl, rfl⟩
  | .inil, _ => .rd 0 ⟨rfl, rfl⟩
  | .mnil, _ => .rd 0 ⟨rfl, rfl⟩
  | .unk, _ => .rd 0 ⟨rfl, rfl⟩
  termination_by v => v
  decreasing_by
    all_goals simp_wf
    all_goals first | (have := List.sizeOf_lt_of_mem (List.mem_of_getElem? h1); omega) | omega

theorem HeapCn.stk {σ : H} {rows rows' : List (Option Ent)} {n : Nat} (hn : σ.length = n) (hclo : Clo σ) (ρ : List (Option Nat)) (ho : onceS ρ = true) (hr : RowsCn (Stk σ rows) (oldS n ρ) (goneS n ρ) rows ρ rows') :
    HeapCn n (Stk σ rows) (oldS n ρ) (goneS n ρ) (Stk σ rows') := by
  subst hn
  obtain ⟨hl, hg⟩ := hr.get
  have above : ∀ {b b0 : Nat}, ¬ b < σ.length → oldS σ.length ρ b = some b0 → ∃ i, ρ[b - σ.length]? = some (some i) ∧ b0 = σ.length + i := fun {b b0} h he => by
    simp only [oldS, if_neg h] at he
    cases hq : ρ[b - σ.length]? with
    | none => rw [hq] at he; cases he
    | some o =>
      cases o with
      | none => rw [hq] at he; cases he
      | some i => rw [hq] at he; simp at he; exact ⟨i, rfl, he.symm⟩
  have split : ∀ (b : Nat) (r : List (Option Ent)), ¬ b < σ.length → (Stk σ r)[b]? = r[b - σ.length]? := fun b r h => by
    unfold Stk
    rw [List.getElem?_append_right (by omega)]
  refine ⟨fun b hb => oldS_lt hb, fun b' b h => ?_, fun b1 b2 b h1 h2 => ?_, fun b b' hN h => ?_, fun b' cells' h => ?_, fun b' es' h => ?_, by rw [Stk_len]; omega⟩
  · rw [Stk_len, hl]
    by_cases q : b' < σ.length
    · omega
    · obtain ⟨i, h1, _⟩ := above q h
      have := lt_of_some h1
      omega
  · by_cases q1 : b1 < σ.length
    · rw [oldS_lt q1] at h1
      cases h1
      by_cases q2 : b2 < σ.length
      · rw [oldS_lt q2] at h2; cases h2; rfl
      · obtain ⟨i, _, e⟩ := above q2 h2; omega
    · obtain ⟨i, g1, e1⟩ := above q1 h1
      by_cases q2 : b2 < σ.length
      · rw [oldS_lt q2] at h2; cases h2; omega
      · obtain ⟨j, g2, e2⟩ := above q2 h2
        obtain rfl : i = j := by omega
        have := onceS_ok ho _ _ _ g1 g2
        omega
  · by_cases q : b' < σ.length
    · rw [oldS_lt q] at h; cases h; have := hN.1; omega
    · obtain ⟨i, g, e⟩ := above q h
      have := List.all_eq_true.1 hN.2 _ (List.mem_of_getElem? g)
      simp at this
      omega
  · by_cases q : b' < σ.length
    · rw [get_old q] at h
      refine ⟨b', cells', oldS_lt q, by rw [get_old q]; exact h, fun j c' hj => ⟨c', hj, Cn.low (fun b hb => oldS_lt hb) c' ?_⟩⟩
      exact lowL_mem (hclo b' _ h) c' (List.mem_of_getElem? hj)
    · rw [split _ _ q] at h
      obtain ⟨i, h1, h2⟩ := hg _ _ h
      have e1 : oldS σ.length ρ b' = some (σ.length + i) := by simp [oldS, q, h1]
      cases hq : rows[i]? with
      | none => rw [hq] at h2; exact h2.elim
      | some o =>
        cases o with
        | none => rw [hq] at h2; exact h2.elim
        | some e =>
          cases e with
          | mapE es => rw [hq] at h2; exact h2.elim
          | row cells =>
            rw [hq] at h2
            exact ⟨_, cells, e1, by rw [get_stk rfl]; exact hq, h2⟩
  · by_cases q : b' < σ.length
    · rw [get_old q] at h
      refine ⟨b', es', oldS_lt q, by rw [get_old q]; exact h, rfl, fun j e e' h1 h2 => ?_⟩
      rw [h1] at h2; cases h2
      have := hclo b' _ h e (List.mem_of_getElem? h1)
      exact ⟨Cn.low (fun b hb => oldS_lt hb) _ this.1, Cn.low (fun b hb => oldS_lt hb) _ this.2⟩
    · rw [split _ _ q] at h
      obtain ⟨i, h1, h2⟩ := hg _ _ h
      have e1 : oldS σ.length ρ b' = some (σ.length + i) := by simp [oldS, q, h1]
      cases hq : rows[i]? with
      | none => rw [hq] at h2; exact h2.elim
      | some o =>
        cases o with
        | none => rw [hq] at h2; exact h2.elim
        | some e =>
          cases e with
          | row cells => rw [hq] at h2; exact h2.elim
          | mapE es =>
            rw [hq] at h2
            exact ⟨_, es, e1, by rw [get_stk rfl]; exact hq, h2⟩

/-- The slots of a frame told anew. -/
def SlotsCn (s : H) (old : Nat → Option Nat) (N : Nat → Prop) (m : List (Nat × V)) : List (Nat × V) → Prop
  | [] => True
  | (t, v) :: r => Cn s old N (look m t) v ∧ SlotsCn s old N m r
theorem SlotsCn.get {s : H} {old : Nat → Option Nat} {N : Nat → Prop} {m : List (Nat × V)} : ∀ {l : List (Nat × V)}, SlotsCn s old N m l → ∀ t, Cn s old N (look m t) (look l t)
  | [], _, t => .unk _
  | (k, v) :: r, h, t => by
    by_cases q : k = t
    · subst q
      have e : look ((k, v) :: r) k = v := by simp [look]
      rw [e]; exact h.1
    · have e : look ((k, v) :: r) t = look r t := by simp [look, q]
      rw [e]; exact h.2.get t

theorem Weak.stk {σ : H} {rows rows' : List (Option Ent)} {n k : Nat} {m l : List (Nat × V)} (hn : σ.length = n) (hclo : Clo σ) (ρ : List (Option Nat)) (ho : onceS ρ = true) (hr : RowsCn (Stk σ rows) (oldS n ρ) (goneS n ρ) rows ρ rows')
    (hs : SlotsCn (Stk σ rows) (oldS n ρ) (goneS n ρ) m l) : Weak n ⟨k, m⟩ (Stk σ rows) ⟨k, l⟩ (Stk σ rows') :=
  WeakG.weak (WeakG.canon _ _ (HeapCn.stk hn hclo ρ ho hr) hs.get)

theorem SetQ.stk {σ : H} {rows rows' : List (Option Ent)} {n : Nat} {v v' : V} {Q : Out → H → Prop} (hn : σ.length = n) (hclo : Clo σ) (ρ : List (Option Nat)) (ho : onceS ρ = true) (hr : RowsCn (Stk σ rows) (oldS n ρ) (goneS n ρ) rows ρ rows')
    (hv : Cn (Stk σ rows) (oldS n ρ) (goneS n ρ) v v') (hq : Q (.ret v') (Stk σ rows')) : SetQ n Q (.ret v) (Stk σ rows) :=
  ⟨v', _, WeakG.canon _ _ (HeapCn.stk hn hclo ρ ho hr) (fun _ => hv), hq⟩

/-- All of a function's own rows are gone behind it. -/
theorem SetQ.done {σ : H} {rows : List (Option Ent)} {n : Nat} {v v' : V} {Q : Out → H → Prop} (hn : σ.length = n) (hclo : Clo σ) (hv : Cn (Stk σ rows) (oldS n []) (goneS n []) v v') (hq : Q (.ret v') σ) : SetQ n Q (.ret v) (Stk σ rows) :=
  SetQ.stk hn hclo [] rfl (rows' := []) trivial hv (by rw [Stk_nil]; exact hq)

section cn
variable {s : H} {old : Nat → Option Nat} {N : Nat → Prop}
theorem Cn.same {v : V} (h : v.pure = true) : Cn s old N v v := .rd 0 ⟨rfl, h⟩
theorem Cn_unk {v : V} : Cn s old N v .unk ↔ True := ⟨fun _ => trivial, fun _ => .unk v⟩
theorem Cn_int {k k' : IntKind} {a b : Int} : Cn s old N (.int k a) (.int k' b) ↔ k' = k ∧ b = a := by
  refine ⟨fun h => ?_, fun h => by obtain ⟨rfl, rfl⟩ := h; exact Cn.same rfl⟩
  cases h with
  | rd d h =>
    cases d <;> (obtain ⟨h1, _⟩ := h; cases h1; exact ⟨rfl, rfl⟩)
theorem Cn_bool {a b : Bool} : Cn s old N (.bool a) (.bool b) ↔ b = a := by
  refine ⟨fun h => ?_, fun h => by subst h; exact Cn.same rfl⟩
  cases h with
  | rd d h => cases d <;> (obtain ⟨h1, _⟩ := h; cases h1; rfl)
theorem Cn_str {a b : ByteArray} : Cn s old N (.str a) (.str b) ↔ b = a := by
  refine ⟨fun h => ?_, fun h => by subst h; exact Cn.same rfl⟩
  cases h with
  | rd d h => cases d <;> (obtain ⟨h1, _⟩ := h; cases h1; rfl)
theorem Cn_ps {z z' : Nat} {a b : List V} : Cn s old N (.ps z a) (.ps z' b) ↔ z' = z ∧ b = a := by
  refine ⟨fun h => ?_, fun h => by obtain ⟨rfl, rfl⟩ := h; exact Cn.same rfl⟩
  cases h with
  | rd d h => cases d <;> (obtain ⟨h1, _⟩ := h; cases h1; exact ⟨rfl, rfl⟩)
theorem Cn_snil : Cn s old N .snil .snil ↔ True := ⟨fun _ => trivial, fun _ => Cn.same rfl⟩
theorem Cn_snil_ps {z : Nat} : Cn s old N .snil (.ps z []) ↔ True := ⟨fun _ => trivial, fun _ => .rd 1 (.inr ⟨z, rfl⟩)⟩
theorem Cn_nil : Cn s old N .nil .nil ↔ True := ⟨fun _ => trivial, fun _ => Cn.same rfl⟩
theorem Cn_inil : Cn s old N .inil .inil ↔ True := ⟨fun _ => trivial, fun _ => Cn.same rfl⟩
theorem Cn_mnil : Cn s old N .mnil .mnil ↔ True := ⟨fun _ => trivial, fun _ => Cn.same rfl⟩
theorem Cn_fnil : Cn s old N .fnil .fnil ↔ True := ⟨fun _ => trivial, fun _ => Cn.same rfl⟩
theorem Cn_pp {r r' : List V} {o o' : Nat} : Cn s old N (.pp r o) (.pp r' o') ↔ r' = r ∧ o' = o := by
  refine ⟨fun h => ?_, fun h => by obtain ⟨rfl, rfl⟩ := h; exact Cn.same rfl⟩
  cases h with
  | rd d h => cases d <;> (obtain ⟨h1, _⟩ := h; cases h1; exact ⟨rfl, rfl⟩)
theorem Cn_ptr {b b' o o' : Nat} : Cn s old N (.ptr b o) (.ptr b' o') ↔ old b' = some b ∧ o' = o := by
  refine ⟨fun h => ?_, fun h => by obtain ⟨h, rfl⟩ := h; exact .ptr h⟩
  cases h with
  | rd d h => cases d <;> (obtain ⟨_, h1⟩ := h; simp [V.pure] at h1)
  | ptr h => exact ⟨h, rfl⟩
theorem Cn_sl {b b' o o' l l' z z' : Nat} : Cn s old N (.sl b o l z) (.sl b' o' l' z') ↔ old b' = some b ∧ o' = o ∧ l' = l ∧ z' = z := by
  refine ⟨fun h => ?_, fun h => by obtain ⟨h, rfl, rfl, rfl⟩ := h; exact .sl h⟩
  cases h with
  | rd d h =>
    cases d with
    | zero => obtain ⟨_, h1⟩ := h; simp [V.pure] at h1
    | succ d => obtain ⟨xs, row, h1, _⟩ := h; cases h1
  | sl h => exact ⟨h, rfl, rfl, rfl⟩
theorem Cn_mp {b b' : Nat} : Cn s old N (.mp b) (.mp b') ↔ old b' = some b := by
  refine ⟨fun h => ?_, fun h => .mp h⟩
  cases h with
  | rd d h => cases d <;> (obtain ⟨_, h1⟩ := h; simp [V.pure] at h1)
  | mp h => exact h
/-- Lists of values told anew. -/
def CnL (s : H) (old : Nat → Option Nat) (N : Nat → Prop) : List V → List V → Prop
  | [], [] => True
  | c :: cs, c' :: cs' => Cn s old N c c' ∧ CnL s old N cs cs'
  | _, _ => False
theorem CnL.get : ∀ {cs cs' : List V}, CnL s old N cs cs' → cs'.length = cs.length ∧ ∀ (j : Nat) (c c' : V), cs[j]? = some c → cs'[j]? = some c' → Cn s old N c c'
  | [], [], _ => ⟨rfl, fun j c c' h => by simp at h⟩
  | c :: cs, c' :: cs', h => by
    obtain ⟨h1, h2⟩ := h.2.get
    refine ⟨by simp [h1], fun j x x' hx hx' => ?_⟩
    cases j with
    | zero => simp at hx hx'; subst hx hx'; exact h.1
    | succ j => simp at hx hx'; exact h2 j x x' hx hx'
  | [], _ :: _, h => h.elim
  | _ :: _, [], h => h.elim
theorem Cn.aggL {cs cs' : List V} (h : CnL s old N cs cs') : Cn s old N (.agg cs) (.agg cs') := .agg h.get.1 h.get.2
theorem Cn.tupL {cs cs' : List V} (h : CnL s old N cs cs') : Cn s old N (.tup cs) (.tup cs') := .tup h.get.1 h.get.2
theorem Cn.fnL {f : Nat} {cs cs' : List V} (h : CnL s old N cs cs') : Cn s old N (.fn f cs) (.fn f cs') := .fn h.get.1 h.get.2
theorem RowCn_nil {cs : List V} : RowCn s old N cs [] ↔ True := ⟨fun _ => trivial, fun _ j c h => by simp at h⟩
theorem RowCn_cons {c c' : V} {cs cs' : List V} : RowCn s old N (c :: cs) (c' :: cs') ↔ Cn s old N c c' ∧ RowCn s old N cs cs' := by
  refine ⟨fun h => ⟨?_, fun j x hx => ?_⟩, fun h j x hx => ?_⟩
  · obtain ⟨y, h1, h2⟩ := h 0 c' rfl
    simp at h1; subst h1; exact h2
  · obtain ⟨y, h1, h2⟩ := h (j + 1) x (by simpa using hx)
    exact ⟨y, by simpa using h1, h2⟩
  · cases j with
    | zero => simp at hx; subst hx; exact ⟨c, rfl, h.1⟩
    | succ j => simpa using h.2 j x (by simpa using hx)
theorem RowCn.same {cs : List V} (h : pureL cs = true) : RowCn s old N cs cs := fun j c hj => ⟨c, hj, Cn.same (pureL_mem h c (List.mem_of_getElem? hj))⟩
theorem RowCn.app {a b a' b' : List V} (hl : a.length = a'.length) (h : RowCn s old N a a') (k : RowCn s old N b b') : RowCn s old N (a ++ b) (a' ++ b') := fun j c hj => by
  by_cases q : j < a'.length
  · rw [List.getElem?_append_left q] at hj
    rw [List.getElem?_append_left (by omega)]
    exact h j c hj
  · rw [List.getElem?_append_right (by omega)] at hj
    rw [List.getElem?_append_right (by omega), hl]
    exact k _ c hj
theorem RowsCn_nil {rows : List (Option Ent)} : RowsCn s old N rows [] [] ↔ True := .rfl
theorem RowsCn_gone {rows r : List (Option Ent)} {a : Option Nat} {ρ : List (Option Nat)} : RowsCn s old N rows (a :: ρ) (none :: r) ↔ RowsCn s old N rows ρ r := by cases a <;> exact .rfl
theorem RowsCn_cons {rows r : List (Option Ent)} {i : Nat} {e : Ent} {ρ : List (Option Nat)} : RowsCn s old N rows (some i :: ρ) (some e :: r) ↔ EntCn s old N rows[i]? e ∧ RowsCn s old N rows ρ r := .rfl
theorem EntCn_row {cells cells' : List V} : EntCn s old N (some (some (.row cells))) (.row cells') ↔ RowCn s old N cells cells' := .rfl
theorem SlotsCn_nil {m : List (Nat × V)} : SlotsCn s old N m [] ↔ True := .rfl
theorem SlotsCn_cons {m : List (Nat × V)} {t : Nat} {v : V} {r : List (Nat × V)} : SlotsCn s old N m ((t, v) :: r) ↔ Cn s old N (look m t) v ∧ SlotsCn s old N m r := .rfl
end cn

/-! ### Loops whose frame and heap are told by a state -/

def RndC {St : Type} (k : Nat) (F : St → Fr) (S : St → H) (J : Nat → St → Prop) (n : Nat) (Q : Ex → Fr → H → Prop) : Ex → Fr → H → Prop
  | .normal, f, σ => ∃ n', n' < n ∧ ∃ st, J n' st ∧ Weak k f σ (F st) (S st)
  | e, f, σ => Q e f σ

section loops
variable {St : Type} {P : Program} {pl : Pln} {f : Fr} {σ : H} {Q : Ex → Fr → H → Prop} {k : Nat} {F : St → Fr} {S : St → H} {J : Nat → St → Prop} {n : Nat}
theorem W_loopC {c : Code} (F : St → Fr) (S : St → H) (J : Nat → St → Prop) (n : Nat) (st : St) (h0 : J n st) (hw : Weak pl.k f σ (F st) (S st)) (hs : ∀ n st, J n st → W P pl c (F st) (S st) (RndC pl.k F S J n Q)) : W P pl (.loop c) f σ Q :=
  ⟨fun n f σ => ∃ st, J n st ∧ f = F st ∧ σ = S st, n, F st, S st, hw, ⟨st, h0, rfl, rfl⟩, fun n f σ hi => by
    obtain ⟨st, h1, rfl, rfl⟩ := hi
    refine (hs n st h1).mono fun e f σ hq => ?_
    cases e with
    | normal =>
      obtain ⟨n', h2, st', h3, h4⟩ := hq
      exact ⟨n', h2, F st', S st', h4, st', h3, rfl, rfl⟩
    | _ => exact hq⟩
theorem RndC.mk {f : Fr} {σ : H} (n' : Nat) (st : St) (h1 : n' < n) (h2 : J n' st) (h3 : Weak k f σ (F st) (S st)) : RndC k F S J n Q .normal f σ := ⟨n', h1, st, h2, h3⟩
theorem RndC_ret {f : Fr} {σ : H} : RndC k F S J n Q .ret f σ ↔ Q .ret f σ := .rfl
theorem RndC_exit {f : Fr} {σ : H} {id : Nat} : RndC k F S J n Q (.exit id) f σ ↔ Q (.exit id) f σ := .rfl
theorem RndC_pan {f : Fr} {σ : H} {v : V} : RndC k F S J n Q (.pan v) f σ ↔ Q (.pan v) f σ := .rfl
end loops

/-- A function that gives a plain value and leaves behind nothing but rows of its own. -/
theorem Spec.plain1 {P : Program} {g : FuncId} {args : List V} {σ : H} {v : V} (hv : v.pure = true) (h : Spec P g args σ fun o s => Old σ s ∧ o = .ret v) : Spec P g args σ fun o s => s = σ ∧ o = .ret v := by
  refine Spec.clo fun hclo => Spec.weak (h.mono fun o s hq => ?_)
  obtain ⟨hold, rfl⟩ := hq
  have e : s = Stk σ (s.drop σ.length) := by
    unfold Stk
    conv => lhs; rw [← List.take_append_drop σ.length s]
    congr 1
    apply List.ext_getElem?
    intro i
    rw [List.getElem?_take]
    split
    · rename_i hi; exact hold.2 i hi
    · rename_i hi; rw [List.getElem?_eq_none (by omega)]
  rw [e]
  exact SetQ.done rfl hclo (Cn.same hv) ⟨rfl, rfl⟩

end Go.Am
