/- The abstract machine's operations, each with what it says of the model's: new rows, values put together, pieces of slices. -/
import Derived.Test.YtbnegbjaoiplmaaAmE
set_option linter.unusedVariables false
set_option linter.unusedSimpArgs false
namespace Go.Am
open Go

/-! ### New rows -/

theorem Fine.new {P : Program} {s : Sem Value} {w w1 : World} {ro : Nat → Prop} {m : Pl} {nm : Nat} {σ : H} (hσ : HeapOk w ro m σ) (hn : nm ≤ σ.length) (hm : m nm = none)
    (hh : w1.heap = w.heap) (ho : w1.os = w.os) (ht : w1.tape = w.tape) (hp : w1.output = w.output)
    {cells : List V} {cs : Array Value} {e : TypeId} (hc : ∀ (j : Nat) (c : V), cells[j]? = some c → ∃ v : Value, cs[j]? = some v ∧ VR w ro m c v) {v : V} {v' : Value}
    (h : s.run P w = .ok v' (w1.alloc (.cells cs e))) (hv : VR (w1.alloc (.cells cs e)) ro (m.put nm (w.heap.size, 0)) v v') :
    Fine P s w ro m nm v (H.place σ nm (.row cells)) := by
  have hσ1 : HeapOk w1 ro m σ := hσ.keep hh
  have k1 : Keeps w ro m w1 ro m := (Ext.drawn ro m ho ht hp hh).keeps (fun _ _ h => h)
  have hA := hσ1.alloc hn hm cells cs e (fun j c hj => by obtain ⟨u, h1, h2⟩ := hc j c hj; exact ⟨u, h1, h2.keep k1⟩)
  have hE := (Ext.drawn ro m ho ht hp hh).trans (Ext.alloc w1 ro m (.cells cs e) rfl nm 0 hσ1.mb hσ1.rob)
  rw [hh] at hA hE
  exact ⟨v', _, _, h, hv, hA, hE, Grow.put hm _⟩

theorem rows_of {w : World} {ro : Nat → Prop} {m : Pl} {cs : List V} {vs : Array Value} (hl : cs.length = vs.size) (hv : ∀ (j : Nat) (c : V) (v : Value), cs[j]? = some c → vs[j]? = some v → VR w ro m c v) :
    ∀ (j : Nat) (c : V), cs[j]? = some c → ∃ v : Value, vs[j]? = some v ∧ VR w ro m c v := by
  intro j c hj
  have hlt : j < vs.size := by rw [← hl]; exact (List.getElem?_eq_some_iff.1 hj).1
  exact ⟨vs[j], by simp [hlt], hv j c _ hj (by simp [hlt])⟩

/-- A type's zero value, cell by cell. -/
def zeroT (P : Program) (t : TypeId) : Option (List V) := (P.info? t).bind fun i => i.zero.map fun z => z.cells.toList.map ofVal

theorem zeroT_some {P : Program} {t : TypeId} {z : List V} (h : zeroT P t = some z) : ∃ i zv, P.info? t = some i ∧ i.zero = some zv ∧ z = zv.cells.toList.map ofVal := by
  unfold zeroT at h
  cases hi : P.info? t with
  | none => simp [hi] at h
  | some i =>
    cases hz : i.zero with
    | none => simp [hi, hz] at h
    | some zv => simp [hi, hz] at h; exact ⟨i, zv, rfl, hz, h.symm⟩

theorem ofVals_rows (w : World) (ro : Nat → Prop) (m : Pl) (vs : Array Value) : ∀ (j : Nat) (c : V), (vs.toList.map ofVal)[j]? = some c → ∃ v : Value, vs[j]? = some v ∧ VR w ro m c v := by
  intro j c hj
  rw [List.getElem?_map] at hj
  cases hv : vs.toList[j]? with
  | none => simp [hv] at hj
  | some v => simp [hv] at hj; subst hj; exact ⟨v, by simpa using hv, .ofVal w ro m v⟩

def aAlloc (P : Program) (t : TypeId) (σ : H) (nm : Nat) : Option (V × H) := (zeroT P t).map fun z => (.ptr nm 0, H.place σ nm (.row z))

theorem aAlloc_ok {P : Program} {w : World} {ro : Nat → Prop} {m : Pl} {σ σ' : H} {nm : Nat} (hσ : HeapOk w ro m σ) (hn : nm ≤ σ.length) (hm : m nm = none) {t : TypeId} {v : V} (h : aAlloc P t σ nm = some (v, σ')) :
    Fine P (Instr.alloc t true (.tuple #[])) w ro m nm v σ' := by
  unfold aAlloc at h
  cases hz : zeroT P t with
  | none => simp [hz] at h
  | some z =>
    simp only [hz, Option.map_some, Option.some.injEq, Prod.mk.injEq] at h
    obtain ⟨rfl, rfl⟩ := h
    obtain ⟨i, zv, hi, hzv, rfl⟩ := zeroT_some hz
    refine Fine.new hσ hn hm rfl rfl rfl rfl (ofVals_rows w ro m zv.cells) (e := t) (cs := zv.cells) (v' := .pointer (some ⟨w.heap.size, 0, none⟩)) (by simp [Instr.alloc, zeroValue, typeInfo, hi, hzv, newVar, newRow]) ?_
    exact .ptr (Pl.put_same _ _ _)

def aBox (t : TypeId) (σ : H) (nm : Nat) (x : V) : Option (V × H) := x.cells.map fun cs => (.ptr nm 0, H.place σ nm (.row cs))

theorem aBox_ok {P : Program} {w : World} {ro : Nat → Prop} {m : Pl} {σ σ' : H} {nm : Nat} (hσ : HeapOk w ro m σ) (hn : nm ≤ σ.length) (hm : m nm = none) {t : TypeId} {x v : V} {x' : Value} (hx : VR w ro m x x') (h : aBox t σ nm x = some (v, σ')) :
    Fine P (Instr.box t x') w ro m nm v σ' := by
  unfold aBox at h
  cases hc : x.cells with
  | none => simp [hc] at h
  | some cs =>
    simp only [hc, Option.map_some, Option.some.injEq, Prod.mk.injEq] at h
    obtain ⟨rfl, rfl⟩ := h
    obtain ⟨hl, hv⟩ := hx.cells hc
    refine Fine.new hσ hn hm rfl rfl rfl rfl (rows_of hl hv) (e := t) (v' := .pointer (some ⟨w.heap.size, 0, none⟩)) (by simp [Instr.box, newVar, newRow]) ?_
    exact .ptr (Pl.put_same _ _ _)

/-! ### Values put together -/

def aFill (place : Nat → Option (Nat × Nat)) (cells : List V) : List (Nat × V) → Option (List V)
  | [] => some cells
  | (i, v) :: rest =>
    match place i, v.cells with
    | some (off, size), some cs => if cs.length = size ∧ off + size ≤ cells.length then aFill place (splice cells off cs) rest else none
    | _, _ => none

theorem foldl_set (vs : List Value) (off : Nat) (k : Nat) (arr : Array Value) : ((vs.zipIdx k).foldl (fun cs (c, j) => cs.setIfInBounds (off + j) c) arr).size = arr.size ∧
    ∀ j, ((vs.zipIdx k).foldl (fun cs (c, j) => cs.setIfInBounds (off + j) c) arr)[j]? = if off + k ≤ j ∧ j < off + k + vs.length ∧ j < arr.size then vs[j - (off + k)]? else arr[j]? := by
  induction vs generalizing k arr with
  | nil => simp; intro j h1 h2; omega
  | cons v vs ih =>
    simp only [List.zipIdx_cons, List.foldl_cons]
    obtain ⟨h1, h2⟩ := ih (k + 1) (arr.setIfInBounds (off + k) v)
    refine ⟨by rw [h1]; simp, fun j => ?_⟩
    rw [h2 j]
    simp only [Array.size_setIfInBounds, List.length_cons]
    by_cases q : j = off + k
    · subst q
      rw [if_neg (by omega)]
      by_cases hlt : off + k < arr.size
      · rw [if_pos ⟨by omega, by omega, hlt⟩, Array.getElem?_setIfInBounds_self, if_pos hlt]
        simp
      · rw [if_neg (by omega), Array.getElem?_setIfInBounds_self, if_neg hlt, Array.getElem?_eq_none (by omega)]
    · by_cases q2 : off + k ≤ j ∧ j < off + k + (vs.length + 1) ∧ j < arr.size
      · rw [if_pos (by omega), if_pos q2, show j - (off + k) = (j - (off + (k + 1))) + 1 by omega, List.getElem?_cons_succ]
      · rw [if_neg (by omega), if_neg q2, Array.getElem?_setIfInBounds_ne (fun e => q e.symm)]

theorem aFill_ok {w : World} {ro : Nat → Prop} {m : Pl} {place : Nat → Option (Nat × Nat)} : ∀ (ps : List (Nat × V)) (ps' : List (Nat × Value)) {cells out : List V} {arr : Array Value},
    ps.length = ps'.length → (∀ (j : Nat) (p : Nat × V) (p' : Nat × Value), ps[j]? = some p → ps'[j]? = some p' → p.1 = p'.1 ∧ VR w ro m p.2 p'.2) →
    cells.length = arr.size → (∀ (j : Nat) (c : V) (v : Value), cells[j]? = some c → arr[j]? = some v → VR w ro m c v) → aFill place cells ps = some out →
    ∃ arr', Instr.fill place arr ps' = some arr' ∧ out.length = arr'.size ∧ ∀ (j : Nat) (c : V) (v : Value), out[j]? = some c → arr'[j]? = some v → VR w ro m c v
  | [], [], cells, out, arr, _, _, hl, hv, h => by simp only [aFill, Option.some.injEq] at h; subst h; exact ⟨arr, rfl, hl, hv⟩
  | [], _ :: _, _, _, _, hlen, _, _, _, _ => by simp at hlen
  | _ :: _, [], _, _, _, hlen, _, _, _, _ => by simp at hlen
  | (i, v) :: ps, (i', v') :: ps', cells, out, arr, hlen, hp, hl, hv, h => by
    obtain ⟨rfl, hvv⟩ := hp 0 _ _ rfl rfl
    simp only [aFill] at h
    cases hpl : place i with
    | none => simp [hpl] at h
    | some os =>
      obtain ⟨off, size⟩ := os
      cases hc : v.cells with
      | none => simp [hpl, hc] at h
      | some cs =>
        simp only [hpl, hc] at h
        split at h
        · rename_i hh
          obtain ⟨hcs, hoff⟩ := hh
          obtain ⟨hcl0, hcv⟩ := hvv.cells hc
          have hcl : cs.length = v'.cells.size := hcl0
          obtain ⟨f1, f2⟩ := foldl_set v'.cells.toList off 0 arr
          have hcond : ¬ (v'.cells.size ≠ size ∨ off + v'.cells.size > arr.size) := by omega
          have hz : v'.cells.zipIdx.foldl (fun cs (c, j) => cs.setIfInBounds (off + j) c) arr = (v'.cells.toList.zipIdx 0).foldl (fun cs (c, j) => cs.setIfInBounds (off + j) c) arr := by
            rw [← Array.foldl_toList, Array.toList_zipIdx]
          have hs : (splice cells off cs).length = ((v'.cells.toList.zipIdx 0).foldl (fun cs (c, j) => cs.setIfInBounds (off + j) c) arr).size := by rw [f1]; simp [splice]; omega
          obtain ⟨arr', g1, g2, g3⟩ := aFill_ok ps ps' (by simpa using hlen) (fun j p p' h1 h2 => hp (j + 1) p p' (by simpa using h1) (by simpa using h2)) hs (fun j c u h1 h2 => by
            rw [f2 j] at h2
            simp only [splice] at h1
            rw [splice_get _ _ _ (by omega)] at h1
            simp only [Nat.add_zero, Array.length_toList] at h2
            by_cases q1 : j < off
            · rw [if_pos q1] at h1; rw [if_neg (by omega)] at h2; exact hv j c u h1 h2
            · rw [if_neg q1] at h1
              by_cases q2 : j < off + cs.length
              · rw [if_pos q2] at h1; rw [if_pos (by omega)] at h2; exact hcv (j - off) c u h1 (by simpa using h2)
              · rw [if_neg q2] at h1; rw [if_neg (by omega)] at h2; exact hv j c u h1 h2) h
          refine ⟨arr', ?_, g2, g3⟩
          simp only [Instr.fill, hpl]
          rw [if_neg (by simpa using hcond), hz]
          exact g1
        · cases h

def places (P : Program) (fields : Array Field) : Option (List (Nat × Nat)) := fields.toList.mapM (fun f => (P.info? f.type).map fun i => (f.offset, i.size))

def aBuild (P : Program) (t : TypeId) (ps : List (Nat × V)) : Option V :=
  match zeroT P t, P.underlying t with
  | some z, some (.struct fields) =>
    match places P fields with
    | some pl => (aFill (fun i => pl[i]?) z ps).map .agg
    | none => none
  | some z, some (.array _ e) =>
    match sizeT P e with
    | some s => (aFill (fun i => some (i * s, s)) z ps).map .agg
    | none => none
  | _, _ => none

theorem aBuild_ok {P : Program} {w : World} {ro : Nat → Prop} {m : Pl} {t : TypeId} {ps : List (Nat × V)} {ps' : Array (Nat × Value)} (hl : ps.length = ps'.toList.length)
    (hp : ∀ (j : Nat) (p : Nat × V) (p' : Nat × Value), ps[j]? = some p → ps'.toList[j]? = some p' → p.1 = p'.1 ∧ VR w ro m p.2 p'.2) {v : V} (h : aBuild P t ps = some v) :
    ∃ v', (Instr.build t ps').run P w = .ok v' w ∧ VR w ro m v v' := by
  unfold aBuild at h
  split at h
  · rename_i z fields hz hu
    split at h
    · rename_i pl hpl
      obtain ⟨i, zv, hi, hzv, rfl⟩ := zeroT_some hz
      cases hf : aFill (fun i => pl[i]?) (zv.cells.toList.map ofVal) ps with
      | none => simp [hf] at h
      | some out =>
        simp [hf] at h
        subst h
        obtain ⟨arr, h1, h2, h3⟩ := aFill_ok ps ps'.toList hl hp (arr := zv.cells) (by simp) (fun j c v hj hv => by
          obtain ⟨u, hu1, hu2⟩ := ofVals_rows w ro m zv.cells j c hj; rw [hv] at hu1; cases hu1; exact hu2) hf
        refine ⟨.agg arr, run_build w t ps' arr ?_, .agg h2 h3⟩
        have hpl' : fields.toList.mapM (fun f => (P.info? f.type).map fun i => (f.offset, i.size)) = some pl := hpl
        simp only [Program.built, hi, hu, hzv, hpl']
        simpa using h1
    · cases h
  · rename_i z n e hz hu
    split at h
    · rename_i s hs
      obtain ⟨i, zv, hi, hzv, rfl⟩ := zeroT_some hz
      cases hf : aFill (fun i => some (i * s, s)) (zv.cells.toList.map ofVal) ps with
      | none => simp [hf] at h
      | some out =>
        simp [hf] at h
        subst h
        obtain ⟨arr, h1, h2, h3⟩ := aFill_ok ps ps'.toList hl hp (arr := zv.cells) (by simp) (fun j c v hj hv => by
          obtain ⟨u, hu1, hu2⟩ := ofVals_rows w ro m zv.cells j c hj; rw [hv] at hu1; cases hu1; exact hu2) hf
        refine ⟨.agg arr, run_build w t ps' arr ?_, .agg h2 h3⟩
        unfold sizeT at hs
        cases hie : P.info? e with
        | none => simp [hie] at hs
        | some ie =>
          simp [hie] at hs
          simp only [Program.built, hi, hu, hzv, hie, hs]
          exact h1
    · cases h
  · cases h

/-- So many zero values in a row. -/
def zeros (z : List V) (n : Nat) : List V := (List.replicate n z).flatten

theorem flatten_replicate_get {α : Type} (z : List α) (n j : Nat) (h : j < n * z.length) : (List.replicate n z).flatten[j]? = z[j % z.length]? := by
  induction n generalizing j with
  | zero => simp at h
  | succ n ih =>
    rw [List.replicate_succ, List.flatten_cons]
    by_cases q : j < z.length
    · rw [List.getElem?_append_left q, Nat.mod_eq_of_lt q]
    · rw [List.getElem?_append_right (by omega), ih (j - z.length) (by rw [Nat.add_one_mul] at h; omega)]
      congr 1
      exact (Nat.mod_eq_sub_mod (by omega)).symm

theorem zeros_length (z : List V) (n : Nat) : (zeros z n).length = n * z.length := by simp [zeros]

theorem zeros_rows (w : World) (ro : Nat → Prop) (m : Pl) (zv : Array Value) (n : Nat) {arr : Array Value} (hs : n * zv.size ≤ arr.size) (ha : ∀ j, j < n * zv.size → arr[j]? = zv[j % zv.size]?) :
    ∀ (j : Nat) (c : V), (zeros (zv.toList.map ofVal) n)[j]? = some c → ∃ v : Value, arr[j]? = some v ∧ VR w ro m c v := by
  intro j c hj
  have hlt : j < n * zv.size := by have := (List.getElem?_eq_some_iff.1 hj).1; rw [zeros_length] at this; simpa using this
  rw [zeros, flatten_replicate_get _ _ _ (by simpa using hlt)] at hj
  simp only [List.length_map, Array.length_toList] at hj
  rw [ha j hlt]
  exact ofVals_rows w ro m zv _ c hj

theorem madeCells_get (zv : Array Value) (n j : Nat) (hj : j < n * zv.size) : ((Array.range (n * zv.size)).map (zv[· % zv.size]!))[j]? = zv[j % zv.size]? := by
  have hz : 0 < zv.size := by
    rcases Nat.eq_zero_or_pos zv.size with h | h
    · rw [h] at hj; simp at hj
    · exact h
  have hm : j % zv.size < zv.size := Nat.mod_lt _ hz
  simp [hj, hm]

def aBuildSlice (P : Program) (t : TypeId) (len : Nat) (ps : List (Nat × V)) (σ : H) (nm : Nat) : Option (V × H) :=
  match P.underlying t with
  | some (.slice e) =>
    match sizeT P e, zeroT P e with
    | some s, some z => if z.length = s ∧ 0 < s ∧ len * s ≤ 2 ^ 24 then (aFill (fun i => some (i * s, s)) (zeros z len) ps).map fun cells => (.sl nm 0 len s, H.place σ nm (.row cells)) else none
    | _, _ => none
  | _ => none

theorem aBuildSlice_ok {P : Program} {w : World} {ro : Nat → Prop} {m : Pl} {σ σ' : H} {nm : Nat} (hσ : HeapOk w ro m σ) (hn : nm ≤ σ.length) (hm : m nm = none) {t : TypeId} {len : Nat} {ps : List (Nat × V)} {ps' : Array (Nat × Value)} (hl : ps.length = ps'.toList.length)
    (hp : ∀ (j : Nat) (p : Nat × V) (p' : Nat × Value), ps[j]? = some p → ps'.toList[j]? = some p' → p.1 = p'.1 ∧ VR w ro m p.2 p'.2) {v : V} (h : aBuildSlice P t len ps σ nm = some (v, σ')) :
    Fine P (Instr.buildSlice t len ps') w ro m nm v σ' := by
  unfold aBuildSlice at h
  split at h
  case h_2 => cases h
  rename_i e hu
  split at h
  case h_2 => cases h
  rename_i s z hs hz
  split at h
  case isFalse => cases h
  rename_i hh
  obtain ⟨hzl, hs0, hsm⟩ := hh
  obtain ⟨i, zv, hi, hzv, rfl⟩ := zeroT_some hz
  simp only [List.length_map, Array.length_toList] at hzl
  have hsi : i.size = s := by simpa [sizeT, hi] using hs
  cases hf : aFill (fun i => some (i * s, s)) (zeros (zv.cells.toList.map ofVal) len) ps with
  | none => simp [hf] at h
  | some out =>
    simp only [hf, Option.map_some, Option.some.injEq, Prod.mk.injEq] at h
    obtain ⟨rfl, rfl⟩ := h
    rcases Nat.eq_zero_or_pos len with h0 | h0
    · subst h0
      cases ps with
      | cons p ps =>
        obtain ⟨i1, v1⟩ := p
        simp only [aFill] at hf
        cases hc : v1.cells with
        | none => simp [hc] at hf
        | some cs => simp [hc, zeros] at hf; omega
      | nil =>
        simp only [aFill, Option.some.injEq] at hf
        subst hf
        have hps : ps' = #[] := Array.eq_empty_of_size_eq_zero (by simpa using hl.symm)
        subst hps
        refine Fine.new hσ hn hm rfl rfl rfl rfl (cells := zeros (zv.cells.toList.map ofVal) 0) (cs := #[]) (e := e) (v' := .slice (some ⟨w.heap.size, 0, none⟩) 0 0) (fun j c hj => by simp [zeros] at hj) (by simp [Instr.buildSlice, run_underlying hu, sizeOf, typeInfo, hi, Instr.fill, newRow, Array.range_zero']) ?_
        exact .sl (D := 0) (off := 0) (Pl.put_same _ _ _) (Nat.le_refl _) (by rw [heap_alloc, if_pos rfl]) (by simp)
    · have hpos : ¬ len * i.size = 0 := by rw [hsi]; exact Nat.ne_of_gt (Nat.mul_pos h0 hs0)
      have hbase : (zeros (zv.cells.toList.map ofVal) len).length = ((Array.range (len * zv.cells.size)).map (zv.cells[· % zv.cells.size]!)).size := by rw [zeros_length]; simp
      obtain ⟨arr, h1, h2, h3⟩ := aFill_ok (w := w) (ro := ro) (m := m) ps ps'.toList hl hp hbase (fun j c v hj hv => by
          obtain ⟨u, hu1, hu2⟩ := zeros_rows w ro m zv.cells len (arr := (Array.range (len * zv.cells.size)).map (zv.cells[· % zv.cells.size]!)) (by simp) (fun j hj => madeCells_get _ _ _ hj) j c hj
          rw [hv] at hu1; cases hu1; exact hu2) hf
      have hsz : out.length = len * s := by
        have : ∀ (ps : List (Nat × V)) (cells out : List V), aFill (fun i => some (i * s, s)) cells ps = some out → out.length = cells.length := by
          intro ps
          induction ps with
          | nil => intro cells out h; simp only [aFill, Option.some.injEq] at h; subst h; rfl
          | cons p ps ih =>
            intro cells out h
            obtain ⟨i, v⟩ := p
            simp only [aFill] at h
            cases hc : v.cells with
            | none => simp [hc] at h
            | some cs =>
              simp only [hc] at h
              split at h
              · rename_i hh
                rw [ih _ _ h]; simp [splice]; omega
              · cases h
        rw [this ps _ _ hf, zeros_length]; simp [hzl]
      refine Fine.new hσ hn hm rfl rfl rfl rfl (rows_of h2 h3) (e := e) (v' := .slice (some ⟨w.heap.size, 0, none⟩) len len) (run_buildSlice w t e len ps' arr i zv hu hi hzv (by rw [hsi]; omega) hpos (by rw [hsi, ← hzl]; rw [← hzl] at h1; exact h1)) ?_
      exact .sl (D := 0) (off := 0) (Pl.put_same _ _ _) (Nat.le_refl _) (by rw [heap_alloc, if_pos rfl]) (by omega)

def aMake (P : Program) (t : TypeId) (l c : V) (σ : H) (nm : Nat) : Option (V × H) :=
  match P.underlying t, l, c with
  | some (.slice e), .int _ l, .int _ c =>
    match P.info? e, zeroT P e with
    | some i, some z => if z.length = i.size ∧ 0 ≤ l ∧ l ≤ c ∧ (i.bytes : Int) * c ≤ 281474976710656 ∧ c ≤ 281474976710656 then some (.sl nm 0 l.toNat i.size, H.place σ nm (.row (zeros z c.toNat))) else none
    | _, _ => none
  | _, _, _ => none

theorem aMake_ok {P : Program} {w : World} {ro : Nat → Prop} {m : Pl} {σ σ' : H} {nm : Nat} (hσ : HeapOk w ro m σ) (hn : nm ≤ σ.length) (hm : m nm = none) {t : TypeId} {l c : V} {l' c' : Value} (hl : VR w ro m l l') (hc : VR w ro m c c')
    {v : V} (h : aMake P t l c σ nm = some (v, σ')) : Fine P (Instr.makeSlice t l' c') w ro m nm v σ' := by
  unfold aMake at h
  split at h
  case h_2 => cases h
  rename_i e kl l kc c hu
  cases hl; cases hc
  split at h
  case h_2 => cases h
  rename_i i z hi hz
  split at h
  case isFalse => cases h
  rename_i hh
  obtain ⟨hzl, h0, hlc, hb, h63⟩ := hh
  obtain ⟨i2, zv, hi2, hzv, rfl⟩ := zeroT_some hz
  obtain rfl : i2 = i := by rw [hi] at hi2; exact (Option.some.inj hi2).symm
  simp only [List.length_map, Array.length_toList] at hzl
  simp only [Option.some.injEq, Prod.mk.injEq] at h
  obtain ⟨rfl, rfl⟩ := h
  have hrun := run_make (P := P) w t e i2 zv hu hi hzv kl kc l c h0 hlc hb (by omega)
  have hsz : (madeCells zv.cells (c.toNat * i2.size)).size = c.toNat * zv.cells.size := by rw [size_madeCells, hzl]
  refine Fine.new hσ hn hm rfl rfl rfl rfl (zeros_rows w ro m zv.cells c.toNat (arr := madeCells zv.cells (c.toNat * i2.size)) (by rw [hsz]; exact Nat.le_refl _) (fun j hj => ?_)) hrun ?_
  · rw [← hzl]; exact madeCells_get _ _ _ hj
  · refine .sl (D := 0) (off := 0) (Pl.put_same _ _ _) (by omega) (by rw [heap_alloc, if_pos rfl]) ?_
    rw [hsz, hzl]; omega

/-! ### Pieces of slices -/

def aBound (len : Nat) : Option V → Nat → Option Nat
  | none, d => some d
  | some (.int _ i), _ => if 0 ≤ i ∧ i ≤ len then some i.toNat else none
  | some _, _ => none

def aSlice (P : Program) (t : TypeId) (x : V) (lo hi : Option V) : Option V :=
  match P.underlying t with
  | some (.slice e) =>
    match sizeT P e, x with
    | some s, .sl b off len sz =>
      match aBound len hi len with
      | some h => match aBound h lo 0 with
        | some l => if s = sz then some (if l = 0 then .sl b off h sz else if l = h then .ps sz [] else .sl b (off + l * sz) (h - l) sz) else none
        | none => none
      | none => none
    | some s, .ps sz xs =>
      match aBound xs.length hi xs.length with
      | some h => match aBound h lo 0 with
        | some l => if s = sz then some (.ps sz ((xs.take h).drop l)) else none
        | none => none
      | none => none
    | some s, .snil =>
      match aBound 0 hi 0 with
      | some _ => match aBound 0 lo 0 with
        | some _ => some .snil
        | none => none
      | none => none
    | _, _ => none
  | some .string =>
    match x with
    | .str s =>
      match aBound s.size hi s.size with
      | some h => match aBound h lo 0 with
        | some l => some (.str (s.extract l h))
        | none => none
      | none => none
    | _ => none
  | _ => none

end Go.Am
