/- The abstract machine's operations, each with what it says of the model's: append and clear. -/
import Derived.Test.YtbnegbjaoiplmaaAmG
set_option linter.unusedVariables false
set_option linter.unusedSimpArgs false
namespace Go.Am
open Go

/-- The cells of a list's values, one behind the other. -/
def flat (xs : List V) : List V := xs.flatMap fun x => x.cells.getD []

theorem flat_get {sz : Nat} : ∀ {xs : List V}, (∀ (i : Nat) (x : V), xs[i]? = some x → ∃ cs, x.cells = some cs ∧ cs.length = sz) → ∀ {k : Nat} {c : V}, (flat xs)[k]? = some c → ∃ i j, cellAt xs i j = some c ∧ k = i * sz + j
  | [], _, k, c, h => by simp [flat] at h
  | x :: xs, hs, k, c, h => by
    obtain ⟨cs, h1, h2⟩ := hs 0 x rfl
    have hf : flat (x :: xs) = cs ++ flat xs := by simp [flat, h1]
    rw [hf] at h
    by_cases q : k < cs.length
    · rw [List.getElem?_append_left q] at h
      exact ⟨0, k, by simp [cellAt, h1, h], by simp⟩
    · rw [List.getElem?_append_right (by omega)] at h
      obtain ⟨i, j, h3, h4⟩ := flat_get (xs := xs) (fun i x hx => hs (i + 1) x (by simpa using hx)) h
      exact ⟨i + 1, j, by simpa [cellAt] using h3, by rw [Nat.add_one_mul]; omega⟩

theorem flat_length {sz : Nat} : ∀ {xs : List V}, (∀ (i : Nat) (x : V), xs[i]? = some x → ∃ cs, x.cells = some cs ∧ cs.length = sz) → (flat xs).length = xs.length * sz
  | [], _ => by simp [flat]
  | x :: xs, hs => by
    obtain ⟨cs, h1, h2⟩ := hs 0 x rfl
    have hf : flat (x :: xs) = cs ++ flat xs := by simp [flat, h1]
    rw [hf, List.length_append, flat_length (xs := xs) (fun i x hx => hs (i + 1) x (by simpa using hx)), List.length_cons, Nat.add_one_mul]
    omega

/-- What a slice brings to an append: how many elements, and their cells. -/
def srcCells (σ : H) (sz : Nat) (x : V) : Option (Nat × List V) :=
  match x with
  | .snil => some (0, [])
  | .sl b off len sz' => (rowAt σ b).bind fun cells => if sz' = sz ∧ off + len * sz ≤ cells.length then some (len, (cells.drop off).take (len * sz)) else none
  | .ps sz' xs => if sz' = sz then some (xs.length, flat xs) else none
  | _ => none

theorem srcCells_ok {P : Program} {w : World} {ro : Nat → Prop} {m : Pl} {σ : H} (hσ : HeapOk w ro m σ) {sz : Nat} {x : V} {x' : Value} (hx : VR w ro m x x') {n : Nat} {cs : List V} (h : srcCells σ sz x = some (n, cs)) :
    (Builtin.lenOf x').run P w = .ok n w ∧ cs.length = n * sz ∧ ∃ arr : Array Value, (∀ w1 : World, w1.heap = w.heap → (Builtin.firstCells sz n x').run P w1 = .ok arr w1) ∧ cs.length = arr.size ∧
      ∀ (j : Nat) (c : V) (v : Value), cs[j]? = some c → arr[j]? = some v → VR w ro m c v := by
  have key : ∀ (B O : Nat) (cells : List V) (k : Nat), cells.length = k → Lies w ro m B O cells → ∃ arr : Array Value, (∀ w1 : World, w1.heap = w.heap → (loadCells ⟨B, O, none⟩ k).run P w1 = .ok arr w1) ∧ cells.length = arr.size ∧
      ∀ (j : Nat) (c : V) (v : Value), cells[j]? = some c → arr[j]? = some v → VR w ro m c v := by
    intro B O cells k hk hL
    obtain ⟨f, hf⟩ := hL.fn
    refine ⟨((List.range k).map f).toArray, fun w1 hw1 => ?_, by simp [hk], fun j c v hj hv => ?_⟩
    · refine run_loadCells (P := P) w1 _ k f (fun j hj => ?_)
      rw [add_none]
      have := (hf j _ (List.getElem?_eq_getElem (by omega))).1
      simpa [World.cell?, hw1] using this
    · have hlt : j < k := by rw [← hk]; exact (List.getElem?_eq_some_iff.1 hj).1
      simp [hlt] at hv
      subst hv
      exact (hf j c hj).2
  unfold srcCells at h
  split at h
  case h_4 => cases h
  case h_1 =>
    cases hx
    simp only [Option.some.injEq, Prod.mk.injEq] at h
    obtain ⟨rfl, rfl⟩ := h
    exact ⟨rfl, by simp, #[], fun w1 _ => by simp [Builtin.firstCells], rfl, fun j c v hj => by simp at hj⟩
  case h_2 b off len sz' =>
    cases hr : rowAt σ b with
    | none => simp [hr] at h
    | some cells =>
      simp only [hr, Option.bind_some] at h
      split at h
      case isFalse => cases h
      rename_i hh
      obtain ⟨rfl, hoff⟩ := hh
      simp only [Option.some.injEq, Prod.mk.injEq] at h
      obtain ⟨rfl, rfl⟩ := h
      cases hx with
      | @sl _ _ _ _ B D cap cur el hm hcap hb hsize =>
        have hL := hσ.lies (rowAt_some hr) hm
        have hL2 : Lies w ro m B (D + off) ((cells.drop off).take (len * sz')) := by
          intro j c hj
          rw [List.getElem?_take] at hj
          split at hj
          · rw [List.getElem?_drop] at hj
            obtain ⟨v, h1, h2⟩ := hL (off + j) c hj
            exact ⟨v, by rw [Nat.add_assoc]; exact h1, h2⟩
          · cases hj
        have hlen : ((cells.drop off).take (len * sz')).length = len * sz' := by simp; omega
        obtain ⟨arr, h1, h2, h3⟩ := key B (D + off) _ _ hlen hL2
        exact ⟨rfl, hlen, arr, fun w1 hw1 => by simp only [Builtin.firstCells]; exact h1 w1 hw1, h2, h3⟩
  case h_3 sz' xs =>
    split at h
    case isFalse => cases h
    rename_i hsz
    subst hsz
    simp only [Option.some.injEq, Prod.mk.injEq] at h
    obtain ⟨rfl, rfl⟩ := h
    generalize hq : V.ps sz' xs = x0 at hx
    cases hx with
    | @ps sz2 xs2 A cap f hcap hsize hA hc hv =>
      injection hq with hq1 hq2
      subst hq1 hq2
      have hlen := flat_length hsize
      refine ⟨rfl, hlen, ?_⟩
      cases xs with
      | nil =>
        refine ⟨#[], fun w1 _ => ?_, rfl, fun j c v hj => by simp [flat] at hj⟩
        cases A with
        | none => simp [Builtin.firstCells]
        | some a => simp [Builtin.firstCells, loadCells, loadCellsFrom]
      | cons x xs =>
        obtain ⟨a, ha, h5, h6⟩ := hA (List.cons_ne_nil _ _)
        subst ha
        have hL : Lies w ro m a.block a.off (flat (x :: xs)) := by
          intro k c hk
          obtain ⟨i, j, h7, h8⟩ := flat_get hsize hk
          exact ⟨f i j, by rw [h8]; exact hc a rfl i j c h7, (hv i j c h7).lift⟩
        obtain ⟨arr, h1, h2, h3⟩ := key a.block a.off _ _ hlen hL
        have ea : a = ⟨a.block, a.off, none⟩ := by cases a; simp at h5; simp [h5]
        refine ⟨arr, fun w1 hw1 => ?_, h2, h3⟩
        simp only [Builtin.firstCells]
        rw [ea]
        exact h1 w1 hw1
    | _ => cases hq

def intD : TypeDesc → Bool
  | .int _ => true
  | _ => false

section
variable {P : Program} (w : World)

theorem run_append_in (ts : Array TypeId) (ty t t1 e : TypeId) (d : TypeDesc) (i : TypeInfo) (h0 : ts[0]? = some t) (h1 : ts[1]? = some t1) (hu : P.underlying t = some (.slice e)) (hu1 : P.underlying t1 = some d) (hd0 : intD d = false)
    (hi : P.info? e = some i) (base : Option Addr) (sLen sCap n : Nat) (x' : Value) (new : Array Value) (hlen : (Builtin.lenOf x').run P w = .ok n w) (hf : (Builtin.firstCells i.size n x').run P w = .ok new w) (hfit : sLen + n ≤ sCap) :
    (Builtin.append_ ts ty #[.slice base sLen sCap, x']).run P w =
      ((match base with | some a => storeCells (a.add (sLen * i.size)) new.toList | none => pure () : Sem Unit).run P w).andThen fun _ w' => .ok (.slice base (sLen + n) sCap) w' := by
  have hm : (underlying t1).run P w = .ok d w := run_underlying hu1 w
  unfold Builtin.append_
  simp only [h0, h1, List.getElem?_toArray, List.getElem?_cons_zero, List.getElem?_cons_succ, Sem.run_bind, run_underlying hu, Result.andThen_ok, sizeOf, typeInfo, run_program, hi, Sem.run_pure, hm]
  cases d <;> first | (simp [intD] at hd0; done) | (simp [hlen, hfit, hf]; cases base <;> simp)

theorem run_append_out (ts : Array TypeId) (ty t t1 e : TypeId) (d : TypeDesc) (i : TypeInfo) (z : Value) (h0 : ts[0]? = some t) (h1 : ts[1]? = some t1) (hu : P.underlying t = some (.slice e)) (hu1 : P.underlying t1 = some d) (hd0 : intD d = false)
    (hi : P.info? e = some i) (hz : i.zero = some z) (base : Option Addr) (sLen sCap n : Nat) (x' : Value) (old new : Array Value) (hlen : (Builtin.lenOf x').run P w = .ok n w) (hf : (Builtin.firstCells i.size n x').run P w.drew = .ok new w.drew)
    (ho : (Builtin.firstCells i.size sLen (.slice base sLen sCap)).run P w.drew = .ok old w.drew) (hfit : ¬ sLen + n ≤ sCap) (hb : (sLen + n) * i.bytes ≤ 140737488355328) (h63 : sLen + n ≤ 9223372036854775807) :
    (Builtin.append_ ts ty #[.slice base sLen sCap, x']).run P w =
      .ok (.slice (some ⟨w.heap.size, 0, none⟩) (sLen + n) (grownCap w (sLen + n) sCap e)) (w.drew.alloc (.cells (old ++ new ++ Builtin.zeroCells z.cells (grownCap w (sLen + n) sCap e - (sLen + n))) e)) := by
  have hm : (underlying t1).run P w = .ok d w := run_underlying hu1 w
  have h63' : ¬ (9223372036854775807 < ((sLen : Int) + (n : Int))) := by omega
  have h48' : ¬ (281474976710656 < Builtin.nextslicecap (sLen + n) sCap * i.bytes) := by have := growslice_fits (show sCap < sLen + n by omega) hb; omega
  unfold Builtin.append_
  simp only [h0, h1, List.getElem?_toArray, List.getElem?_cons_zero, List.getElem?_cons_succ, Sem.run_bind, run_underlying hu, Result.andThen_ok, sizeOf, typeInfo, run_program, hi, Sem.run_pure, hm]
  cases d <;> first | (simp [intD] at hd0; done) | (simp [hlen, hfit, hf, ho, h63', h48', Question.forced, newRow, grownCap, zeroValue, typeInfo, hi, hz])

end

/-- A row that is taken over under a new name. -/
theorem HeapOk.take {w : World} {ro : Nat → Prop} {m : Pl} {σ : H} (h : HeapOk w ro m σ) {b nm : Nat} {cells : List V} (hb : σ[b]? = some (some (.row cells))) (hn : nm ≤ σ.length) (hm : m nm = none) {B D off : Nat} (hmb : m b = some (B, D))
    {cells' : List V} {cs : Array Value} {e : TypeId} (hg : w.heap[B]? = some (.cells cs e (0, 0))) (hc : ∀ (j : Nat) (c : V), cells'[j]? = some c → ∃ v : Value, cs[D + off + j]? = some v ∧ VR w ro m c v) :
    HeapOk w ro (m.put nm (B, D + off)) (H.place (σ.set b none) nm (.row cells')) ∧ Ext w ro m w ro (m.put nm (B, D + off)) := by
  have k : Keeps w ro m w ro (m.put nm (B, D + off)) := ⟨fun _ h => h, fun _ _ _ _ h => h, Pl.put_keep _ hm, fun _ _ _ cs _ _ h => ⟨cs, h, rfl⟩⟩
  have hbl : b < σ.length := (List.getElem?_eq_some_iff.1 hb).1
  have hne : b ≠ nm := fun q => by rw [q] at hmb; rw [hm] at hmb; cases hmb
  have hn' : nm ≤ (σ.set b none).length := by simpa using hn
  have hset : ∀ b' : Nat, (H.place (σ.set b none) nm (.row cells'))[b']? = if b' = nm then some (some (.row cells')) else if b' = b then some none else σ[b']? := by
    intro b'
    rw [H.place_get hn']
    by_cases q : b' = nm
    · rw [if_pos q, if_pos q]
    · rw [if_neg q, if_neg q]
      by_cases q2 : b' = b
      · subst q2; rw [if_pos rfl, List.getElem?_set_self hbl]
      · rw [if_neg q2, List.getElem?_set_ne (fun e => q2 e.symm)]
  obtain ⟨B0, D0, cs0, e0, hmb0, hr, hg0, _⟩ := h.row b cells hb
  obtain ⟨rfl, rfl⟩ : B0 = B ∧ D0 = D := by rw [hmb] at hmb0; injection hmb0 with q; injection q with a b; exact ⟨a.symm, b.symm⟩
  refine ⟨⟨fun b' p hp => ?_, fun b' cl hcl => ?_, fun b' es hcl => ?_, fun b1 b2 e1 e2 B1 D1 B2 D2 hne' h1 h2 m1 m2 => ?_, h.rob, fun b' B' D' hb' => ?_⟩, ⟨rfl, rfl, rfl, Nat.le_refl _, fun B hB => ⟨hB, rfl⟩, fun _ _ _ => rfl, fun b' B' D' hb' => ?_, fun B hB => .inl hB, fun _ cs _ hc => ⟨cs, hc, rfl⟩, fun _ => rfl⟩⟩
  · by_cases q : b' = nm
    · subst q; exact (H.place_length _).2 hn'
    · rw [Pl.put_other m _ q] at hp
      have := h.dom b' p hp
      have := (H.place_length (σ := σ.set b none) (nm := nm) (.row cells')).1
      simp at this
      omega
  · rw [hset] at hcl
    by_cases q : b' = nm
    · subst q
      rw [if_pos rfl] at hcl
      injection hcl with hcl; injection hcl with hcl; injection hcl with hcl
      subst hcl
      refine ⟨B0, D0 + off, cs, e, Pl.put_same _ _ _, hr, hg, fun j c hj => ?_⟩
      obtain ⟨v, h1, h2⟩ := hc j c hj
      exact ⟨v, h1, h2.keep k⟩
    · rw [if_neg q] at hcl
      by_cases q2 : b' = b
      · rw [if_pos q2] at hcl; simp at hcl
      · rw [if_neg q2] at hcl
        obtain ⟨B1, D1, c1, e1, h1, h2, h3, h4⟩ := h.row b' cl hcl
        refine ⟨B1, D1, c1, e1, by rw [Pl.put_other m _ q]; exact h1, h2, h3, fun j c hj => ?_⟩
        obtain ⟨v, h5, h6⟩ := h4 j c hj
        exact ⟨v, h5, h6.keep k⟩
  · rw [hset] at hcl
    by_cases q : b' = nm
    · rw [if_pos q] at hcl; simp at hcl
    · rw [if_neg q] at hcl
      by_cases q2 : b' = b
      · rw [if_pos q2] at hcl; simp at hcl
      · rw [if_neg q2] at hcl
        obtain ⟨B1, arr, clock, h1, h2, h3, h4, h5⟩ := h.mapE b' es hcl
        exact ⟨B1, arr, clock, by rw [Pl.put_other m _ q]; exact h1, h2, h3, h4, fun j e a h6 h7 => ⟨(h5 j e a h6 h7).1.keep k, (h5 j e a h6 h7).2.keep k⟩⟩
  · rw [hset] at h1 h2
    by_cases q1 : b1 = nm
    · subst q1
      have q2 : b2 ≠ b1 := fun e => hne' e.symm
      rw [if_neg q2] at h2
      rw [Pl.put_same] at m1; rw [Pl.put_other m _ q2] at m2
      injection m1 with m1; injection m1 with m1 _
      by_cases q3 : b2 = b
      · rw [if_pos q3] at h2; simp at h2
      · rw [if_neg q3] at h2
        have := h.inj b b2 _ _ B0 D0 B2 D2 (fun e => q3 e.symm) hb h2 hmb m2
        rw [← m1]; exact this
    · rw [if_neg q1] at h1
      rw [Pl.put_other m _ q1] at m1
      by_cases q3 : b1 = b
      · rw [if_pos q3] at h1; simp at h1
      · rw [if_neg q3] at h1
        by_cases q2 : b2 = nm
        · subst q2
          rw [Pl.put_same] at m2
          injection m2 with m2; injection m2 with m2 _
          have := h.inj b1 b _ _ B1 D1 B0 D0 q3 h1 hb m1 hmb
          rw [← m2]; exact this
        · rw [if_neg q2] at h2
          rw [Pl.put_other m _ q2] at m2
          by_cases q4 : b2 = b
          · rw [if_pos q4] at h2; simp at h2
          · rw [if_neg q4] at h2
            exact h.inj b1 b2 e1 e2 B1 D1 B2 D2 hne' h1 h2 m1 m2
  · by_cases q : b' = nm
    · subst q; rw [Pl.put_same] at hb'; injection hb' with hb'; injection hb' with hb' _; rw [← hb']; exact h.mb b B0 D0 hmb
    · rw [Pl.put_other m _ q] at hb'; exact h.mb b' B' D' hb'
  · by_cases q : b' = nm
    · subst q; rw [Pl.put_same] at hb'; injection hb' with hb'; injection hb' with hb' _; exact .inl ⟨b, D0, by rw [← hb']; exact hmb⟩
    · rw [Pl.put_other m _ q] at hb'; exact .inl ⟨b', D', hb'⟩

end Go.Am
