/- What a reading of plain data tells of the memory: the machine's values that stand for what is read. -/
import Derived.Test.YtbnegbjaoiplmaaAmTs
import Derived.ChangeArms
import Derived.DataReads
import Derived.WideShapes
import Derived.RowKit3
import Derived.ReadAgain
set_option linter.unusedVariables false
set_option linter.unusedSimpArgs false
namespace Go.Am
open Go

/-- A value's cells stand for cells. -/
def CellsN (w : World) (ro : Nat → Prop) (v : V) (cs : List Value) : Prop :=
  ∃ l, v.cells = some l ∧ l.length = cs.length ∧ ∀ (j : Nat) (c : V) (u : Value), l[j]? = some c → cs[j]? = some u → VN w ro c u

theorem CellsN.one {w : World} {ro : Nat → Prop} {v : V} {u : Value} (h : CellsN w ro v [u]) (hc : v.cells = some [v]) : VN w ro v u := by
  obtain ⟨l, h1, _, h2⟩ := h
  rw [hc] at h1
  cases h1
  exact h2 0 v u rfl rfl
theorem CellsN.mk1 {w : World} {ro : Nat → Prop} {v : V} {u : Value} (hc : v.cells = some [v]) (h : VN w ro v u) : CellsN w ro v [u] :=
  ⟨[v], hc, rfl, fun j c x h1 h2 => by
    match j, h1, h2 with
    | 0, h1, h2 => simp at h1 h2; subst h1; subst h2; exact h⟩

/-- What is asked of a measure of readings. -/
structure Bulk {H : Type} (B : DataW H → Nat) (A : List (DataW H) → Nat) : Prop where
  lit : ∀ l, 1 ≤ B (.lit l)
  nil : 1 ≤ B .nil
  slice : ∀ e s, A e + 1 ≤ B (.slice e s)
  agg : ∀ p, A p + 1 ≤ B (.agg p)
  cons : ∀ d l, B d + A l ≤ A (d :: l)

section
variable {H : Type} {enc : TypeId × Value → H} {P : Program} {w : World} {B : DataW H → Nat} {A : List (DataW H) → Nat}

/-- What a reading at a type opens. -/
def Opens {H : Type} (enc : TypeId × Value → H) (P : Program) (w : World) (B : DataW H → Nat) (t : TypeId) {α : Type} (e : α → V) (b : α → Nat) (p : α → Prop) : Prop :=
  ∀ (fuel : Nat) (cs : List Value) (x : DataW H × List MemPlace), DataW.trod enc P w 0 (fun _ => true) true fuel t cs = some x → ∃ a : α, p a ∧ b a + 1 ≤ B x.1 ∧ CellsN w (fun X => X < w.heap.size) (e a) cs

theorem Opens.int (hB : Bulk B A) {t : TypeId} {k : IntKind} (ht : P.underlying t = some (.int k)) : Opens enc P w B t (V.int k) (fun _ => 0) (fun n => (Lit.int k n).wf = true) := by
  intro fuel cs x h
  obtain ⟨n, rfl, rfl, hw⟩ := DataW.trod_int ht h
  exact ⟨n, hw, by simpa using hB.lit _, .mk1 rfl (.int k n)⟩
theorem Opens.bool (hB : Bulk B A) {t : TypeId} (ht : P.underlying t = some .bool) : Opens enc P w B t V.bool (fun _ => 0) (fun _ => True) := by
  intro fuel cs x h
  obtain ⟨n, rfl, rfl⟩ := DataW.trod_bool ht h
  exact ⟨n, trivial, by simpa using hB.lit _, .mk1 rfl (.bool n)⟩

/-- The weight of a list. -/
def sumB {α : Type} (b : α → Nat) : List α → Nat
  | [] => 0
  | x :: l => (b x + 1) + sumB b l
theorem sumB_len {α : Type} (b : α → Nat) (l : List α) : l.length ≤ sumB b l := by
  induction l with
  | nil => simp [sumB]
  | cons x l ih => simp only [sumB, List.length_cons]; omega
theorem sumB_mem {α : Type} {b : α → Nat} {l : List α} {x : α} (h : x ∈ l) : b x + 1 ≤ sumB b l := by
  induction l with
  | nil => cases h
  | cons y l ih =>
    simp only [sumB]
    cases List.mem_cons.1 h with
    | inl q => subst q; omega
    | inr q => have := ih q; omega

theorem sumB_le (hB : Bulk B A) {α : Type} {b : α → Nat} : ∀ {l : List α} {ds : List (DataW H)}, l.length = ds.length → (∀ (i : Nat) (a : α) (d : DataW H), l[i]? = some a → ds[i]? = some d → b a + 1 ≤ B d) → sumB b l ≤ A ds
  | [], ds, _, _ => Nat.zero_le _
  | a :: l, d :: ds, hl, h => by
    have h0 := h 0 a d rfl rfl
    have h1 := sumB_le hB (l := l) (ds := ds) (by simpa using hl) (fun i a d ha hd => h (i + 1) a d ha hd)
    have := hB.cons d ds
    simp only [sumB]
    omega
  | _ :: _, [], hl, _ => by simp at hl

theorem list_of {α : Type} {R : Nat → α → Prop} : ∀ (n : Nat), (∀ i, i < n → ∃ a, R i a) → ∃ l : List α, l.length = n ∧ ∀ (i : Nat) (a : α), l[i]? = some a → R i a
  | 0, _ => ⟨[], rfl, fun i a h => by simp at h⟩
  | n + 1, h => by
    obtain ⟨l, h1, h2⟩ := list_of (R := R) n (fun i hi => h i (by omega))
    obtain ⟨a, ha⟩ := h n (by omega)
    refine ⟨l ++ [a], by simp [h1], fun i x hx => ?_⟩
    by_cases q : i < n
    · rw [List.getElem?_append_left (by omega)] at hx
      exact h2 i x hx
    · rw [List.getElem?_append_right (by omega)] at hx
      have hi : i = n := by
        by_cases e : i - l.length = 0
        · omega
        · rw [List.getElem?_eq_none (by simp; omega)] at hx; cases hx
      subst hi
      rw [h1, Nat.sub_self] at hx
      simp at hx
      subst hx
      exact ha

theorem Opens.slice (hB : Bulk B A) {t te : TypeId} {α : Type} {e : α → V} {b : α → Nat} {p : α → Prop} (ht : P.underlying t = some (.slice te)) {sz : Nat} (hsz : P.cellsOf te = sz) (hz : 0 < sz) (h : Opens enc P w B te e b p) :
    Opens enc P w B t (fun l : List α => .ps sz (l.map e)) (sumB b) (fun l => ∀ a, a ∈ l → p a) := by
  intro fuel cs x hx
  obtain ⟨rfl, rfl⟩ | ⟨a, len, cap, elems, rest, n, rfl, rfl, rfl, _, hcap, hmax, hlen, hel, _⟩ := DataW.trod_slice ht hx
  · refine ⟨[], (by intro a h; simp at h), by simpa [sumB] using hB.nil, CellsN.mk1 rfl ?_⟩
    exact VN.ps (xs := []) (A := none) (cap := 0) (fun _ _ => default) (Nat.le_refl _) (fun i x h => by simp at h) (fun h => absurd rfl h) (fun a ha => by cases ha) (fun i j c hc => by simp [cellAt] at hc)
  · rw [hsz] at hel
    have key : ∀ i, i < len → ∃ q : α × List Value, (∃ y, elems[i]? = some y ∧ p q.1 ∧ b q.1 + 1 ≤ B y.1) ∧ w.cells? 0 (a.add (i * sz)) sz = some q.2 ∧ CellsN w (fun X => X < w.heap.size) (e q.1) q.2 := by
      intro i hi
      obtain ⟨y, hy⟩ : ∃ y, elems[i]? = some y := ⟨_, List.getElem?_eq_getElem (by omega)⟩
      have := hel i hi
      rw [hy, Option.bind_eq_some_iff] at this
      obtain ⟨cs, h1, h2⟩ := this
      obtain ⟨q, h3, h4, h5⟩ := h n cs y h2
      exact ⟨(q, cs), ⟨y, hy, h3, h4⟩, h1, h5⟩
    obtain ⟨L, hL, hR⟩ := list_of len key
    have hml : ((L.map Prod.fst).map e).length = len := by simp [hL]
    have at_ : ∀ (i : Nat) (v : V), ((L.map Prod.fst).map e)[i]? = some v → ∃ q, L[i]? = some q ∧ e q.1 = v := by
      intro i v hv
      simp only [List.map_map, List.getElem?_map, Option.map_eq_some_iff] at hv
      obtain ⟨q, h1, h2⟩ := hv
      exact ⟨q, h1, h2⟩
    have lenOf : ∀ (i : Nat) (q : α × List Value), L[i]? = some q → q.2.length = sz := fun i q hq => (World.cells?_some (hR i q hq).2.1).2.1
    have cellOf : ∀ (i j : Nat) (q : α × List Value), L[i]? = some q → j < sz → a.spot = none ∨ i * sz + j ≠ 0 → w.cell? ⟨a.block, a.off + (i * sz + j), none⟩ = q.2[j]? := by
      intro i j q hq hj hs
      have := (World.cells?_some (hR i q hq).2.1).2.2 j hj
      rw [← this]
      congr 1
      obtain ⟨ab, ao, as⟩ := a
      simp only [Addr.add] at hs ⊢
      by_cases q1 : i * sz = 0 <;> by_cases q2 : j = 0 <;> simp [q1, q2] at hs ⊢ <;> try omega
      · exact hs.symm
    refine ⟨L.map Prod.fst, ?_, ?_, CellsN.mk1 rfl ?_⟩
    · intro x hx
      obtain ⟨q, hq, rfl⟩ := List.mem_map.1 hx
      obtain ⟨i, hi⟩ := List.mem_iff_getElem?.1 hq
      obtain ⟨y, _, h1, _⟩ := (hR i q hi).1
      exact h1
    · have := sumB_le hB (b := b) (l := L.map Prod.fst) (ds := elems.map (·.1)) (by simp [hL, hlen]) (fun i x d hx hd => by
        simp only [List.getElem?_map, Option.map_eq_some_iff] at hx hd
        obtain ⟨q, hq, rfl⟩ := hx
        obtain ⟨z, hz, rfl⟩ := hd
        obtain ⟨y, hy, _, h2⟩ := (hR i q hq).1
        rw [hz] at hy
        cases hy
        exact h2)
      have h2 := hB.slice (elems.map (·.1)) (rest.map (·.1))
      simp only
      omega
    · have spot0 : ∀ (i j : Nat) (c : V), cellAt ((L.map Prod.fst).map e) i j = some c → ∃ q, L[i]? = some q ∧ j < sz ∧ ∃ l, (e q.1).cells = some l ∧ l[j]? = some c := by
        intro i j c hc
        simp only [cellAt, Option.bind_eq_some_iff] at hc
        obtain ⟨v, hv, l, hl, hj⟩ := hc
        obtain ⟨q, hq, rfl⟩ := at_ i v hv
        obtain ⟨l', h1, h2, _⟩ := (hR i q hq).2.2
        rw [hl] at h1
        cases h1
        exact ⟨q, hq, by rw [← lenOf i q hq, ← h2]; exact (List.getElem?_eq_some_iff.1 hj).1, l, hl, hj⟩
      have first : 0 < len → a.spot = none ∧ a.block < w.heap.size := by
        intro h0
        obtain ⟨q, hq⟩ : ∃ q, L[0]? = some q := ⟨_, List.getElem?_eq_getElem (by omega)⟩
        have h1 := (World.cells?_some (hR 0 q hq).2.1).2.2 0 hz
        have hl := lenOf 0 q hq
        rw [List.getElem?_eq_getElem (by omega)] at h1
        have e0 : (a.add (0 * sz)).add 0 = a := by simp [Addr.add]
        rw [e0] at h1
        refine ⟨World.cell?_spot h1, ?_⟩
        unfold World.cell? at h1
        split at h1
        · rename_i hb
          exact (Array.getElem?_eq_some_iff.1 hb).1
        · cases h1
      have hVN := VN.ps (w := w) (ro := fun X => X < w.heap.size) (sz := sz) (xs := (L.map Prod.fst).map e) (A := some a) (cap := cap) (fun i j => ((L[i]?).bind fun q => q.2[j]?).getD default) (by rw [hml]; exact hcap)
        (fun i v hv => by
          obtain ⟨q, hq, rfl⟩ := at_ i v hv
          obtain ⟨l, h1, h2, _⟩ := (hR i q hq).2.2
          exact ⟨l, h1, by rw [h2]; exact lenOf i q hq⟩)
        (fun hne => by
          have h0 : 0 < len := by
            rw [← hml]
            exact List.length_pos_iff.2 hne
          exact ⟨a, rfl, (first h0).1, (first h0).2⟩)
        (fun a' ha' i j c hc => by
          cases ha'
          obtain ⟨q, hq, hj, l, hl, hlj⟩ := spot0 i j c hc
          have hi : i < len := by rw [← hL]; exact (List.getElem?_eq_some_iff.1 hq).1
          rw [cellOf i j q hq hj (.inl (first (by omega)).1), hq, Option.bind_some]
          rw [List.getElem?_eq_getElem (by rw [lenOf i q hq]; exact hj)]
          rfl)
        (fun i j c hc => by
          obtain ⟨q, hq, hj, l, hl, hlj⟩ := spot0 i j c hc
          obtain ⟨l', h1, h2, h3⟩ := (hR i q hq).2.2
          rw [hl] at h1
          cases h1
          have hjl : j < q.2.length := by rw [lenOf i q hq]; exact hj
          rw [hq, Option.bind_some, List.getElem?_eq_getElem hjl]
          exact h3 j c _ hlj (List.getElem?_eq_getElem hjl))
      rw [hml] at hVN
      exact hVN

/-- The types of a struct all of whose fields are of one cell. -/
def flat1 (P : Program) (t : TypeId) : Option (List TypeId) :=
  match P.underlying t with
  | some (.struct fs) => if ((List.range fs.size).all fun i => match fs[i]? with | some f => f.offset == i && P.cellsOf f.type == 1 | none => false) && P.cellsOf t == fs.size then some (fs.toList.map (·.type)) else none
  | _ => none

theorem flat1_struct {P : Program} {t : TypeId} {tys : List TypeId} (ht : flat1 P t = some tys) : ∃ fs, P.underlying t = some (.struct fs) := by
  unfold flat1 at ht
  split at ht
  · rename_i fs hu
    exact ⟨fs, hu⟩
  · cases ht

theorem trod_flat {t : TypeId} {tys : List TypeId} (ht : flat1 P t = some tys) {fuel : Nat} {cs : List Value} {x : DataW H × List MemPlace} (h : DataW.trod enc P w 0 (fun _ => true) true fuel t cs = some x) :
    ∃ (ds : List (DataW H)) (n : Nat), x.1 = .agg ds ∧ cs.length = tys.length ∧ ds.length = tys.length ∧ ∀ (i : Nat) (ti : TypeId), tys[i]? = some ti → ∃ u y, cs[i]? = some u ∧ ds[i]? = some y.1 ∧ DataW.trod enc P w 0 (fun _ => true) true n ti [u] = some y := by
  unfold flat1 at ht
  split at ht
  · rename_i fs hu
    split at ht
    · rename_i hc
      simp only [Option.some.injEq] at ht
      simp only [Bool.and_eq_true, beq_iff_eq, List.all_eq_true, List.mem_range] at hc
      obtain ⟨hc1, hc2⟩ := hc
      obtain ⟨xs, n, rfl, rfl, h1, h2, h3⟩ := DataW.trod_struct hu h
      subst ht
      refine ⟨xs.map (·.1), n, rfl, by simp [h1, hc2], by simp [h2], fun i ti hi => ?_⟩
      simp only [List.getElem?_map, Array.getElem?_toList, Option.map_eq_some_iff] at hi
      obtain ⟨f, hf, rfl⟩ := hi
      have hif : i < fs.size := (Array.getElem?_eq_some_iff.1 hf).1
      have h4 := hc1 i hif
      rw [hf] at h4
      simp only [Bool.and_eq_true, beq_iff_eq] at h4
      have h5 := h3 i f hf
      rw [h4.1, h4.2] at h5
      have hcs : i < cs.length := by omega
      have h6 : (cs.drop i).take 1 = [cs[i]] := by
        rw [List.drop_eq_getElem_cons hcs]; rfl
      rw [h6] at h5
      obtain ⟨y, hy⟩ : ∃ y, xs[i]? = some y := ⟨_, List.getElem?_eq_getElem (by omega)⟩
      exact ⟨cs[i], y, List.getElem?_eq_getElem hcs, by simp [hy], by rw [h5, hy]⟩
    · cases ht
  · cases ht

theorem bulk_sum (hB : Bulk B A) {ds : List (DataW H)} : ∀ {i : Nat} {d : DataW H}, ds[i]? = some d → B d ≤ A ds := by
  induction ds with
  | nil => intro i d h; simp at h
  | cons x l ih =>
    intro i d h
    have := hB.cons x l
    cases i with
    | zero => simp at h; subst h; omega
    | succ i => have := ih (i := i) (d := d) (by simpa using h); omega
end

/-- A law that needs nothing of the heap, said of the world: what was there stays. -/
theorem Spec.world {P : Program} {g : FuncId} {args : List V} {Q : Out → Am.H → Prop} (h : Spec P g args [] Q) (w : World) (vs : Array Value) (hl : args.length = vs.size)
    (hv : ∀ (j : Nat) (c : V) (v : Value), args[j]? = some c → vs[j]? = some v → VN w (fun X => X < w.heap.size) c v) :
    Calls P g vs w fun e w' => ∃ o s ro' m', Q o s ∧ OutR w' ro' m' o e ∧ (∀ B, B < w.heap.size → w'.heap[B]? = w.heap[B]?) ∧ RowKit.Grown w w' := by
  have h1 : HeapOk w (fun B => B < w.heap.size) (fun _ => none) [] := ⟨fun b p hb => (by cases hb), fun b cells hb => (by simp at hb), fun b es hb => (by simp at hb), fun b1 b2 e1 e2 B1 D1 B2 D2 hne hb => (by simp at hb), fun B hB => hB, fun b B D hb => (by cases hb)⟩
  refine (h w _ _ vs ⟨hl, fun j c v h1 h2 => (hv j c v h1 h2).lift⟩ h1).mono fun e w' hp => ?_
  obtain ⟨o, s, ro', m', hq, ho, _, hx, _, _⟩ := hp
  have same : ∀ B, B < w.heap.size → w'.heap[B]? = w.heap[B]? := fun B hB => (hx.kro B hB).2
  refine ⟨o, s, ro', m', hq, ho, same, ⟨hx.os, hx.output, fun i hi => ?_⟩, hx.fz, hx.size⟩
  rw [same i hi]
  rcases w.heap[i]? with _ | o
  · rfl
  · cases o <;> simp

theorem trod_same {H : Type} {enc : TypeId × Value → H} {P : Program} {w w' : World} (K : Kids P (· < P.types.size)) (hz : ∀ t e, t < P.types.size → P.underlying t = some (.slice e) → 0 < P.cellsOf e)
    (hs : ∀ B, B < w.heap.size → w'.heap[B]? = w.heap[B]?) {ts : List TypeId} {vs : List Value} {ds : List (DataW H)} {ps : List MemPlace} (hT : ∀ t ∈ ts, t < P.types.size)
    (h : DataW.TrodAll enc P w 0 (fun _ => true) true ts vs ds ps) (hlt : ∀ p ∈ ps, p.block < w.heap.size) {sp : Nat → Bool} (hsp : ∀ p ∈ ps, sp p.block = true) : DataW.TrodAll enc P w' 0 sp true ts vs ds ps := by
  refine DataW.TrodAll.respare K hz hT ?_ hsp
  clear hT hsp
  induction ts generalizing vs ds ps with
  | nil =>
    cases vs <;> cases ds <;> simp [DataW.TrodAll] at h ⊢
    exact h
  | cons t ts ih =>
    obtain ⟨v, vs', d, ds', p, q, rfl, rfl, rfl, ⟨n, h1⟩, h2⟩ := ChangeShapes.trodAll_cons h
    refine ⟨p, q, ⟨n, DataW.trod_carry n t _ _ h1 fun x hx => ?_⟩, ih h2 (fun x hx => hlt x (List.mem_append_right _ hx)), rfl⟩
    have hb := hlt x (List.mem_append_left _ hx)
    cases x with
    | cell b off => simp only [World.sameAt, World.cell?, hs b hb]
    | map b => exact hs b hb
end Go.Am
