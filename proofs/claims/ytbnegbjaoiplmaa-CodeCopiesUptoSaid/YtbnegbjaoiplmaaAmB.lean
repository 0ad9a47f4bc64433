/- The abstract machine's heap, and how it stands to the model's memory: what a new row and a store do to it. -/
import Derived.Test.YtbnegbjaoiplmaaAmA
set_option linter.unusedVariables false
namespace Go.Am
open Go

/-- The heap of the machine stands for rows and maps of the model's memory, each for one of its own, none of them among what nobody writes. -/
structure HeapOk (w : World) (ro : Nat → Prop) (m : Pl) (σ : H) : Prop where
  dom : ∀ b p, m b = some p → b < σ.length
  row : ∀ b cells, σ[b]? = some (some (.row cells)) → ∃ B D, ∃ cs : Array Value, ∃ e : TypeId, m b = some (B, D) ∧ ¬ ro B ∧ w.heap[B]? = some (.cells cs e (0, 0)) ∧
    ∀ (j : Nat) (c : V), cells[j]? = some c → ∃ v : Value, cs[D + j]? = some v ∧ VR w ro m c v
  mapE : ∀ b es, σ[b]? = some (some (.mapE es)) → ∃ B, ∃ arr : Array MapEntry, ∃ clock : Nat, m b = some (B, 0) ∧ ¬ ro B ∧ w.heap[B]? = some (.map arr clock) ∧ arr.size = es.length ∧
    ∀ (j : Nat) (e : V × V) (a : MapEntry), es[j]? = some e → arr[j]? = some a → VR w ro m e.1 a.key ∧ VR w ro m e.2 a.val
  inj : ∀ b1 b2 e1 e2 B1 D1 B2 D2, b1 ≠ b2 → σ[b1]? = some (some e1) → σ[b2]? = some (some e2) → m b1 = some (B1, D1) → m b2 = some (B2, D2) → B1 ≠ B2
  rob : ∀ B, ro B → B < w.heap.size
  mb : ∀ b B D, m b = some (B, D) → B < w.heap.size

/-- What a run may have changed: nothing of what was there before but the rows that the first names stand for. -/
structure Ext (w : World) (ro : Nat → Prop) (m : Pl) (w' : World) (ro' : Nat → Prop) (m' : Pl) : Prop where
  os : w'.os = w.os
  tape : w'.tape = w.tape
  output : w'.output = w.output
  size : w.heap.size ≤ w'.heap.size
  kro : ∀ B, ro B → ro' B ∧ w'.heap[B]? = w.heap[B]?
  own : ∀ B, B < w.heap.size → (∀ b D, m b ≠ some (B, D)) → w'.heap[B]? = w.heap[B]?
  im : ∀ b B D, m' b = some (B, D) → (∃ b0 D0, m b0 = some (B, D0)) ∨ w.heap.size ≤ B
  rom : ∀ B, ro' B → ro B ∨ (∃ b0 D0, m b0 = some (B, D0)) ∨ w.heap.size ≤ B
  shape : ∀ (B : Nat) (cs : Array Value) (e : TypeId), w.heap[B]? = some (.cells cs e (0, 0)) → ∃ cs' : Array Value, w'.heap[B]? = some (.cells cs' e (0, 0)) ∧ cs'.size = cs.size
  fz : ∀ a : Addr, w'.frozen? a = w.frozen? a

theorem Ext.refl (w : World) (ro : Nat → Prop) (m : Pl) : Ext w ro m w ro m :=
  ⟨rfl, rfl, rfl, Nat.le_refl _, fun _ h => ⟨h, rfl⟩, fun _ _ _ => rfl, fun b _ D h => .inl ⟨b, D, h⟩, fun _ h => .inl h, fun _ cs _ h => ⟨cs, h, rfl⟩, fun _ => rfl⟩

theorem Ext.trans {w w1 w2 : World} {ro ro1 ro2 : Nat → Prop} {m m1 m2 : Pl} (h : Ext w ro m w1 ro1 m1) (k : Ext w1 ro1 m1 w2 ro2 m2) : Ext w ro m w2 ro2 m2 where
  os := k.os.trans h.os
  tape := k.tape.trans h.tape
  output := k.output.trans h.output
  size := Nat.le_trans h.size k.size
  kro := fun B hB => ⟨(k.kro B (h.kro B hB).1).1, (k.kro B (h.kro B hB).1).2.trans (h.kro B hB).2⟩
  own := fun B hB hm => by
    have h1 := h.own B hB hm
    refine (k.own B (Nat.lt_of_lt_of_le hB h.size) (fun b D hbD => ?_)).trans h1
    rcases h.im b B D hbD with ⟨b0, D0, h0⟩ | h0
    · exact hm b0 D0 h0
    · omega
  im := fun b B D hb => by
    rcases k.im b B D hb with ⟨b0, D0, h0⟩ | h0
    · exact h.im b0 B D0 h0
    · exact .inr (Nat.le_trans h.size h0)
  rom := fun B hB => by
    rcases k.rom B hB with h0 | ⟨b0, D0, h0⟩ | h0
    · exact h.rom B h0
    · exact .inr (h.im b0 B D0 h0)
    · exact .inr (.inr (Nat.le_trans h.size h0))
  shape := fun B cs e hc => by
    obtain ⟨c1, h1, e1⟩ := h.shape B cs e hc
    obtain ⟨c2, h2, e2⟩ := k.shape B c1 e h1
    exact ⟨c2, h2, e2.trans e1⟩
  fz := fun a => (k.fz a).trans (h.fz a)

theorem Ext.keeps {w w' : World} {ro ro' : Nat → Prop} {m m' : Pl} (h : Ext w ro m w' ro' m') (hm : ∀ b p, m b = some p → m' b = some p) : Keeps w ro m w' ro' m' where
  kro := fun B hB => (h.kro B hB).1
  kcell := fun B o v hB hv => by
    have h1 := (h.kro B hB).2
    have h2 : w'.cell? ⟨B, o, none⟩ = w.cell? ⟨B, o, none⟩ := by simp [World.cell?, h1]
    rw [h2]; exact hv
  km := hm
  kshape := fun b B D cs e _ hc => h.shape B cs e hc

/-- A world in which some draws have been made besides: the same memory. -/
theorem Ext.drawn {w w' : World} (ro : Nat → Prop) (m : Pl) (ho : w'.os = w.os) (ht : w'.tape = w.tape) (hp : w'.output = w.output) (hh : w'.heap = w.heap) : Ext w ro m w' ro m :=
  ⟨ho, ht, hp, by rw [hh]; exact Nat.le_refl _, fun _ h => ⟨h, by rw [hh]⟩, fun _ _ _ => by rw [hh], fun b _ D h => .inl ⟨b, D, h⟩, fun _ h => .inl h, fun _ cs _ h => ⟨cs, by rw [hh]; exact h, rfl⟩, fun a => by simp only [World.frozen?, hh]⟩

theorem HeapOk.keep {w w' : World} {ro : Nat → Prop} {m : Pl} {σ : H} (h : HeapOk w ro m σ) (hh : w'.heap = w.heap) : HeapOk w' ro m σ := by
  have k : Keeps w ro m w' ro m := ⟨fun _ h => h, fun _ _ _ _ h => by simpa [World.cell?, hh] using h, fun _ _ h => h, fun _ _ _ cs _ _ h => ⟨cs, by rw [hh]; exact h, rfl⟩⟩
  refine ⟨h.dom, fun b cells hb => ?_, fun b es hb => ?_, h.inj, fun B hB => by rw [hh]; exact h.rob B hB, fun b B D hb => by rw [hh]; exact h.mb b B D hb⟩
  · obtain ⟨B, D, cs, e, h1, h2, h3, h4⟩ := h.row b cells hb
    refine ⟨B, D, cs, e, h1, h2, by rw [hh]; exact h3, fun j c hj => ?_⟩
    obtain ⟨v, h5, h6⟩ := h4 j c hj
    exact ⟨v, h5, h6.keep k⟩
  · obtain ⟨B, arr, clock, h1, h2, h3, h4, h5⟩ := h.mapE b es hb
    exact ⟨B, arr, clock, h1, h2, by rw [hh]; exact h3, h4, fun j e a h6 h7 => ⟨(h5 j e a h6 h7).1.keep k, (h5 j e a h6 h7).2.keep k⟩⟩

/-! ### A new block -/

/-- The place of a name. -/
def Pl.put (m : Pl) (nm : Nat) (p : Nat × Nat) : Pl := fun b => if b = nm then some p else m b

theorem Pl.put_same (m : Pl) (nm : Nat) (p : Nat × Nat) : m.put nm p nm = some p := by simp [Pl.put]
theorem Pl.put_other (m : Pl) {nm b : Nat} (p : Nat × Nat) (h : b ≠ nm) : m.put nm p b = m b := by simp [Pl.put, h]
theorem Pl.put_keep {m : Pl} {nm : Nat} (p : Nat × Nat) (h : m nm = none) : ∀ b q, m b = some q → m.put nm p b = some q := by
  intro b q hb
  by_cases e : b = nm
  · subst e; rw [h] at hb; cases hb
  · rw [Pl.put_other m p e]; exact hb

/-- Laid at a name that is kept free, or behind the last one. -/
def H.place (σ : H) (nm : Nat) (e : Ent) : H := if nm < σ.length then σ.set nm (some e) else σ ++ [some e]

theorem H.place_get {σ : H} {nm : Nat} (hn : nm ≤ σ.length) (e : Ent) (b : Nat) : (H.place σ nm e)[b]? = if b = nm then some (some e) else σ[b]? := by
  unfold H.place
  split
  · rename_i h
    by_cases hb : b = nm
    · subst hb; simp [h]
    · rw [if_neg hb, List.getElem?_set_ne (fun e => hb e.symm)]
  · rename_i h
    have : nm = σ.length := by omega
    subst this
    by_cases hb : b = σ.length
    · subst hb; simp
    · rw [if_neg hb, List.getElem?_append]
      split
      · rfl
      · rw [List.getElem?_eq_none (by simp; omega), List.getElem?_eq_none (by omega)]

theorem H.place_length {σ : H} {nm : Nat} (e : Ent) : σ.length ≤ (H.place σ nm e).length ∧ (nm ≤ σ.length → nm < (H.place σ nm e).length) := by
  unfold H.place
  split
  · simp; omega
  · simp; omega

theorem heap_alloc {w : World} {o : Obj} (B : Nat) : (w.alloc o).heap[B]? = if B = w.heap.size then some o else w.heap[B]? := by
  show (w.heap.push o)[B]? = _
  rw [Array.getElem?_push]

/-- A new object none of whose cells is frozen. -/
def Obj.free (o : Obj) : Prop := match o with
  | .cells _ _ p => p = (0, 0)
  | _ => True

theorem frozen_alloc (w : World) {o : Obj} (ho : Obj.free o) (a : Addr) : (w.alloc o).frozen? a = w.frozen? a := by
  have e := heap_alloc (w := w) (o := o) a.block
  unfold World.frozen?
  by_cases q : a.block = w.heap.size
  · rw [if_pos q] at e
    have hn : w.heap[a.block]? = none := by rw [q]; simp
    rw [e, hn]
    cases o with
    | cells c t p =>
      simp only [Obj.free] at ho
      subst ho
      simp
    | _ => rfl
  · rw [if_neg q] at e
    rw [e]

theorem frozen_setRow {w : World} {B : Nat} {cs cs' : Array Value} {e : TypeId} (hg : w.heap[B]? = some (.cells cs e (0, 0))) (a : Addr) : (w.setRow B cs').frozen? a = w.frozen? a := by
  simp only [World.frozen?]
  by_cases q : a.block = B
  · rw [q, setRow_heap w B cs cs' e (0, 0) hg, hg]
  · rw [setRow_other w B a.block cs' q]

theorem Ext.alloc (w : World) (ro : Nat → Prop) (m : Pl) (o : Obj) (ho : Obj.free o) (nm D : Nat) (hmb : ∀ b B D, m b = some (B, D) → B < w.heap.size) (hrob : ∀ B, ro B → B < w.heap.size) :
    Ext w ro m (w.alloc o) ro (m.put nm (w.heap.size, D)) where
  os := rfl
  tape := rfl
  output := rfl
  size := by simp
  kro := fun B hB => ⟨hB, by rw [heap_alloc, if_neg (by have := hrob B hB; omega)]⟩
  own := fun B hB _ => by rw [heap_alloc, if_neg (by omega)]
  im := fun b B D' hb => by
    by_cases e : b = nm
    · subst e; rw [Pl.put_same] at hb; injection hb with hb; injection hb with h1 h2; exact .inr (by omega)
    · rw [Pl.put_other m _ e] at hb; exact .inl ⟨b, D', hb⟩
  rom := fun B hB => .inl hB
  shape := fun B cs e hc => ⟨cs, by rw [heap_alloc, if_neg (by have := (Array.getElem?_eq_some_iff.1 hc).1; omega)]; exact hc, rfl⟩
  fz := frozen_alloc w ho

/-- A new row. -/
theorem HeapOk.alloc {w : World} {ro : Nat → Prop} {m : Pl} {σ : H} (h : HeapOk w ro m σ) {nm : Nat} (hn : nm ≤ σ.length) (hm : m nm = none) (cells : List V) (cs : Array Value) (e : TypeId)
    (hc : ∀ (j : Nat) (c : V), cells[j]? = some c → ∃ v : Value, cs[j]? = some v ∧ VR w ro m c v) :
    HeapOk (w.alloc (.cells cs e)) ro (m.put nm (w.heap.size, 0)) (H.place σ nm (.row cells)) := by
  have x := Ext.alloc w ro m (.cells cs e) rfl nm 0 h.mb h.rob
  have k := x.keeps (Pl.put_keep _ hm)
  refine ⟨fun b p hb => ?_, fun b cl hb => ?_, fun b es hb => ?_, fun b1 b2 e1 e2 B1 D1 B2 D2 hne h1 h2 m1 m2 => ?_, fun B hB => by have := h.rob B hB; simp; omega, fun b B D hb => ?_⟩
  · by_cases q : b = nm
    · subst q; exact (H.place_length _).2 hn
    · rw [Pl.put_other m _ q] at hb; exact Nat.lt_of_lt_of_le (h.dom b p hb) (H.place_length _).1
  · rw [H.place_get hn] at hb
    by_cases q : b = nm
    · subst q
      rw [if_pos rfl] at hb
      injection hb with hb; injection hb with hb; injection hb with hb
      subst hb
      refine ⟨w.heap.size, 0, cs, e, Pl.put_same _ _ _, fun hr => by have := h.rob _ hr; omega, by rw [heap_alloc, if_pos rfl], fun j c hj => ?_⟩
      obtain ⟨v, h1, h2⟩ := hc j c hj
      exact ⟨v, by simpa using h1, h2.keep k⟩
    · rw [if_neg q] at hb
      obtain ⟨B, D, cs', e', h1, h2, h3, h4⟩ := h.row b cl hb
      refine ⟨B, D, cs', e', by rw [Pl.put_other m _ q]; exact h1, h2, by rw [heap_alloc, if_neg (by have := h.mb _ _ _ h1; omega)]; exact h3, fun j c hj => ?_⟩
      obtain ⟨v, h5, h6⟩ := h4 j c hj
      exact ⟨v, h5, h6.keep k⟩
  · rw [H.place_get hn] at hb
    by_cases q : b = nm
    · subst q; rw [if_pos rfl] at hb; simp at hb
    · rw [if_neg q] at hb
      obtain ⟨B, arr, clock, h1, h2, h3, h4, h5⟩ := h.mapE b es hb
      exact ⟨B, arr, clock, by rw [Pl.put_other m _ q]; exact h1, h2, by rw [heap_alloc, if_neg (by have := h.mb _ _ _ h1; omega)]; exact h3, h4, fun j e a h6 h7 => ⟨(h5 j e a h6 h7).1.keep k, (h5 j e a h6 h7).2.keep k⟩⟩
  · rw [H.place_get hn] at h1 h2
    by_cases q1 : b1 = nm
    · subst q1
      have q2 : b2 ≠ b1 := fun e => hne e.symm
      rw [Pl.put_same] at m1; rw [Pl.put_other m _ q2] at m2
      injection m1 with m1; injection m1 with m1 _
      have := h.mb _ _ _ m2; omega
    · by_cases q2 : b2 = nm
      · subst q2
        rw [Pl.put_same] at m2; rw [Pl.put_other m _ q1] at m1
        injection m2 with m2; injection m2 with m2 _
        have := h.mb _ _ _ m1; omega
      · rw [if_neg q1] at h1; rw [if_neg q2] at h2
        rw [Pl.put_other m _ q1] at m1; rw [Pl.put_other m _ q2] at m2
        exact h.inj b1 b2 e1 e2 B1 D1 B2 D2 hne h1 h2 m1 m2
  · by_cases q : b = nm
    · subst q; rw [Pl.put_same] at hb; injection hb with hb; injection hb with hb _; simp; omega
    · rw [Pl.put_other m _ q] at hb; have := h.mb _ _ _ hb; simp; omega

/-! ### A store -/

theorem Ext.setRow {w : World} {ro : Nat → Prop} {m : Pl} {b B D : Nat} {cs cs' : Array Value} {e : TypeId} (hm : m b = some (B, D)) (hr : ¬ ro B) (hg : w.heap[B]? = some (.cells cs e (0, 0))) (hs : cs'.size = cs.size) :
    Ext w ro m (w.setRow B cs') ro m where
  os := rfl
  tape := rfl
  output := rfl
  size := by simp
  kro := fun B' hB' => ⟨hB', setRow_other w B B' cs' (fun q => hr (q ▸ hB'))⟩
  own := fun B' _ hn => setRow_other w B B' cs' (fun q => hn b D (by rw [q]; exact hm))
  im := fun b' B' D' hb => .inl ⟨b', D', hb⟩
  rom := fun _ h => .inl h
  shape := fun B' c e' hc => by
    by_cases q : B' = B
    · subst q
      rw [hg] at hc; injection hc with hc; injection hc with h1 h2
      subst h1 h2
      exact ⟨cs', setRow_heap w B' cs cs' e (0, 0) hg, hs⟩
    · exact ⟨c, by rw [setRow_other w B B' cs' q]; exact hc, rfl⟩
  fz := frozen_setRow hg

/-- New cells in a row that is alive. -/
theorem HeapOk.setRow {w : World} {ro : Nat → Prop} {m : Pl} {σ : H} (h : HeapOk w ro m σ) {b : Nat} {cells cells' : List V} (hb : σ[b]? = some (some (.row cells))) {B D : Nat} {cs cs' : Array Value} {e : TypeId}
    (hm : m b = some (B, D)) (hg : w.heap[B]? = some (.cells cs e (0, 0))) (hs : cs'.size = cs.size)
    (hc : ∀ (j : Nat) (c : V), cells'[j]? = some c → ∃ v : Value, cs'[D + j]? = some v ∧ VR w ro m c v) :
    HeapOk (w.setRow B cs') ro m (σ.set b (some (.row cells'))) := by
  obtain ⟨B0, D0, cs0, e0, hm0, hr, hg0, _⟩ := h.row b cells hb
  obtain ⟨rfl, rfl⟩ : B0 = B ∧ D0 = D := by rw [hm] at hm0; injection hm0 with hm0; injection hm0 with a b; exact ⟨a.symm, b.symm⟩
  have x := Ext.setRow (w := w) (ro := ro) (m := m) hm hr hg hs
  have k := x.keeps (fun _ _ h => h)
  have hlt : b < σ.length := (List.getElem?_eq_some_iff.1 hb).1
  refine ⟨fun b' p hp => by simpa using h.dom b' p hp, fun b' cl hcl => ?_, fun b' es hcl => ?_, fun b1 b2 e1 e2 B1 D1 B2 D2 hne h1 h2 m1 m2 => ?_, fun B' hB => by simpa using h.rob B' hB, fun b' B' D' hb' => by simpa using h.mb b' B' D' hb'⟩
  · by_cases q : b' = b
    · subst q
      rw [List.getElem?_set_self hlt] at hcl
      injection hcl with hcl; injection hcl with hcl; injection hcl with hcl
      subst hcl
      refine ⟨B0, D0, cs', e, hm, hr, setRow_heap w B0 cs cs' e (0, 0) hg, fun j c hj => ?_⟩
      obtain ⟨v, h1, h2⟩ := hc j c hj
      exact ⟨v, h1, h2.keep k⟩
    · rw [List.getElem?_set_ne (fun e => q e.symm)] at hcl
      obtain ⟨B1, D1, c1, e1, h1, h2, h3, h4⟩ := h.row b' cl hcl
      have hB : B1 ≠ B0 := h.inj b' b _ _ B1 D1 B0 D0 q hcl hb h1 hm
      refine ⟨B1, D1, c1, e1, h1, h2, by rw [setRow_other w B0 B1 cs' hB]; exact h3, fun j c hj => ?_⟩
      obtain ⟨v, h5, h6⟩ := h4 j c hj
      exact ⟨v, h5, h6.keep k⟩
  · by_cases q : b' = b
    · subst q
      rw [List.getElem?_set_self hlt] at hcl
      simp at hcl
    · rw [List.getElem?_set_ne (fun e => q e.symm)] at hcl
      obtain ⟨B1, arr, clock, h1, h2, h3, h4, h5⟩ := h.mapE b' es hcl
      have hB : B1 ≠ B0 := h.inj b' b _ _ B1 0 B0 D0 q hcl hb h1 hm
      exact ⟨B1, arr, clock, h1, h2, by rw [setRow_other w B0 B1 cs' hB]; exact h3, h4, fun j e a h6 h7 => ⟨(h5 j e a h6 h7).1.keep k, (h5 j e a h6 h7).2.keep k⟩⟩
  · have g : ∀ (b' : Nat) (e' : Ent), (σ.set b (some (.row cells')))[b']? = some (some e') → ∃ e'' : Ent, σ[b']? = some (some e'') := by
      intro b' e' hh
      by_cases q : b' = b
      · subst q; exact ⟨_, hb⟩
      · rw [List.getElem?_set_ne (fun e => q e.symm)] at hh; exact ⟨_, hh⟩
    obtain ⟨f1, g1⟩ := g b1 e1 h1
    obtain ⟨f2, g2⟩ := g b2 e2 h2
    exact h.inj b1 b2 f1 f2 B1 D1 B2 D2 hne g1 g2 m1 m2

end Go.Am
