/- What was made and is written no more becomes plain content; names may be told anew. -/
import Derived.Test.YtbnegbjaoiplmaaAmR
set_option linter.unusedVariables false
set_option linter.unusedSimpArgs false
namespace Go.Am
open Go

/-! ### Content without names -/

mutual
def V.pure : V → Bool
  | .ptr _ _ => false
  | .sl _ _ _ _ => false
  | .mp _ => false
  | .agg cs => pureL cs
  | .tup cs => pureL cs
  | .fn _ cs => pureL cs
  | .ifc _ v => v.pure
  | .int _ _ => true
  | .bool _ => true
  | .str _ => true
  | .nil => true
  | .pp _ _ => true
  | .snil => true
  | .ps _ _ => true
  | .fnil => true
  | .inil => true
  | .mnil => true
  | .unk => true
def pureL : List V → Bool
  | [] => true
  | c :: cs => c.pure && pureL cs
end

theorem pureL_mem : ∀ {cs : List V}, pureL cs = true → ∀ c, c ∈ cs → c.pure = true
  | [], _, c, h => by cases h
  | d :: cs, hp, c, h => by
    simp only [pureL, Bool.and_eq_true] at hp
    rcases List.mem_cons.1 h with rfl | h
    · exact hp.1
    · exact pureL_mem hp.2 c h
theorem pureL_of : ∀ {cs : List V}, (∀ c, c ∈ cs → c.pure = true) → pureL cs = true
  | [], _ => rfl
  | d :: cs, hp => by
    simp only [pureL, Bool.and_eq_true]
    exact ⟨hp d (by simp), pureL_of fun c hc => hp c (by simp [hc])⟩

theorem VR.vn {w : World} {ro : Nat → Prop} {m : Pl} {v : V} {u : Value} (h : VR w ro m v u) : v.pure = true → VN w ro v u := by
  induction h with
  | int k n => intro _; exact .int k n
  | bool b => intro _; exact .bool b
  | str s => intro _; exact .str s
  | nil => intro _; exact .nil
  | ptr h => intro hp; simp [V.pure] at hp
  | pp f hro hc hv => intro _; exact .pp f hro hc hv
  | snil => intro _; exact .snil
  | sl h hcap hb hs => intro hp; simp [V.pure] at hp
  | ps f hl hsz hA hc hv => intro _; exact .ps f hl hsz hA hc hv
  | agg hl _ ih => intro hp; simp only [V.pure] at hp; exact .agg hl (fun j c v hj hv => ih j c v hj hv (pureL_mem hp c (List.mem_of_getElem? hj)))
  | tup hl _ ih => intro hp; simp only [V.pure] at hp; exact .tup hl (fun j c v hj hv => ih j c v hj hv (pureL_mem hp c (List.mem_of_getElem? hj)))
  | fn hl _ ih => intro hp; simp only [V.pure] at hp; exact .fn hl (fun j c v hj hv => ih j c v hj hv (pureL_mem hp c (List.mem_of_getElem? hj)))
  | fnil => intro _; exact .fnil
  | ifc h ih => intro hp; simp only [V.pure] at hp; exact .ifc (ih hp)
  | inil => intro _; exact .inil
  | mp h => intro hp; simp [V.pure] at hp
  | mnil => intro _; exact .mnil
  | unk v => intro _; exact .unk v

theorem VR.moved {w : World} {ro : Nat → Prop} {m m' : Pl} {v : V} {u : Value} (h : VR w ro m v u) (hp : v.pure = true) : VR w ro m' v u := (h.vn hp).lift

/-! ### Reading a tree of rows -/

/-- What a value may be read as, so many levels deep; each row on the way has a name among those. -/
def Rd (N : Nat → Prop) (σ : H) : Nat → V → V → Prop
  | 0, v, v' => v' = v ∧ v.pure = true
  | d + 1, v, v' => match v with
    | .sl b off len sz => ∃ xs row, v' = .ps sz xs ∧ xs.length = len ∧ N b ∧ rowAt σ b = some row ∧ (∀ (i : Nat) (x : V), xs[i]? = some x → ∃ cs, x.cells = some cs ∧ cs.length = sz) ∧
        ∀ (i j : Nat) (c' : V), cellAt xs i j = some c' → ∃ c, row[off + (i * sz + j)]? = some c ∧ Rd N σ d c c'
    | .snil => v' = .snil ∨ ∃ sz, v' = .ps sz []
    | .agg cs => ∃ cs', v' = .agg cs' ∧ cs'.length = cs.length ∧ ∀ (j : Nat) (c c' : V), cs[j]? = some c → cs'[j]? = some c' → Rd N σ d c c'
    | .tup cs => ∃ cs', v' = .tup cs' ∧ cs'.length = cs.length ∧ ∀ (j : Nat) (c c' : V), cs[j]? = some c → cs'[j]? = some c' → Rd N σ d c c'
    | v => v' = v ∧ v.pure = true

/-- The rows with such names are read only from now on. -/
def roN (ro : Nat → Prop) (m : Pl) (σ : H) (N : Nat → Prop) : Nat → Prop := fun B => ro B ∨ ∃ (b D : Nat) (e : Ent), N b ∧ m b = some (B, D) ∧ σ[b]? = some (some e)

theorem VN.more {w : World} {ro ro' : Nat → Prop} (kro : ∀ B : Nat, ro B → ro' B) {v : V} {u : Value} (h : VN w ro v u) : VN w ro' v u := h.keep kro (fun _ _ _ _ h => h)
theorem VR.more {w : World} {ro ro' : Nat → Prop} {m : Pl} (kro : ∀ B : Nat, ro B → ro' B) {v : V} {u : Value} (h : VR w ro m v u) : VR w ro' m v u :=
  h.keep ⟨kro, fun _ _ _ _ h => h, fun _ _ h => h, fun _ _ _ cs _ _ h => ⟨cs, h, rfl⟩⟩

theorem some_of_lt {α : Type} {l : List α} {j : Nat} (h : j < l.length) : ∃ c, l[j]? = some c := ⟨_, List.getElem?_eq_getElem h⟩
theorem somA_of_lt {α : Type} {l : Array α} {j : Nat} (h : j < l.size) : ∃ c, l[j]? = some c := ⟨_, Array.getElem?_eq_getElem h⟩
theorem lt_of_some {α : Type} {l : List α} {j : Nat} {c : α} (h : l[j]? = some c) : j < l.length := (List.getElem?_eq_some_iff.1 h).1

theorem VR.rd {w : World} {ro : Nat → Prop} {m : Pl} {σ : H} (hσ : HeapOk w ro m σ) {N : Nat → Prop} : ∀ (d : Nat) {v v' : V} {u : Value}, VR w ro m v u → Rd N σ d v v' → VN w (roN ro m σ N) v' u
  | 0, v, v', u, h, hr => by
    obtain ⟨rfl, hp⟩ := hr
    exact (h.vn hp).more fun _ h => .inl h
  | d + 1, v, v', u, h, hr => by
    have h0 := h
    cases h with
    | @sl b off len sz B D cap cs e hm hcap hb hs =>
      simp only [Rd] at hr
      obtain ⟨xs, row, rfl, hlen, hN, hrow, hsz, hcells⟩ := hr
      obtain ⟨B', D', cur, e', hm', hro, hg, hcs⟩ := hσ.row b row (rowAt_some hrow)
      obtain ⟨rfl, rfl⟩ : B' = B ∧ D' = D := by rw [hm] at hm'; injection hm' with h1; injection h1 with a b; exact ⟨a.symm, b.symm⟩
      have hB : roN ro m σ N B' := .inr ⟨b, D', .row row, hN, hm, rowAt_some hrow⟩
      have hcell : ∀ j c0, row[j]? = some c0 → w.cell? ⟨B', D' + j, none⟩ = some ((w.cell? ⟨B', D' + j, none⟩).getD Go.undef) ∧ VR w ro m c0 ((w.cell? ⟨B', D' + j, none⟩).getD Go.undef) := fun j c0 hj => by
        obtain ⟨x, h1, h2⟩ := hcs j c0 hj
        have : w.cell? ⟨B', D' + j, none⟩ = some x := by simp [World.cell?, hg, h1]
        rw [this]
        exact ⟨rfl, h2⟩
      subst hlen
      refine VN.ps (A := some ⟨B', D' + off, none⟩) (cap := cap) (fun i j => (w.cell? ⟨B', D' + (off + (i * sz + j)), none⟩).getD Go.undef) hcap hsz (fun _ => ⟨_, rfl, rfl, hB⟩) (fun a ha i j c hc => ?_) (fun i j c hc => ?_)
      · cases ha
        obtain ⟨c0, h1, _⟩ := hcells i j c hc
        have := (hcell _ c0 h1).1
        simp only [Nat.add_assoc] at this ⊢
        exact this
      · obtain ⟨c0, h1, h2⟩ := hcells i j c hc
        exact VR.rd hσ d (hcell _ c0 h1).2 h2
    | snil =>
      simp only [Rd] at hr
      rcases hr with rfl | ⟨sz, rfl⟩
      · exact .snil
      · exact VN.ps (sz := sz) (xs := []) (A := none) (cap := 0) (fun _ _ => Go.undef) (by simp) (fun i x h => by simp at h) (fun h => absurd rfl h) (fun a ha => by cases ha) (fun i j c h => by simp [cellAt] at h)
    | agg hl hv =>
      simp only [Rd] at hr
      obtain ⟨cs', rfl, hl', hc⟩ := hr
      refine .agg (by omega) (fun j c x hj hx => ?_)
      obtain ⟨c0, h0⟩ := some_of_lt (hl' ▸ lt_of_some hj)
      exact VR.rd hσ d (hv j c0 x h0 hx) (hc j c0 c h0 hj)
    | tup hl hv =>
      simp only [Rd] at hr
      obtain ⟨cs', rfl, hl', hc⟩ := hr
      refine .tup (by omega) (fun j c x hj hx => ?_)
      obtain ⟨c0, h0⟩ := some_of_lt (hl' ▸ lt_of_some hj)
      exact VR.rd hσ d (hv j c0 x h0 hx) (hc j c0 c h0 hj)
    | _ =>
      simp only [Rd] at hr
      obtain ⟨rfl, hp⟩ := hr
      exact (h0.vn hp).more fun _ h => .inl h

/-! ### Frame and heap told anew -/

/-- The same with other names, or read as plain content. -/
inductive Cn (σ : H) (old : Nat → Option Nat) (N : Nat → Prop) : V → V → Prop
  | unk (v : V) : Cn σ old N v .unk
  | rd (d : Nat) {v v' : V} (h : Rd N σ d v v') : Cn σ old N v v'
  | ptr {b b' o : Nat} (h : old b' = some b) : Cn σ old N (.ptr b o) (.ptr b' o)
  | sl {b b' o l s : Nat} (h : old b' = some b) : Cn σ old N (.sl b o l s) (.sl b' o l s)
  | mp {b b' : Nat} (h : old b' = some b) : Cn σ old N (.mp b) (.mp b')
  | agg {cs cs' : List V} (hl : cs'.length = cs.length) (h : ∀ (j : Nat) (c c' : V), cs[j]? = some c → cs'[j]? = some c' → Cn σ old N c c') : Cn σ old N (.agg cs) (.agg cs')
  | tup {cs cs' : List V} (hl : cs'.length = cs.length) (h : ∀ (j : Nat) (c c' : V), cs[j]? = some c → cs'[j]? = some c' → Cn σ old N c c') : Cn σ old N (.tup cs) (.tup cs')
  | fn {f : Nat} {cs cs' : List V} (hl : cs'.length = cs.length) (h : ∀ (j : Nat) (c c' : V), cs[j]? = some c → cs'[j]? = some c' → Cn σ old N c c') : Cn σ old N (.fn f cs) (.fn f cs')
  | ifc {t : Nat} {v v' : V} (h : Cn σ old N v v') : Cn σ old N (.ifc t v) (.ifc t v')

theorem Cn.ok {w : World} {ro : Nat → Prop} {m : Pl} {σ : H} (hσ : HeapOk w ro m σ) {old : Nat → Option Nat} {N : Nat → Prop} {v v' : V} (hc : Cn σ old N v v') : ∀ {u : Value}, VR w ro m v u → VR w (roN ro m σ N) (fun b' => (old b').bind m) v' u := by
  induction hc with
  | unk v => intro u _; exact .unk u
  | rd d h => intro u hu; exact (VR.rd hσ d hu h).lift
  | @ptr b b' o h => intro u hu; cases hu with | ptr hm => exact .ptr (by simp only [h, Option.bind_some]; exact hm)
  | @sl b b' o l s h => intro u hu; cases hu with | sl hm hcap hb hs => exact .sl (by simp only [h, Option.bind_some]; exact hm) hcap hb hs
  | @mp b b' h => intro u hu; cases hu with | mp hm => exact .mp (by simp only [h, Option.bind_some]; exact hm)
  | agg hl _ ih =>
    intro u hu
    cases hu with
    | agg hl0 hv => exact .agg (by omega) (fun j c x hj hx => by obtain ⟨c0, h0⟩ := some_of_lt (hl ▸ lt_of_some hj); exact ih j c0 c h0 hj (hv j c0 x h0 hx))
  | tup hl _ ih =>
    intro u hu
    cases hu with
    | tup hl0 hv => exact .tup (by omega) (fun j c x hj hx => by obtain ⟨c0, h0⟩ := some_of_lt (hl ▸ lt_of_some hj); exact ih j c0 c h0 hj (hv j c0 x h0 hx))
  | fn hl _ ih =>
    intro u hu
    cases hu with
    | fn hl0 hv => exact .fn (by omega) (fun j c x hj hx => by obtain ⟨c0, h0⟩ := some_of_lt (hl ▸ lt_of_some hj); exact ih j c0 c h0 hj (hv j c0 x h0 hx))
  | ifc _ ih =>
    intro u hu
    cases hu with
    | ifc h => exact .ifc (ih h)

/-- Values with the heap, told otherwise. -/
def WeakG {ι : Type} (k : Nat) (x : ι → V) (σ : H) (y : ι → V) (σ' : H) : Prop :=
  ∀ w ro m (u : ι → Value), (∀ i, VR w ro m (x i) (u i)) → HeapOk w ro m σ → k ≤ σ.length → ∃ ro' m', (∀ i, VR w ro' m' (y i) (u i)) ∧ HeapOk w ro' m' σ' ∧ Ext w ro m w ro' m' ∧ (∀ b, b < k → m' b = m b) ∧ k ≤ σ'.length

/-- How a heap is told anew: of each new name the old one; of the entries all that they hold. -/
structure HeapCn (k : Nat) (σ : H) (old : Nat → Option Nat) (N : Nat → Prop) (σ' : H) : Prop where
  low : ∀ b, b < k → old b = some b
  dom : ∀ b' b, old b' = some b → b' < σ'.length
  inj : ∀ b1 b2 b, old b1 = some b → old b2 = some b → b1 = b2
  apart : ∀ b b', N b → old b' ≠ some b
  row : ∀ b' cells', σ'[b']? = some (some (.row cells')) → ∃ b cells, old b' = some b ∧ σ[b]? = some (some (.row cells)) ∧ ∀ (j : Nat) (c' : V), cells'[j]? = some c' → ∃ c, cells[j]? = some c ∧ Cn σ old N c c'
  mapE : ∀ b' es', σ'[b']? = some (some (.mapE es')) → ∃ b es, old b' = some b ∧ σ[b]? = some (some (.mapE es)) ∧ es'.length = es.length ∧ ∀ (j : Nat) (e e' : V × V), es[j]? = some e → es'[j]? = some e' → Cn σ old N e.1 e'.1 ∧ Cn σ old N e.2 e'.2
  len : k ≤ σ'.length

theorem HeapCn.ok {k : Nat} {σ σ' : H} {old : Nat → Option Nat} {N : Nat → Prop} (h : HeapCn k σ old N σ') {w : World} {ro : Nat → Prop} {m : Pl} (hσ : HeapOk w ro m σ) :
    HeapOk w (roN ro m σ N) (fun b' => (old b').bind m) σ' ∧ Ext w ro m w (roN ro m σ N) (fun b' => (old b').bind m) ∧ ∀ b, b < k → (fun b' => (old b').bind m) b = m b := by
  have hm : ∀ {b' : Nat} {p : Nat × Nat}, (old b').bind m = some p → ∃ b, old b' = some b ∧ m b = some p := fun {b' p} h => by
    cases hq : old b' with
    | none => rw [hq] at h; cases h
    | some b => rw [hq] at h; exact ⟨b, rfl, h⟩
  have noR : ∀ (b b' B D : Nat) (e : Ent), old b' = some b → m b = some (B, D) → σ[b]? = some (some e) → ¬ ro B → ¬ roN ro m σ N B := fun b b' B D e ho hB he hno hc => by
    rcases hc with hc | ⟨b2, D2, e2, h1, h2, h3⟩
    · exact hno hc
    · exact hσ.inj b b2 _ _ B D B D2 (fun e => h.apart b2 b' h1 (e ▸ ho)) he h3 hB h2 rfl
  refine ⟨⟨fun b p hb => ?_, fun b' cells' hb => ?_, fun b' es' hb => ?_, fun b1 b2 e1 e2 B1 D1 B2 D2 hne h1 h2 m1 m2 => ?_, fun B hB => ?_, fun b B D hb => ?_⟩, ⟨rfl, rfl, rfl, Nat.le_refl _, fun B hB => ⟨.inl hB, rfl⟩, fun _ _ _ => rfl, fun b B D hb => ?_, fun B hB => ?_, fun _ cs _ h => ⟨cs, h, rfl⟩, fun _ => rfl⟩, fun b hb => ?_⟩
  · obtain ⟨b0, h1, _⟩ := hm hb
    exact h.dom b b0 h1
  · obtain ⟨b, cells, h1, h2, h3⟩ := h.row b' cells' hb
    obtain ⟨B, D, cs, e, k1, k2, k3, k4⟩ := hσ.row b cells h2
    refine ⟨B, D, cs, e, by simp only [h1, Option.bind_some]; exact k1, noR b b' B D _ h1 k1 h2 k2, k3, fun j c' hj => ?_⟩
    obtain ⟨c, h4, h5⟩ := h3 j c' hj
    obtain ⟨v, h6, h7⟩ := k4 j c h4
    exact ⟨v, h6, h5.ok hσ h7⟩
  · obtain ⟨b, es, h1, h2, h3, h4⟩ := h.mapE b' es' hb
    obtain ⟨B, arr, clock, k1, k2, k3, k4, k5⟩ := hσ.mapE b es h2
    refine ⟨B, arr, clock, by simp only [h1, Option.bind_some]; exact k1, noR b b' B 0 _ h1 k1 h2 k2, k3, by omega, fun j e' a hj ha => ?_⟩
    obtain ⟨e, he⟩ := some_of_lt (h3 ▸ lt_of_some hj)
    have g1 := h4 j e e' he hj
    have g2 := k5 j e a he ha
    exact ⟨g1.1.ok hσ g2.1, g1.2.ok hσ g2.2⟩
  · obtain ⟨x1, n1, p1⟩ := hm m1
    obtain ⟨x2, n2, p2⟩ := hm m2
    have live : ∀ (b' : Nat) (e : Ent) (b : Nat), σ'[b']? = some (some e) → old b' = some b → ∃ e0, σ[b]? = some (some e0) := fun b' e b he ho => by
      cases e with
      | row cells =>
        obtain ⟨b0, cells0, g1, g2, _⟩ := h.row b' cells he
        rw [ho] at g1; cases g1
        exact ⟨_, g2⟩
      | mapE es =>
        obtain ⟨b0, es0, g1, g2, _⟩ := h.mapE b' es he
        rw [ho] at g1; cases g1
        exact ⟨_, g2⟩
    obtain ⟨f1, q1⟩ := live b1 e1 x1 h1 n1
    obtain ⟨f2, q2⟩ := live b2 e2 x2 h2 n2
    exact hσ.inj x1 x2 f1 f2 B1 D1 B2 D2 (fun e => hne (h.inj b1 b2 x1 n1 (e ▸ n2))) q1 q2 p1 p2
  · rcases hB with hB | ⟨b, D, e, _, h2, _⟩
    · exact hσ.rob B hB
    · exact hσ.mb b B D h2
  · obtain ⟨b0, h1, h2⟩ := hm hb
    exact hσ.mb b0 B D h2
  · obtain ⟨b0, h1, h2⟩ := hm hb
    exact .inl ⟨b0, D, h2⟩
  · rcases hB with hB | ⟨b, D, e, _, h2, _⟩
    · exact .inl hB
    · exact .inr (.inl ⟨b, D, h2⟩)
  · simp only [h.low b hb, Option.bind_some]

theorem WeakG.canon {ι : Type} {k : Nat} {x y : ι → V} {σ σ' : H} (old : Nat → Option Nat) (N : Nat → Prop) (h : HeapCn k σ old N σ') (hv : ∀ i, Cn σ old N (x i) (y i)) : WeakG k x σ y σ' := fun w ro m u hu hσ hk => by
  obtain ⟨h1, h2, h3⟩ := h.ok hσ
  exact ⟨_, _, fun i => (hv i).ok hσ (hu i), h1, h2, h3, h.len⟩

theorem WeakG.weak {k n : Nat} {m m' : List (Nat × V)} {σ σ' : H} (h : WeakG k (look m) σ (look m') σ') : Weak k ⟨n, m⟩ σ ⟨n, m'⟩ σ' := fun w ro mm a hf hσ hk => by
  obtain ⟨ro', m1, h1, h2, h3, h4, h5⟩ := h w ro mm (fun t => a.tmps.getD t undef) hf.v hσ hk
  exact ⟨ro', m1, ⟨hf.n, hf.d, h1⟩, h2, h3, h4, h5⟩

/-- Behind a call: what it gives, and the heap, may be told otherwise. -/
def SetQ (k : Nat) (Q : Out → H → Prop) : Out → H → Prop
  | .ret v, s => ∃ v' s', WeakG (ι := Unit) k (fun _ => v) s (fun _ => v') s' ∧ Q (.ret v') s'
  | .pan v, s => Q (.pan v) s

theorem Spec.weak {P : Program} {g : FuncId} {args : List V} {σ : H} {Q : Out → H → Prop} (h : Spec P g args σ (SetQ σ.length Q)) : Spec P g args σ Q := fun w ro m vs ha hσ => by
  refine (h w ro m vs ha hσ).mono fun e w' hp => ?_
  obtain ⟨o, σ', ro', m', hq, ho, hσ', hx, hm, hle⟩ := hp
  cases ho with
  | @ret v u hv =>
    obtain ⟨v', s', hw, hq⟩ := hq
    obtain ⟨ro1, m1, h1, h2, h3, h4, h5⟩ := hw w' ro' m' (fun _ => u) (fun _ => hv) hσ' hle
    exact ⟨.ret v', s', ro1, m1, hq, .ret (h1 ()), h2, hx.trans h3, fun b hb => (h4 b hb).trans (hm b hb), h5⟩
  | pan hv => exact ⟨_, σ', ro', m', hq, .pan hv, hσ', hx, hm, hle⟩

/-! ### Lent: a call that only reads may be shown of plain content -/

/-- The arguments read as those. -/
def ReadAll (d : Nat) (σ : H) : List V → List V → Prop
  | [], [] => True
  | x :: xs, y :: ys => Rd (fun _ => True) σ d x y ∧ ReadAll d σ xs ys
  | _, _ => False

theorem ReadAll.get {d : Nat} {σ : H} : ∀ {xs ys : List V}, ReadAll d σ xs ys → xs.length = ys.length ∧ ∀ (j : Nat) (y : V), ys[j]? = some y → ∃ x, xs[j]? = some x ∧ Rd (fun _ => True) σ d x y
  | [], [], _ => ⟨rfl, fun j y h => by simp at h⟩
  | x :: xs, y :: ys, h => by
    obtain ⟨h1, h2⟩ := h.2.get
    refine ⟨by simp [h1], fun j z hz => ?_⟩
    cases j with
    | zero => simp at hz; subst hz; exact ⟨x, rfl, h.1⟩
    | succ j => simp at hz; obtain ⟨x', h3, h4⟩ := h2 j z hz; exact ⟨x', by simpa using h3, h4⟩
  | [], _ :: _, h => h.elim
  | _ :: _, [], h => h.elim

/-- A value that has nothing to do with memory. -/
def Plain : V → Prop
  | .int _ _ => True
  | .bool _ => True
  | .tup cs => ∀ c, c ∈ cs → match c with | .int _ _ => True | .bool _ => True | _ => False
  | _ => False

theorem VR.plain {w w' : World} {ro ro' : Nat → Prop} {m m' : Pl} {v : V} {u : Value} (h : VR w ro m v u) (hp : Plain v) : VR w' ro' m' v u := by
  cases h
  case int => exact .int _ _
  case bool => exact .bool _
  case tup hl hv =>
    refine .tup hl (fun j c x hj hx => ?_)
    have h1 := hv j c x hj hx
    have h2 := hp c (List.mem_of_getElem? hj)
    cases h1 <;> simp only at h2
    · exact .int _ _
    · exact .bool _
  all_goals exact hp.elim

theorem Spec.lend {P : Program} {g : FuncId} {args args' : List V} {σ : H} {R : V → Prop} (d : Nat) (ha : ReadAll d σ args args')
    (h : Spec P g args' (List.replicate σ.length none) fun o s => s = List.replicate σ.length none ∧ ∃ v, o = .ret v ∧ Plain v ∧ R v) :
    Spec P g args σ fun o s => s = σ ∧ ∃ v, o = .ret v ∧ R v := fun w ro m vs hv hσ => by
  obtain ⟨hal, hag⟩ := ha.get
  have none_get : ∀ (b : Nat) (e : Ent), (List.replicate σ.length (none : Option Ent))[b]? = some (some e) → False := fun b e h => by
    rw [List.getElem?_replicate] at h
    split at h <;> simp at h
  have hσ1 : HeapOk w (roN ro m σ (fun _ => True)) m (List.replicate σ.length none) := by
    refine ⟨fun b p hb => by have := hσ.dom b p hb; simpa using this, fun b cells hb => (none_get b _ hb).elim, fun b es hb => (none_get b _ hb).elim, fun b1 b2 e1 e2 B1 D1 B2 D2 hne h1 => (none_get b1 _ h1).elim, fun B hB => ?_, hσ.mb⟩
    rcases hB with hB | ⟨b, D, row, _, h2, _⟩
    · exact hσ.rob B hB
    · exact hσ.mb b B D h2
  have hargs : ArgsR w (roN ro m σ (fun _ => True)) m args' vs := by
    refine ⟨by rw [← hal]; exact hv.1, fun j c v hj hjv => ?_⟩
    obtain ⟨x, h1, h2⟩ := hag j c hj
    exact (VR.rd hσ d (hv.2 j x v h1 hjv) h2).lift
  refine (h w _ m vs hargs hσ1).mono fun e w' hp => ?_
  obtain ⟨o, s, ro', m', ⟨rfl, v, rfl, hpl, hR⟩, ho, _, hx, _, _⟩ := hp
  cases ho with
  | ret hvu =>
    have kp : Keeps w ro m w' ro m := by
      refine ⟨fun _ h => h, fun B o x hB hc => ?_, fun _ _ h => h, fun b B D cs e _ hc => hx.shape B cs e hc⟩
      have := (hx.kro B (.inl hB)).2
      simpa [World.cell?, this] using hc
    refine ⟨.ret v, σ, ro, m, ⟨rfl, v, rfl, hR⟩, .ret (hvu.plain hpl), ⟨hσ.dom, fun b cells hb => ?_, fun b es hb => ?_, hσ.inj, fun B hB => Nat.lt_of_lt_of_le (hσ.rob B hB) hx.size, fun b B D hb => Nat.lt_of_lt_of_le (hσ.mb b B D hb) hx.size⟩, ?_, fun _ _ => rfl, Nat.le_refl _⟩
    · obtain ⟨B, D, cs, e, k1, k2, k3, k4⟩ := hσ.row b cells hb
      have hB : roN ro m σ (fun _ => True) B := .inr ⟨b, D, .row cells, trivial, k1, hb⟩
      refine ⟨B, D, cs, e, k1, k2, by rw [(hx.kro B hB).2]; exact k3, fun j c hj => ?_⟩
      obtain ⟨x, h5, h6⟩ := k4 j c hj
      exact ⟨x, h5, h6.keep kp⟩
    · obtain ⟨B, arr, clock, k1, k2, k3, k4, k5⟩ := hσ.mapE b es hb
      have hB : roN ro m σ (fun _ => True) B := .inr ⟨b, 0, .mapE es, trivial, k1, hb⟩
      exact ⟨B, arr, clock, k1, k2, by rw [(hx.kro B hB).2]; exact k3, k4, fun j e a hj ha => ⟨(k5 j e a hj ha).1.keep kp, (k5 j e a hj ha).2.keep kp⟩⟩
    · exact ⟨hx.os, hx.tape, hx.output, hx.size, fun B hB => ⟨hB, (hx.kro B (.inl hB)).2⟩, hx.own, fun b B D hb => .inl ⟨b, D, hb⟩, fun B hB => .inl hB, hx.shape, hx.fz⟩

end Go.Am
