/- The abstract machine's operations, each with what it says of the model's: pieces of slices, append, len, least and greatest, clear. -/
import Derived.Test.YtbnegbjaoiplmaaAmF
set_option linter.unusedVariables false
set_option linter.unusedSimpArgs false
namespace Go.Am
open Go

/-- A value that may be there. -/
inductive VRo (w : World) (ro : Nat → Prop) (m : Pl) : Option V → Option Value → Prop
  | none : VRo w ro m none none
  | some {v : V} {u : Value} (h : VR w ro m v u) : VRo w ro m (some v) (some u)

theorem sliceBounds_run {P : Program} {w : World} {ro : Nat → Prop} {m : Pl} {lo hi : Option V} {lo' hi' : Option Value} (hlo : VRo w ro m lo lo') (hhi : VRo w ro m hi hi') (isSlice : Bool) {len cap h l : Nat} (hc : len ≤ cap)
    (h1 : aBound len hi len = some h) (h2 : aBound h lo 0 = some l) : (Instr.sliceBounds isSlice len cap lo' hi' none).run P w = .ok (l, h, cap) w ∧ l ≤ h ∧ h ≤ len := by
  have e1 : h ≤ len ∧ ∀ (code : BoundsCode) (v : Value), hi' = some v → (Instr.sliceBound v cap code).run P w = .ok h w := by
    cases hhi with
    | none => simp [aBound] at h1; subst h1; exact ⟨Nat.le_refl _, fun _ _ hv => by cases hv⟩
    | some hv =>
      cases hv <;> simp only [aBound] at h1 <;> try cases h1
      case int k i =>
        split at h1
        · rename_i hh
          simp only [Option.some.injEq] at h1
          subst h1
          exact ⟨by omega, fun code v hv => by cases hv; exact run_sliceBound w k i cap _ hh.1 (by omega)⟩
        · cases h1
  have e2 : l ≤ h ∧ ∀ (code : BoundsCode) (v : Value), lo' = some v → (Instr.sliceBound v h code).run P w = .ok l w := by
    cases hlo with
    | none => simp [aBound] at h2; subst h2; exact ⟨Nat.zero_le _, fun _ _ hv => by cases hv⟩
    | some hv =>
      cases hv <;> simp only [aBound] at h2 <;> try cases h2
      case int k i =>
        split at h2
        · rename_i hh
          simp only [Option.some.injEq] at h2
          subst h2
          exact ⟨by omega, fun code v hv => by cases hv; exact run_sliceBound w k i h _ hh.1 hh.2⟩
        · cases h2
  refine ⟨?_, e2.1, e1.1⟩
  have f1 := e1.2
  have f2 := e2.2
  unfold Instr.sliceBounds
  cases hhi with
  | none =>
    simp [aBound] at h1
    subst h1
    cases hlo with
    | none => simp [aBound] at h2; subst h2; simp
    | some hv => simp [f2 _ _ rfl]
  | some hu =>
    cases hlo with
    | none => simp [aBound] at h2; subst h2; simp [f1 _ _ rfl]
    | some hv => simp [f1 _ _ rfl, f2 _ _ rfl]

theorem aSlice_ok {P : Program} {w : World} {ro : Nat → Prop} {m : Pl} {t : TypeId} {x v : V} {x' : Value} {lo hi : Option V} {lo' hi' : Option Value} (hx : VR w ro m x x') (hlo : VRo w ro m lo lo') (hhi : VRo w ro m hi hi')
    (h : aSlice P t x lo hi = some v) : ∃ v', (Instr.sliceAt t x' lo' hi' none).run P w = .ok v' w ∧ VR w ro m v v' := by
  unfold aSlice at h
  split at h
  case h_3 => cases h
  case h_1 e hu =>
    have hrun : ∀ (a : Option Addr) (len cap l h s : Nat), (Instr.sliceBounds true len cap lo' hi' none).run P w = .ok (l, h, cap) w → sizeT P e = some s →
        (Instr.sliceAt t (.slice a len cap) lo' hi' none).run P w = .ok (.slice (if cap = l then a else a.map (·.add (l * s))) (h - l) (cap - l)) w := by
      intro a len cap l h s h1 h2
      simp [Instr.sliceAt, Instr.slice, run_underlying hu, h1, run_sizeOf h2]
    split at h
    case h_4 => cases h
    case h_1 s b off len sz hs =>
      split at h
      case h_2 => cases h
      rename_i hh h1
      split at h
      case h_2 => cases h
      rename_i l h2
      split at h
      case isFalse => cases h
      rename_i hsz
      subst hsz
      cases hx with
      | @sl _ _ _ _ B D cap cs el hm hcap hb hsize =>
        obtain ⟨g1, g2, g3⟩ := sliceBounds_run (P := P) hlo hhi true hcap h1 h2
        refine ⟨_, hrun _ _ _ _ _ _ g1 hs, ?_⟩
        simp only [Option.some.injEq] at h
        subst h
        by_cases q : l = 0
        · subst q
          simp only [if_true, Nat.zero_mul, Nat.sub_zero]
          have : (if cap = 0 then some (⟨B, D + off, none⟩ : Addr) else (some (⟨B, D + off, none⟩ : Addr)).map (·.add 0)) = some ⟨B, D + off, none⟩ := by split <;> simp [Addr.add]
          rw [this]
          exact .sl hm (by omega) hb hsize
        · rw [if_neg q]
          by_cases q2 : l = hh
          · rw [if_pos q2, q2, Nat.sub_self]
            exact .ps (xs := []) (fun _ _ => undef) (by simp) (fun i x hx => by simp at hx) (fun hne => absurd rfl hne) (fun a _ i j c hc => by simp [cellAt] at hc) (fun i j c hc => by simp [cellAt] at hc)
          · rw [if_neg q2, if_neg (by omega)]
            simp only [Option.map_some]
            rw [add_none, Nat.add_assoc]
            refine .sl hm (by omega) hb ?_
            have : l * s + (cap - l) * s = cap * s := by rw [← Nat.add_mul]; congr 1; omega
            omega
    case h_2 s sz xs hs =>
      split at h
      case h_2 => cases h
      rename_i hh h1
      split at h
      case h_2 => cases h
      rename_i l h2
      split at h
      case isFalse => cases h
      rename_i hsz
      subst hsz
      simp only [Option.some.injEq] at h
      subst h
      generalize hq : V.ps s xs = x0 at hx
      cases hx with
      | ps f hcap hsize hA hc hv =>
        rename_i sz' xs' A cap
        injection hq with hq1 hq2
        subst hq1 hq2
        obtain ⟨g1, g2, g3⟩ := sliceBounds_run (P := P) hlo hhi true hcap h1 h2
        refine ⟨_, hrun _ _ _ _ _ _ g1 hs, ?_⟩
        have hlen : ((xs.take hh).drop l).length = hh - l := by simp; omega
        have hget : ∀ i, ((xs.take hh).drop l)[i]? = if l + i < hh then xs[l + i]? else none := by
          intro i; rw [List.getElem?_drop, List.getElem?_take]
        have hcell : ∀ i j c, cellAt ((xs.take hh).drop l) i j = some c → cellAt xs (l + i) j = some c ∧ l + i < hh := by
          intro i j c h0
          simp only [cellAt, hget] at h0 ⊢
          split at h0
          · rename_i hi; exact ⟨h0, hi⟩
          · simp at h0
        rw [← hlen]
        refine .ps (fun i j => f (l + i) j) (by omega) (fun i x h0 => ?_) (fun hne => ?_) (fun a ha i j c h0 => ?_) (fun i j c h0 => hv (l + i) j c (hcell i j c h0).1)
        · rw [hget] at h0; split at h0
          · exact hsize _ _ h0
          · cases h0
        · have hne' : xs ≠ [] := by intro e0; subst e0; simp at hne
          obtain ⟨a, ha, h5, h6⟩ := hA hne'
          subst ha
          have hlt : l < hh := by
            rcases Nat.lt_or_ge l hh with h0 | h0
            · exact h0
            · exact absurd (List.eq_nil_of_length_eq_zero (by omega)) hne
          rw [if_neg (by omega)]
          refine ⟨a.add (l * s), rfl, ?_, ?_⟩
          · unfold Addr.add; split
            · exact h5
            · rfl
          · unfold Addr.add; split <;> exact h6
        · obtain ⟨h7, h8⟩ := hcell i j c h0
          obtain ⟨a', ha', h5, h6⟩ := hA (cellAt_ne h7)
          subst ha'
          rw [if_neg (by omega)] at ha
          simp only [Option.map_some, Option.some.injEq] at ha
          have h9 := hc a' rfl (l + i) j c h7
          have e1 : a.block = a'.block := by rw [← ha]; unfold Addr.add; split <;> rfl
          have e2 : a.off = a'.off + l * s := by
            rw [← ha]; unfold Addr.add; split
            · rename_i h0; rw [h0]; rfl
            · rfl
          rw [e1, e2, show a'.off + l * s + (i * s + j) = a'.off + ((l + i) * s + j) by rw [Nat.add_mul]; omega]
          exact h9
      | _ => cases hq
    case h_3 s hs =>
      split at h
      case h_2 => cases h
      rename_i hh h1
      split at h
      case h_2 => cases h
      rename_i l h2
      cases hx
      simp only [Option.some.injEq] at h
      subst h
      have hh0 : hh = 0 := by
        cases hi with
        | none => simp [aBound] at h1; omega
        | some y => cases y <;> simp [aBound] at h1; omega
      subst hh0
      obtain ⟨g1, g2, g3⟩ := sliceBounds_run (P := P) hlo hhi true (Nat.le_refl 0) h1 h2
      have hl0 : l = 0 := by omega
      subst hl0
      exact ⟨_, hrun _ _ _ _ _ _ g1 hs, by simp; exact .snil⟩
  case h_2 hu =>
    split at h
    case h_2 => cases h
    rename_i s
    split at h
    case h_2 => cases h
    rename_i hh h1
    split at h
    case h_2 => cases h
    rename_i l h2
    cases hx
    simp only [Option.some.injEq] at h
    subst h
    obtain ⟨g1, g2, g3⟩ := sliceBounds_run (P := P) hlo hhi false (Nat.le_refl s.size) h1 h2
    exact ⟨.string (s.extract l hh), by simp [Instr.sliceAt, Instr.slice, run_underlying hu, g1], .str _⟩

/-! ### len, min, max -/

def aLen (P : Program) (t : TypeId) (σ : H) (x : V) : Option V :=
  match P.underlying t, x with
  | some .string, .str s => some (.int .i64 s.size)
  | some (.slice _), .sl _ _ len _ => some (.int .i64 len)
  | some (.slice _), .ps _ xs => some (.int .i64 xs.length)
  | some (.slice _), .snil => some (.int .i64 0)
  | some (.map _ _), .mnil => some (.int .i64 0)
  | some (.map _ _), .mp b =>
    match σ[b]? with
    | some (some (.mapE es)) => some (.int .i64 es.length)
    | _ => none
  | _, _ => none

theorem aLen_ok {P : Program} {w : World} {ro : Nat → Prop} {m : Pl} {σ : H} (hσ : HeapOk w ro m σ) {t ty : TypeId} {x v : V} {x' : Value} (hx : VR w ro m x x') (h : aLen P t σ x = some v) :
    ∃ v', (Builtin.len_ #[t] ty #[x']).run P w = .ok v' w ∧ VR w ro m v v' := by
  unfold aLen at h
  split at h
  case h_7 => cases h
  case h_1 hu => cases hx; cases h; exact ⟨.int .i64 _, by simp [Builtin.len_, run_underlying hu, goInt], .int _ _⟩
  case h_2 hu => cases hx; cases h; exact ⟨.int .i64 _, by simp [Builtin.len_, run_underlying hu, goInt], .int _ _⟩
  case h_3 hu =>
    rename_i sz xs
    cases h
    generalize hq : V.ps sz xs = x0 at hx
    cases hx with
    | ps f hcap hsize hA hc hv =>
      injection hq with hq1 hq2
      subst hq1 hq2
      exact ⟨.int .i64 _, by simp [Builtin.len_, run_underlying hu, goInt], .int _ _⟩
    | _ => cases hq
  case h_4 hu => cases hx; cases h; exact ⟨.int .i64 0, by simp [Builtin.len_, run_underlying hu, goInt], .int _ _⟩
  case h_5 hu => cases hx; cases h; exact ⟨.int .i64 0, by simp [Builtin.len_, run_underlying hu, goInt], .int _ _⟩
  case h_6 hu =>
    split at h
    · rename_i b es hb
      cases h
      cases hx
      rename_i B D hm
      obtain ⟨B', arr, clock, h1, h2, h3, h4, _⟩ := hσ.mapE _ _ hb
      rw [hm] at h1; injection h1 with h1; injection h1 with h1 _; subst h1
      refine ⟨.int .i64 arr.size, ?_, by rw [h4]; exact .int _ _⟩
      simp [Builtin.len_, run_underlying hu, goInt, getObj, Sem.run, h3]
    · cases h

def aMax2 : V → V → Option V
  | .int k a, .int k' b => if k = k' then some (.int k (if b > a then b else a)) else none
  | _, _ => none

def aMin2 : V → V → Option V
  | .int k a, .int k' b => if k = k' then some (.int k (if b < a then b else a)) else none
  | _, _ => none

theorem aMax2_ok {P : Program} {w : World} {ro : Nat → Prop} {m : Pl} {ts : Array TypeId} {ty : TypeId} {x y v : V} {x' y' : Value} (hx : VR w ro m x x') (hy : VR w ro m y y') (h : aMax2 x y = some v) :
    ∃ v', (Builtin.max_ ts ty #[x', y']).run P w = .ok v' w ∧ VR w ro m v v' := by
  unfold aMax2 at h
  split at h
  · cases hx; cases hy
    split at h
    · rename_i hk; subst hk; cases h; exact ⟨.int _ _, by simp [Builtin.max_, Builtin.max2], .int _ _⟩
    · cases h
  · cases h

theorem aMin2_ok {P : Program} {w : World} {ro : Nat → Prop} {m : Pl} {ts : Array TypeId} {ty : TypeId} {x y v : V} {x' y' : Value} (hx : VR w ro m x x') (hy : VR w ro m y y') (h : aMin2 x y = some v) :
    ∃ v', (Builtin.min_ ts ty #[x', y']).run P w = .ok v' w ∧ VR w ro m v v' := by
  unfold aMin2 at h
  split at h
  · cases hx; cases hy
    split at h
    · rename_i hk; subst hk; cases h; exact ⟨.int _ _, by simp [Builtin.min_, Builtin.min2], .int _ _⟩
    · cases h
  · cases h

end Go.Am
