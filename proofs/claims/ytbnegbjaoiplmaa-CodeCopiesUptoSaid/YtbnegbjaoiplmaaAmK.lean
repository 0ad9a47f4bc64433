/- The abstract machine's code: what a piece of code, and a call, comes to; with the rules by which that is shown. -/
import Derived.Test.YtbnegbjaoiplmaaAmJ
set_option linter.unusedVariables false
set_option linter.unusedSimpArgs false
namespace Go.Am
open Go

/-! ### Lengths -/

theorem place_le (σ : H) (nm : Nat) (e : Ent) : σ.length ≤ (H.place σ nm e).length := (H.place_length e).1

theorem aAppend_le {P : Program} {ts : Array TypeId} {s x : V} {σ : H} {nm : Nat} {p : V × H} (h : aAppend P ts s x σ nm = some p) : σ.length ≤ p.2.length := by
  unfold aAppend at h
  repeat' (split at h)
  all_goals first
    | (cases h; done)
    | (simp only [Option.some.injEq] at h; subst h; first | exact Nat.le_refl _ | exact place_le _ _ _ | (refine Nat.le_trans ?_ (place_le _ _ _); simp))

theorem aop_le {P : Program} {op : Op} {f : Fr} {σ : H} {nm : Nat} {r : Res} (h : aop P op f σ nm = some r) : match r with | .val _ s => σ.length ≤ s.length | .skip s => σ.length ≤ s.length := by
  cases op <;> simp only [aop] at h <;> try (cases h; done)
  case move => cases h; exact Nat.le_refl _
  case assign => cases h; exact Nat.le_refl _
  case pick => split at h <;> cases h; exact Nat.le_refl _
  case alloc t =>
    obtain ⟨p, h1, rfl⟩ := map_some h
    obtain ⟨z, _, rfl⟩ := map_some h1
    exact place_le _ _ _
  case box t x =>
    obtain ⟨p, h1, rfl⟩ := map_some h
    obtain ⟨z, _, rfl⟩ := map_some h1
    exact place_le _ _ _
  case build => obtain ⟨p, h1, rfl⟩ := map_some h; exact Nat.le_refl _
  case buildSlice =>
    obtain ⟨p, h1, rfl⟩ := map_some h
    unfold aBuildSlice at h1
    repeat' (split at h1)
    all_goals first | (cases h1; done) | (obtain ⟨z, _, rfl⟩ := map_some h1; exact place_le _ _ _)
  case load => obtain ⟨p, h1, rfl⟩ := map_some h; exact Nat.le_refl _
  case store =>
    obtain ⟨p, h1, rfl⟩ := map_some h
    unfold aStore at h1
    repeat' (split at h1)
    all_goals first | (cases h1; done) | (cases h1; simp)
  case nilCheck => split at h <;> cases h <;> exact Nat.le_refl _
  case binOp => obtain ⟨p, h1, rfl⟩ := map_some h; exact Nat.le_refl _
  case unOp => obtain ⟨p, h1, rfl⟩ := map_some h; exact Nat.le_refl _
  case convert => obtain ⟨p, h1, rfl⟩ := map_some h; exact Nat.le_refl _
  case makeFunc fn first caps =>
    cases fn <;> simp only at h <;> try (cases h; done)
    split at h <;> cases h
    exact Nat.le_refl _
  case makeSlice =>
    obtain ⟨p, h1, rfl⟩ := map_some h
    unfold aMake at h1
    repeat' (split at h1)
    all_goals first | (cases h1; done) | (cases h1; exact place_le _ _ _)
  case slice t x lo hi mx =>
    cases mx with
    | some q => cases h
    | none => obtain ⟨p, h1, rfl⟩ := map_some h; exact Nat.le_refl _
  case fieldAddr => obtain ⟨p, h1, rfl⟩ := map_some h; exact Nat.le_refl _
  case field => obtain ⟨p, h1, rfl⟩ := map_some h; exact Nat.le_refl _
  case indexAddr => obtain ⟨p, h1, rfl⟩ := map_some h; exact Nat.le_refl _
  case extract => obtain ⟨p, h1, rfl⟩ := map_some h; exact Nat.le_refl _
  case call c =>
    split at h
    case h_2 => cases h
    unfold aBuiltin at h
    split at h
    case h_6 => cases h
    case h_1 => split at h <;> first | (cases h; done) | (obtain ⟨p, h1, rfl⟩ := map_some h; exact Nat.le_refl _)
    case h_2 => obtain ⟨p, h1, rfl⟩ := map_some h; exact aAppend_le h1
    case h_3 => obtain ⟨p, h1, rfl⟩ := map_some h; exact Nat.le_refl _
    case h_4 => obtain ⟨p, h1, rfl⟩ := map_some h; exact Nat.le_refl _
    case h_5 =>
      split at h
      case h_2 => cases h
      obtain ⟨p, h1, rfl⟩ := map_some h
      unfold aClear at h1
      repeat' (split at h1)
      all_goals first | (cases h1; done) | (cases h1; simp)

/-! ### Ends -/

inductive Ex where
  | normal
  | exit (id : Nat)
  | ret
  | pan (v : V)

inductive ExR (w : World) (ro : Nat → Prop) (m : Pl) : Ex → Exit → Prop
  | normal : ExR w ro m .normal .normal
  | exit (id : Nat) : ExR w ro m (.exit id) (.exit id)
  | ret : ExR w ro m .ret .ret
  | pan {v : V} {v' : Value} (h : VR w ro m v v') : ExR w ro m (.pan v) (.panic [{ v := v', recovered := false }])

/-- What holds where a piece of code ends, said of the model; the first k names lie where they lay. -/
def Post (k : Nat) (w0 : World) (ro0 : Nat → Prop) (m0 : Pl) (Q : Ex → Fr → H → Prop) : Exit → Act → World → Prop := fun e a w =>
  ∃ ex f σ ro m, Q ex f σ ∧ ExR w ro m ex e ∧ FrOk w ro m f a ∧ HeapOk w ro m σ ∧ Ext w0 ro0 m0 w ro m ∧ (∀ b, b < k → m b = m0 b) ∧ k ≤ σ.length

def Rcode (P : Program) (k : Nat) (c : Code) (f : Fr) (σ : H) (Q : Ex → Fr → H → Prop) : Prop :=
  ∀ w ro m a, FrOk w ro m f a → HeapOk w ro m σ → k ≤ σ.length → c.wp P (Post k w ro m Q) a w

theorem Post.step {k : Nat} {w0 w1 : World} {ro0 ro1 : Nat → Prop} {m0 m1 : Pl} {Q : Ex → Fr → H → Prop} (x : Ext w0 ro0 m0 w1 ro1 m1) (hk : ∀ b, b < k → m1 b = m0 b) {e : Exit} {a : Act} {w : World} (h : Post k w1 ro1 m1 Q e a w) : Post k w0 ro0 m0 Q e a w := by
  obtain ⟨ex, f, σ, ro, m, h1, h2, h3, h4, h5, h6, h7⟩ := h
  exact ⟨ex, f, σ, ro, m, h1, h2, h3, h4, x.trans h5, fun b hb => (h6 b hb).trans (hk b hb), h7⟩

theorem Post.mono {k : Nat} {w0 : World} {ro0 : Nat → Prop} {m0 : Pl} {Q Q' : Ex → Fr → H → Prop} (hq : ∀ ex f σ, Q ex f σ → Q' ex f σ) {e : Exit} {a : Act} {w : World} (h : Post k w0 ro0 m0 Q e a w) : Post k w0 ro0 m0 Q' e a w := by
  obtain ⟨ex, f, σ, ro, m, h1, h2⟩ := h
  exact ⟨ex, f, σ, ro, m, hq _ _ _ h1, h2⟩

theorem Rcode.mono {P : Program} {k : Nat} {c : Code} {f : Fr} {σ : H} {Q Q' : Ex → Fr → H → Prop} (h : Rcode P k c f σ Q) (hq : ∀ ex f σ, Q ex f σ → Q' ex f σ) : Rcode P k c f σ Q' :=
  fun w ro m a hf hσ hk => wp_mono (h w ro m a hf hσ hk) fun _ _ _ hp => hp.mono hq

/-- Where nothing was done. -/
theorem Post.here {k : Nat} {w : World} {ro : Nat → Prop} {m : Pl} {Q : Ex → Fr → H → Prop} {ex : Ex} {e : Exit} {f : Fr} {a : Act} {σ : H} (hf : FrOk w ro m f a) (hσ : HeapOk w ro m σ) (hk : k ≤ σ.length) (hq : Q ex f σ) (he : ExR w ro m ex e) : Post k w ro m Q e a w :=
  ⟨ex, f, σ, ro, m, hq, he, hf, hσ, Ext.refl w ro m, fun _ _ => rfl, hk⟩

section rules
variable {P : Program} {k : Nat} {f : Fr} {σ : H} {Q : Ex → Fr → H → Prop}

theorem Rcode.skip (h : Q .normal f σ) : Rcode P k .skip f σ Q := fun w ro m a hf hσ hk => wp_skip (.here hf hσ hk h .normal)
theorem Rcode.ret (h : Q .ret f σ) : Rcode P k .ret f σ Q := fun w ro m a hf hσ hk => wp_ret (.here hf hσ hk h .ret)
theorem Rcode.exit {id : Nat} (h : Q (.exit id) f σ) : Rcode P k (.exit id) f σ Q := fun w ro m a hf hσ hk => wp_exit (.here hf hσ hk h (.exit id))

/-- What comes behind the first of two pieces. -/
def Thn (P : Program) (k : Nat) (y : Code) (Q : Ex → Fr → H → Prop) : Ex → Fr → H → Prop
  | .normal, f, σ => Rcode P k y f σ Q
  | e, f, σ => Q e f σ

theorem Rcode.seq {x y : Code} (h : Rcode P k x f σ (Thn P k y Q)) : Rcode P k (.seq x y) f σ Q := fun w ro m a hf hσ hk => by
  refine wp_seq (wp_mono (h w ro m a hf hσ hk) fun e a' w' hp => ?_)
  obtain ⟨ex, f', σ', ro', m', h1, h2, h3, h4, h5, h6, h7⟩ := hp
  cases h2 with
  | normal => exact wp_mono (h1 w' ro' m' a' h3 h4 h7) fun e a w hp => hp.step h5 h6
  | exit id => exact ⟨_, f', σ', ro', m', h1, .exit id, h3, h4, h5, h6, h7⟩
  | ret => exact ⟨_, f', σ', ro', m', h1, .ret, h3, h4, h5, h6, h7⟩
  | pan hv => exact ⟨_, f', σ', ro', m', h1, .pan hv, h3, h4, h5, h6, h7⟩

theorem Rcode.cond {c : Operand} {x y : Code} {t : Bool} (hc : f.eval c = .bool t) (h : Rcode P k (if t then x else y) f σ Q) : Rcode P k (.cond c x y) f σ Q := fun w ro m a hf hσ hk => by
  have := hf.eval c
  rw [hc] at this
  generalize hq : a.eval c = cv at this
  cases this
  exact wp_cond hq (h w ro m a hf hσ hk)

def Blk (id : Nat) (Q : Ex → Fr → H → Prop) : Ex → Fr → H → Prop
  | .exit id', f, σ => if id' = id then Q .normal f σ else Q (.exit id') f σ
  | e, f, σ => Q e f σ

theorem Rcode.block {id : Nat} {c : Code} (h : Rcode P k c f σ (Blk id Q)) : Rcode P k (.block id c) f σ Q := fun w ro m a hf hσ hk => by
  refine wp_block (wp_mono (h w ro m a hf hσ hk) fun e a' w' hp => ?_)
  obtain ⟨ex, f', σ', ro', m', h1, h2, h3⟩ := hp
  cases h2 with
  | normal => exact ⟨_, f', σ', ro', m', h1, .normal, h3⟩
  | exit id' =>
    simp only [Blk] at h1
    simp only [Exit.inBlock]
    split at h1
    · rename_i he; rw [if_pos he]; exact ⟨_, f', σ', ro', m', h1, .normal, h3⟩
    · rename_i he; rw [if_neg he]; exact ⟨_, f', σ', ro', m', h1, .exit id', h3⟩
  | ret => exact ⟨_, f', σ', ro', m', h1, .ret, h3⟩
  | pan hv => exact ⟨_, f', σ', ro', m', h1, .pan hv, h3⟩

/-- What holds behind a round of a loop. -/
def Rnd (I : Nat → Fr → H → Prop) (n : Nat) (Q : Ex → Fr → H → Prop) : Ex → Fr → H → Prop
  | .normal, f, σ => ∃ n', n' < n ∧ I n' f σ
  | e, f, σ => Q e f σ

theorem least {p : Nat → Prop} (h : ∃ n, p n) : ∃ n, p n ∧ ∀ n', p n' → n ≤ n' := by
  obtain ⟨n, hn⟩ := h
  induction n using Nat.strongRecOn with
  | _ n ih =>
    by_cases q : ∃ n', n' < n ∧ p n'
    · obtain ⟨n', h1, h2⟩ := q; exact ih n' h1 h2
    · exact ⟨n, hn, fun n' h' => by
        rcases Nat.lt_or_ge n' n with h1 | h1
        · exact absurd ⟨n', h1, h'⟩ q
        · exact h1⟩

open Classical in
theorem Rcode.loop {c : Code} (I : Nat → Fr → H → Prop) {n : Nat} (h0 : I n f σ) (h : ∀ n f σ, I n f σ → Rcode P k c f σ (Rnd I n Q)) : Rcode P k (.loop c) f σ Q := fun w ro m a hf hσ hk => by
  let J : Nat → Act → World → Prop := fun n a' w' => ∃ f' σ' ro' m', I n f' σ' ∧ FrOk w' ro' m' f' a' ∧ HeapOk w' ro' m' σ' ∧ Ext w ro m w' ro' m' ∧ (∀ b, b < k → m' b = m b) ∧ k ≤ σ'.length
  refine wp_loop (fun a' w' => ∃ n, J n a' w') (fun a' w' => if q : ∃ n, J n a' w' then (least q).choose else 0) ⟨n, f, σ, ro, m, h0, hf, hσ, Ext.refl w ro m, fun _ _ => rfl, hk⟩ ?_
  intro a' w' hI
  simp only [hI, dite_true]
  obtain ⟨f', σ', ro', m', h1, h2, h3, h4, h5, h6⟩ := (least hI).choose_spec.1
  refine wp_mono (h _ f' σ' h1 w' ro' m' a' h2 h3 h6) fun e a'' w'' hp => ?_
  obtain ⟨ex, f'', σ'', ro'', m'', g1, g2, g3, g4, g5, g6, g7⟩ := hp
  have x := h4.trans g5
  have hn : ∀ b, b < k → m'' b = m b := fun b hb => (g6 b hb).trans (h5 b hb)
  cases g2 with
  | normal =>
    obtain ⟨n', hlt, hI'⟩ := g1
    have hJ : ∃ n, J n a'' w'' := ⟨n', f'', σ'', ro'', m'', hI', g3, g4, x, hn, g7⟩
    refine ⟨hJ, ?_⟩
    simp only [hJ, dite_true]
    exact Nat.lt_of_le_of_lt ((least hJ).choose_spec.2 _ ⟨f'', σ'', ro'', m'', hI', g3, g4, x, hn, g7⟩) hlt
  | exit id => exact ⟨_, f'', σ'', ro'', m'', g1, .exit id, g3, g4, x, hn, g7⟩
  | ret => exact ⟨_, f'', σ'', ro'', m'', g1, .ret, g3, g4, x, hn, g7⟩
  | pan hv => exact ⟨_, f'', σ'', ro'', m'', g1, .pan hv, g3, g4, x, hn, g7⟩

end rules

end Go.Am
