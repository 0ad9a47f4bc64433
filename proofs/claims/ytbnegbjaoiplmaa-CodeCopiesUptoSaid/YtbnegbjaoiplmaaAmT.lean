/- Closed runs: a function that goes through a program's code, and that what it finds is so. -/
import Derived.Test.YtbnegbjaoiplmaaAmR
set_option linter.unusedVariables false
set_option linter.unusedSimpArgs false
namespace Go.Am
open Go

/-! ### Are two values the same? -/

def allB {α : Type} (p : α → α → Bool) : List α → List α → Bool
  | [], [] => true
  | x :: xs, y :: ys => p x y && allB p xs ys
  | _, _ => false

theorem allB_eq {α : Type} {p : α → α → Bool} (h : ∀ x y, p x y = true → x = y) : ∀ {xs ys : List α}, allB p xs ys = true → xs = ys
  | [], [], _ => rfl
  | x :: xs, y :: ys, hh => by
    simp only [allB, Bool.and_eq_true] at hh
    rw [h x y hh.1, allB_eq h hh.2]
  | [], _ :: _, hh => by cases hh
  | _ :: _, [], hh => by cases hh

def same : Nat → V → V → Bool
  | 0, _, _ => false
  | d + 1, x, y => match x, y with
    | .int k a, .int k' b => decide (k = k') && decide (a = b)
    | .bool a, .bool b => a == b
    | .nil, .nil => true
    | .ptr b o, .ptr b' o' => b == b' && o == o'
    | .pp r o, .pp r' o' => o == o' && allB (same d) r r'
    | .snil, .snil => true
    | .sl b o l s, .sl b' o' l' s' => b == b' && o == o' && l == l' && s == s'
    | .ps s xs, .ps s' ys => s == s' && allB (same d) xs ys
    | .agg xs, .agg ys => allB (same d) xs ys
    | .tup xs, .tup ys => allB (same d) xs ys
    | .fn f xs, .fn g ys => f == g && allB (same d) xs ys
    | .fnil, .fnil => true
    | .mp b, .mp b' => b == b'
    | .mnil, .mnil => true
    | _, _ => false

theorem same_eq : ∀ (d : Nat) (x y : V), same d x y = true → x = y
  | 0, x, y, h => by cases h
  | d + 1, x, y, h => by
    have ih := same_eq d
    have ihl := @allB_eq V (same d) ih
    unfold same at h
    split at h
    all_goals (try (cases h; done))
    all_goals (try simp only [Bool.and_eq_true, decide_eq_true_eq, beq_iff_eq] at h)
    all_goals first
      | rfl
      | (obtain ⟨h1, h2⟩ := h; rw [h1, h2])
      | (obtain ⟨⟨⟨h1, h2⟩, h3⟩, h4⟩ := h; rw [h1, h2, h3, h4])
      | (obtain ⟨h1, h2⟩ := h; rw [h1, ihl h2])
      | rw [h]
      | rw [ihl h]

/-! ### The runs -/

abbrev CallF := FuncId → List V → H → Option (Out × H)

def evStep (P : Program) (call : CallF) (ops : Array Oper) (o : Oper) (f : Fr) (σ : H) : Option (Fr × H) :=
  match aWanted ops f o with
  | none => none
  | some false => (f.put o.dst (.tup [])).map fun f' => (f', σ)
  | some true => match aCallee f o.op with
    | some (g, args) => if callB P g then
        match call g args σ with
        | some (.ret v, σ') => (f.put o.dst v).map fun f' => (f', σ')
        | _ => none
      else none
    | none => match aop P o.op f σ σ.length with
      | some (.val v σ') => (f.put o.dst v).map fun f' => (f', σ')
      | some (.skip σ') => (f.put o.dst (.tup [])).map fun f' => (f', σ')
      | none => none

def evList (P : Program) (call : CallF) (ops : Array Oper) : List Oper → Fr → H → Option (Fr × H)
  | [], f, σ => some (f, σ)
  | o :: rest, f, σ => match evStep P call ops o f σ with
    | some (f', σ') => evList P call ops rest f' σ'
    | none => none

def heldB (P : Program) (ops : Array Oper) (f : Fr) (σ σ' : H) (i : Nat) : Bool :=
  match ops[i]? with
  | none => true
  | some o => decide (kindOf o.op ≤ 1) && match aop P o.op f σ 0 with
    | some (.val v _) => match aop P o.op f σ' 0 with
      | some (.val v' _) => same 100 v v'
      | _ => false
    | _ => true

def evAD (P : Program) (call : CallF) (ops : Array Oper) (holds : Nat → List Nat) : List Nat → Fr → H → Option (Fr × H)
  | [], f, σ => some (f, σ)
  | i :: rest, f, σ => match ops[i]? with
    | none => none
    | some o => match evStep P call ops o f σ with
      | some (f', σ') => if (holds i).all (heldB P ops f σ σ') then evAD P call ops holds rest f' σ' else none
      | none => none

def prune (f : Fr) : Fr := ⟨f.n, f.m.foldr (fun p r => p :: r.filter fun q => q.1 != p.1) []⟩

def iter (step : Fr → H → Option (Ex × Fr × H)) : Nat → Fr → H → Option (Ex × Fr × H)
  | 0, _, _ => none
  | n + 1, f, σ => match step f σ with
    | some (.normal, f', σ') => iter step n (prune f') σ'
    | r => r

def ev (P : Program) (call : CallF) (pl : List (Nat × Plan)) (n : Nat) : Code → Fr → H → Option (Ex × Fr × H)
  | .skip, f, σ => some (.normal, f, σ)
  | .ret, f, σ => some (.ret, f, σ)
  | .exit id, f, σ => some (.exit id, f, σ)
  | .region id ops d, f, σ =>
    if d then match planOf pl id with
      | some p => (evAD P call ops p.shape.holds p.ord f σ).map fun r => (.normal, r.1, r.2)
      | none => none
    else (evList P call ops ops.toList f σ).map fun r => (.normal, r.1, r.2)
  | .seq a b, f, σ => match ev P call pl n a f σ with
    | some (.normal, f', σ') => ev P call pl n b f' σ'
    | r => r
  | .cond c a b, f, σ => match f.eval c with
    | .bool true => ev P call pl n a f σ
    | .bool false => ev P call pl n b f σ
    | _ => none
  | .block id c, f, σ => match ev P call pl n c f σ with
    | some (.exit id', f', σ') => if id' = id then some (.normal, f', σ') else some (.exit id', f', σ')
    | r => r
  | .loop c, f, σ => iter (ev P call pl n c) n f σ
  | _, _, _ => none

def run (P : Program) (tbl : Nat → List (Nat × Plan)) (n : Nat) : Nat → CallF
  | 0 => fun _ _ _ => none
  | d + 1 => fun g args σ => match P.funcs[g]? with
    | none => none
    | some fn => match fn.body with
      | none => none
      | some c => if args.length ≤ fn.ntmps then
          match ev P (run P tbl n d) (tbl g) n c (Fr.init fn.ntmps args) σ with
          | some (.normal, f, σ') => (aResults P fn.results.toList f σ').map fun v => (.ret v, σ')
          | some (.ret, f, σ') => (aResults P fn.results.toList f σ').map fun v => (.ret v, σ')
          | _ => none
        else none

/-- The plans of a piece of code are right. -/
def plansB (pl : List (Nat × Plan)) : Code → Bool
  | .region id ops d => !d || (match planOf pl id with | some p => p.ok ops | none => true)
  | .seq a b => plansB pl a && plansB pl b
  | .cond _ a b => plansB pl a && plansB pl b
  | .block _ c => plansB pl c
  | .loop c => plansB pl c
  | _ => true

/-! ### They are so -/

section
variable {P : Program} {call : CallF}

def CallOk (P : Program) (call : CallF) : Prop := ∀ g args σ v σ', call g args σ = some (.ret v, σ') → Spec P g args σ fun o s => o = .ret v ∧ s = σ'

theorem evStep_ok (hc : CallOk P call) {ops : Array Oper} {o : Oper} {f f' : Fr} {σ σ' : H} (h : evStep P call ops o f σ = some (f', σ')) {X : V → H → Prop} : AStep P ops o f σ (fun g s => g = f' ∧ s = σ') X := by
  unfold evStep at h
  unfold AStep
  split at h
  · cases h
  · rename_i hw; rw [hw]; obtain ⟨g, h1, h2⟩ := map_some h; cases h2; exact ⟨_, h1, rfl, rfl⟩
  · rename_i hw
    rw [hw]
    simp only
    split at h
    · rename_i g args hca
      rw [hca]
      split at h
      · rename_i hcb
        split at h
        · rename_i v s hcall
          obtain ⟨g', h1, h2⟩ := map_some h
          cases h2
          refine ⟨hcb, (hc _ _ _ _ _ hcall).mono fun out s' hp => ?_⟩
          obtain ⟨rfl, rfl⟩ := hp
          exact ⟨_, h1, rfl, rfl⟩
        · cases h
      · cases h
    · rename_i hca
      rw [hca]
      simp only
      split at h
      · rename_i v s hr; rw [hr]; obtain ⟨g, h1, h2⟩ := map_some h; cases h2; exact ⟨_, h1, rfl, rfl⟩
      · rename_i s hr; rw [hr]; obtain ⟨g, h1, h2⟩ := map_some h; cases h2; exact ⟨_, h1, rfl, rfl⟩
      · cases h

theorem evList_ok (hc : CallOk P call) {ops : Array Oper} {Q : Ex → Fr → H → Prop} : ∀ (l : List Oper) (f : Fr) (σ : H) {f' : Fr} {σ' : H}, evList P call ops l f σ = some (f', σ') → Q .normal f' σ' → AL P ops Q l f σ
  | [], f, σ, f', σ', h, hq => by cases h; exact hq
  | o :: rest, f, σ, f', σ', h, hq => by
    simp only [evList] at h
    split at h
    · rename_i f1 s1 h1
      exact ((evStep_ok hc h1).mono (fun g s he => by obtain ⟨rfl, rfl⟩ := he; exact evList_ok hc rest _ _ h hq) (fun _ _ hx => hx)).toQ
    · cases h

theorem heldB_ok {ops : Array Oper} {f : Fr} {σ σ' : H} {i : Nat} (h : heldB P ops f σ σ' i = true) : Held1 P ops i f σ σ' := fun o ho v hv => by
  unfold heldB at h
  simp only [ho, hv, Bool.and_eq_true, decide_eq_true_eq] at h
  obtain ⟨hk, h⟩ := h
  split at h
  · rename_i v' s hr
    have e := same_eq _ _ _ h
    subst e
    rw [hr]
    rcases (by omega : kindOf o.op = 0 ∨ kindOf o.op = 1) with q | q
    · obtain ⟨u, e1, _⟩ := aop_k0 q hr; cases e1; rfl
    · obtain ⟨u, e1, _⟩ := aop_k1 q hr; cases e1; rfl
  · cases h

theorem evAD_ok (hc : CallOk P call) {ops : Array Oper} {holds : Nat → List Nat} {Q : Fr → H → Prop} : ∀ (l : List Nat) (f : Fr) (σ : H) {f' : Fr} {σ' : H}, evAD P call ops holds l f σ = some (f', σ') → Q f' σ' → AD P ops holds Q l f σ
  | [], f, σ, f', σ', h, hq => by cases h; exact hq
  | i :: rest, f, σ, f', σ', h, hq => by
    simp only [evAD] at h
    split at h
    · cases h
    · rename_i o ho
      split at h
      · rename_i f1 s1 h1
        split at h
        · rename_i hh
          exact ⟨o, ho, (evStep_ok hc h1).mono (fun g s he => by
            obtain ⟨rfl, rfl⟩ := he
            exact ⟨fun i' hi' => heldB_ok (List.all_eq_true.1 hh i' hi'), evAD_ok hc rest _ _ h hq⟩) (fun _ _ hx => hx)⟩
        · cases h
      · cases h

theorem Rcode.eqv {k : Nat} {c : Code} {f g : Fr} {σ : H} {Q : Ex → Fr → H → Prop} (he : FrEq f g) (h : Rcode P k c f σ Q) : Rcode P k c g σ Q := fun w ro m a hf hσ hk => h w ro m a (he.symm.ok hf) hσ hk

theorem look_filter (m : List (Nat × V)) (k t : Nat) (h : k ≠ t) : look (m.filter fun q => q.1 != k) t = look m t := by
  induction m with
  | nil => rfl
  | cons p m ih =>
    obtain ⟨a, v⟩ := p
    by_cases q : a = k
    · subst q
      rw [List.filter_cons_of_neg (by simp), ih]
      simp [look, h]
    · rw [List.filter_cons_of_pos (by simpa using q)]
      simp only [look, ih]

theorem prune_eq (f : Fr) : FrEq f (prune f) := by
  obtain ⟨n, m⟩ := f
  refine ⟨rfl, fun t => ?_⟩
  simp only [prune, Fr.get]
  induction m with
  | nil => rfl
  | cons p m ih =>
    obtain ⟨a, v⟩ := p
    simp only [List.foldr_cons, look]
    split
    · rfl
    · rename_i hne
      rw [look_filter _ _ _ hne]
      exact ih

def Got (ex : Ex) (f : Fr) (σ : H) : Ex → Fr → H → Prop := fun e g s => e = ex ∧ s = σ ∧ FrEq g f

theorem iter_ok {k : Nat} {c : Code} {step : Fr → H → Option (Ex × Fr × H)} (hs : ∀ f σ ex f' σ', step f σ = some (ex, f', σ') → Rcode P k c f σ (Got ex f' σ')) {n : Nat} {f : Fr} {σ : H} {ex : Ex} {f' : Fr} {σ' : H} (h : iter step n f σ = some (ex, f', σ')) : Rcode P k (.loop c) f σ (Got ex f' σ') := by
  refine Rcode.loop (fun n g s => ∃ f, FrEq f g ∧ iter step n f s = some (ex, f', σ')) ⟨f, FrEq.refl f, h⟩ fun n g s hi => ?_
  obtain ⟨f, he, hi⟩ := hi
  cases n with
  | zero => cases hi
  | succ n =>
    simp only [iter] at hi
    refine Rcode.eqv he ?_
    cases hst : step f s with
    | none => simp only [hst] at hi; cases hi
    | some r =>
      obtain ⟨ex1, f1, s1⟩ := r
      refine (hs _ _ _ _ _ hst).mono fun e g' s' hg => ?_
      obtain ⟨rfl, rfl, hg⟩ := hg
      simp only [hst] at hi
      cases e with
      | normal => exact ⟨n, Nat.lt_succ_self n, _, ((prune_eq f1).symm.trans hg.symm), hi⟩
      | _ => simp only [Option.some.injEq, Prod.mk.injEq] at hi; obtain ⟨rfl, rfl, rfl⟩ := hi; exact ⟨rfl, rfl, hg⟩

theorem ev_ok (hm : P.follows .mixedOrders = true) (hc : CallOk P call) {pl : List (Nat × Plan)} {n k : Nat} : ∀ (c : Code) (f : Fr) (σ : H) (ex : Ex) (f' : Fr) (σ' : H), plansB pl c = true → ev P call pl n c f σ = some (ex, f', σ') → Rcode P k c f σ (Got ex f' σ')
  | .skip, f, σ, ex, f', σ', _, h => by cases h; exact .skip ⟨rfl, rfl, FrEq.refl _⟩
  | .ret, f, σ, ex, f', σ', _, h => by cases h; exact .ret ⟨rfl, rfl, FrEq.refl _⟩
  | .exit id, f, σ, ex, f', σ', _, h => by cases h; exact .exit ⟨rfl, rfl, FrEq.refl _⟩
  | .region id ops d, f, σ, ex, f', σ', hp, h => by
    simp only [ev] at h
    cases d with
    | true =>
      simp only [if_true] at h
      split at h
      · rename_i p hpl
        obtain ⟨r, h1, h2⟩ := map_some h
        cases h2
        simp only [plansB, hpl, Bool.not_true, Bool.false_or] at hp
        exact Rcode.drawD hm p hp (evAD_ok hc _ _ _ h1 ⟨rfl, rfl, FrEq.refl _⟩)
      · cases h
    | false =>
      simp only [Bool.false_eq_true, if_false] at h
      obtain ⟨r, h1, h2⟩ := map_some h
      cases h2
      obtain ⟨l⟩ := ops
      exact Rcode.reg (evList_ok hc _ _ _ h1 ⟨rfl, rfl, FrEq.refl _⟩)
  | .seq a b, f, σ, ex, f', σ', hp, h => by
    simp only [ev] at h
    simp only [plansB, Bool.and_eq_true] at hp
    cases ha : ev P call pl n a f σ with
    | none => simp only [ha] at h; cases h
    | some r =>
      obtain ⟨ex1, f1, s1⟩ := r
      refine .seq ((ev_ok hm hc a f σ _ _ _ hp.1 ha).mono fun e g s hg => ?_)
      obtain ⟨rfl, rfl, hg⟩ := hg
      simp only [ha] at h
      cases e with
      | normal => exact Rcode.eqv hg.symm (ev_ok hm hc b f1 s _ _ _ hp.2 h)
      | _ => simp only [Option.some.injEq, Prod.mk.injEq] at h; obtain ⟨rfl, rfl, rfl⟩ := h; exact ⟨rfl, rfl, hg⟩
  | .cond c a b, f, σ, ex, f', σ', hp, h => by
    simp only [ev] at h
    simp only [plansB, Bool.and_eq_true] at hp
    split at h
    · rename_i hq; exact .cond hq (ev_ok hm hc a f σ _ _ _ hp.1 h)
    · rename_i hq; exact .cond hq (ev_ok hm hc b f σ _ _ _ hp.2 h)
    · cases h
  | .block id c, f, σ, ex, f', σ', hp, h => by
    simp only [ev] at h
    cases hb : ev P call pl n c f σ with
    | none => simp only [hb] at h; cases h
    | some r =>
      obtain ⟨ex1, f1, s1⟩ := r
      refine .block ((ev_ok hm hc c f σ _ _ _ hp hb).mono fun e g s hg => ?_)
      obtain ⟨rfl, rfl, hg⟩ := hg
      simp only [hb] at h
      cases e with
      | exit id' =>
        simp only at h
        simp only [Blk]
        split at h
        · rename_i q; rw [if_pos q]; simp only [Option.some.injEq, Prod.mk.injEq] at h; obtain ⟨rfl, rfl, rfl⟩ := h; exact ⟨rfl, rfl, hg⟩
        · rename_i q; rw [if_neg q]; simp only [Option.some.injEq, Prod.mk.injEq] at h; obtain ⟨rfl, rfl, rfl⟩ := h; exact ⟨rfl, rfl, hg⟩
      | _ => simp only [Option.some.injEq, Prod.mk.injEq] at h; obtain ⟨rfl, rfl, rfl⟩ := h; exact ⟨rfl, rfl, hg⟩
  | .loop c, f, σ, ex, f', σ', hp, h => iter_ok (fun f σ ex f' σ' h => ev_ok hm hc c f σ ex f' σ' hp h) h

def plansOk (P : Program) (tbl : Nat → List (Nat × Plan)) : Bool :=
  (List.range P.funcs.size).all fun g => match P.funcs[g]? with
    | none => true
    | some fn => match fn.body with
      | none => true
      | some c => plansB (tbl g) c

theorem aResult_eqv {f g : Fr} (h : FrEq f g) (σ : H) (r : ResultVar) : aResult P f σ r = aResult P g σ r := by
  cases r <;> simp only [aResult, h.2]

theorem aResults_eqv {f g : Fr} (h : FrEq f g) (σ : H) (rs : List ResultVar) : aResults P rs f σ = aResults P rs g σ := by
  unfold aResults
  have : aResult P f σ = aResult P g σ := funext fun r => aResult_eqv h σ r
  rw [this]

theorem run_ok (hm : P.follows .mixedOrders = true) {tbl : Nat → List (Nat × Plan)} (ht : plansOk P tbl = true) {n : Nat} : ∀ d, CallOk P (run P tbl n d)
  | 0 => fun g args σ v σ' h => by cases h
  | d + 1 => fun g args σ v σ' h => by
    have ih := run_ok hm ht (n := n) d
    simp only [run] at h
    split at h
    · cases h
    · rename_i fn hf
      split at h
      · cases h
      · rename_i c hb
        have hp : plansB (tbl g) c = true := by
          have := List.all_eq_true.1 ht g (List.mem_range.2 (Array.getElem?_eq_some_iff.1 hf).1)
          simpa only [hf, hb] using this
        split at h
        · rename_i hn
          refine Spec.intro hf hb hn ?_
          split at h
          · rename_i f1 s1 he
            obtain ⟨u, h1, h2⟩ := map_some h
            cases h2
            exact (ev_ok hm ih c _ _ _ _ _ hp he).mono fun e g s hg => by
              obtain ⟨rfl, rfl, hg⟩ := hg
              exact ⟨v, (aResults_eqv hg s _).trans h1, rfl, rfl⟩
          · rename_i f1 s1 he
            obtain ⟨u, h1, h2⟩ := map_some h
            cases h2
            exact (ev_ok hm ih c _ _ _ _ _ hp he).mono fun e g s hg => by
              obtain ⟨rfl, rfl, hg⟩ := hg
              exact ⟨v, (aResults_eqv hg s _).trans h1, rfl, rfl⟩
          · cases h
        · cases h

end

end Go.Am
