/- The abstract machine's step: one operation, with what it says of the model's. -/
import Derived.Test.YtbnegbjaoiplmaaAmI
set_option linter.unusedVariables false
set_option linter.unusedSimpArgs false
namespace Go.Am
open Go

/-- What an operation gives: a value, or none; and the heap. -/
inductive Res where
  | val (v : V) (σ : H)
  | skip (σ : H)

def aBuiltin (P : Program) (b : Builtin) (ts : Array TypeId) (args : List V) (σ : H) (nm : Nat) : Option Res :=
  match b, args with
  | .len, [x] => match ts.toList with
    | [t] => (aLen P t σ x).map fun v => .val v σ
    | _ => none
  | .append, [s, x] => (aAppend P ts s x σ nm).map fun p => .val p.1 p.2
  | .max, [x, y] => (aMax2 x y).map fun v => .val v σ
  | .min, [x, y] => (aMin2 x y).map fun v => .val v σ
  | .clear, [x] => match ts.toList with
    | [t] => (aClear P t x σ).map fun s => .val (.tup []) s
    | _ => none
  | _, _ => none

def aop (P : Program) (op : Op) (f : Fr) (σ : H) (nm : Nat) : Option Res :=
  match op with
  | .move x => some (.val (f.eval x) σ)
  | .assign x => some (.val (f.eval x) σ)
  | .pick c a b => match f.eval c with
    | .bool t => some (.val (if t then f.eval a else f.eval b) σ)
    | _ => none
  | .alloc t => (aAlloc P t σ nm).map fun p => .val p.1 p.2
  | .box t x => (aBox t σ nm (f.eval x)).map fun p => .val p.1 p.2
  | .build t ps => (aBuild P t (ps.toList.map fun p => (p.1, f.eval p.2))).map fun v => .val v σ
  | .buildSlice t len ps => (aBuildSlice P t len (ps.toList.map fun p => (p.1, f.eval p.2)) σ nm).map fun p => .val p.1 p.2
  | .load t a => (aLoad P t σ (f.eval a)).map fun v => .val v σ
  | .store t a x => (aStore P t σ (f.eval a) (f.eval x)).map .skip
  | .nilCheck x => match f.eval x with
    | .ptr b o => some (.val (.ptr b o) σ)
    | .pp r o => some (.val (.pp r o) σ)
    | .fn g cs => some (.val (.fn g cs) σ)
    | _ => none
  | .binOp op t x y _ => (aBin P op t (f.eval x) (f.eval y)).map fun v => .val v σ
  | .unOp op _ x => (aUn op (f.eval x)).map fun v => .val v σ
  | .convert s d x => (aConv P s d (f.eval x)).map fun v => .val v σ
  | .makeFunc (.func g) first caps => if first.size = 0 then some (.val (.fn g (caps.toList.map f.eval)) σ) else none
  | .makeSlice t l c => (aMake P t (f.eval l) (f.eval c) σ nm).map fun p => .val p.1 p.2
  | .slice t x lo hi none => (aSlice P t (f.eval x) (lo.map f.eval) (hi.map f.eval)).map fun v => .val v σ
  | .fieldAddr s x i => (aFieldAddr P s i (f.eval x)).map fun v => .val v σ
  | .field t x i => (aField P t i (f.eval x)).map fun v => .val v σ
  | .indexAddr t x i => (aIndexAddr P t (f.eval x) (f.eval i)).map fun v => .val v σ
  | .extract t i => (aExtract (f.eval t) i).map fun v => .val v σ
  | .call c => match c.callee with
    | .builtin b => aBuiltin P b c.argTypes (c.args.toList.map f.eval) σ nm
    | _ => none
  | _ => none

def StepOk (P : Program) (o : Oper) (a : Act) (w : World) (ro : Nat → Prop) (m : Pl) (nm : Nat) : Res → Prop
  | .val v σ' => ∃ v' w' m', (execOp a.eval o).run P w = .ok (.value v') w' ∧ VR w' ro m' v v' ∧ HeapOk w' ro m' σ' ∧ Ext w ro m w' ro m' ∧ Grow nm m m'
  | .skip σ' => ∃ w', (execOp a.eval o).run P w = .ok .skip w' ∧ HeapOk w' ro m σ' ∧ Ext w ro m w' ro m

theorem stepOk_fine {P : Program} {o : Oper} {a : Act} {w : World} {ro : Nat → Prop} {m : Pl} {nm : Nat} {s : Sem Value} {v : V} {σ' : H} (h : Fine P s w ro m nm v σ')
    (he : ∀ v' w', s.run P w = .ok v' w' → (execOp a.eval o).run P w = .ok (.value v') w') : StepOk P o a w ro m nm (.val v σ') := by
  obtain ⟨v', w', m', h1, h2⟩ := h
  exact ⟨v', w', m', he v' w' h1, h2⟩

theorem stepOk_same {P : Program} {o : Oper} {a : Act} {w : World} {ro : Nat → Prop} {m : Pl} {nm : Nat} {s : Sem Value} {v : V} {σ : H} (hσ : HeapOk w ro m σ) (h : ∃ v', s.run P w = .ok v' w ∧ VR w ro m v v')
    (he : ∀ v', s.run P w = .ok v' w → (execOp a.eval o).run P w = .ok (.value v') w) : StepOk P o a w ro m nm (.val v σ) := by
  obtain ⟨v', h1, h2⟩ := h
  exact ⟨v', w, m, he v' h1, h2, hσ, Ext.refl w ro m, Grow.refl nm m⟩

theorem map_some {α β : Type} {o : Option α} {f : α → β} {r : β} (h : o.map f = some r) : ∃ x, o = some x ∧ f x = r := by
  cases o with
  | none => cases h
  | some x => exact ⟨x, rfl, by simpa using h⟩

theorem parts_ok {w : World} {ro : Nat → Prop} {m : Pl} {f : Fr} {a : Act} (hf : FrOk w ro m f a) (ps : Array (Nat × Operand)) :
    (ps.toList.map fun p => (p.1, f.eval p.2)).length = (ps.map fun (i, x) => (i, a.eval x)).toList.length ∧
    ∀ (j : Nat) (p : Nat × V) (p' : Nat × Value), (ps.toList.map fun p => (p.1, f.eval p.2))[j]? = some p → (ps.map fun (i, x) => (i, a.eval x)).toList[j]? = some p' → p.1 = p'.1 ∧ VR w ro m p.2 p'.2 := by
  refine ⟨by simp, fun j p p' h1 h2 => ?_⟩
  rw [List.getElem?_map] at h1
  rw [Array.toList_map, List.getElem?_map] at h2
  cases hp : ps.toList[j]? with
  | none => simp [hp] at h1
  | some q => simp [hp] at h1 h2; subst h1 h2; exact ⟨rfl, hf.eval _⟩

theorem args_ok {w : World} {ro : Nat → Prop} {m : Pl} {f : Fr} {a : Act} (hf : FrOk w ro m f a) (xs : Array Operand) :
    (xs.toList.map f.eval).length = (xs.map a.eval).size ∧ ∀ (j : Nat) (c : V) (v : Value), (xs.toList.map f.eval)[j]? = some c → (xs.map a.eval)[j]? = some v → VR w ro m c v := by
  refine ⟨by simp, fun j c v h1 h2 => ?_⟩
  rw [List.getElem?_map] at h1
  rw [Array.getElem?_map] at h2
  rw [← Array.getElem?_toList] at h2
  cases hp : xs.toList[j]? with
  | none => simp [hp] at h1
  | some q => simp [hp] at h1 h2; subst h1 h2; exact hf.eval _

theorem VRo.of {w : World} {ro : Nat → Prop} {m : Pl} {f : Fr} {a : Act} (hf : FrOk w ro m f a) (x : Option Operand) : VRo w ro m (x.map f.eval) (x.map a.eval) := by
  cases x with
  | none => exact .none
  | some x => exact .some (hf.eval x)

theorem list1 {xs : Array Operand} {f : Fr} {x : V} (h : xs.toList.map f.eval = [x]) : ∃ a, xs = #[a] ∧ f.eval a = x := by
  obtain ⟨l⟩ := xs
  match l, h with
  | [a], h => simp at h; exact ⟨a, rfl, h⟩

theorem list2 {xs : Array Operand} {f : Fr} {x y : V} (h : xs.toList.map f.eval = [x, y]) : ∃ a b, xs = #[a, b] ∧ f.eval a = x ∧ f.eval b = y := by
  obtain ⟨l⟩ := xs
  match l, h with
  | [a, b], h => simp at h; exact ⟨a, b, rfl, h.1, h.2⟩

theorem builtin_run {P : Program} {a : Act} {w : World} {b : Builtin} {args : Array Operand} {ts : Array TypeId} {dst : Option Tmp} {ty : TypeId} {pos : String} {after : Array Edge} {guard : Option (Nat × Bool)} (vs : Array Value) (hvs : args.map a.eval = vs) (s : Sem Value)
    (hs : ∀ consts, Go.builtin b ts ty consts vs = (s >>= fun v => pure (.value v))) {v' : Value} {w' : World} (h : s.run P w = .ok v' w') :
    (execOp a.eval ⟨dst, .call ⟨.builtin b, args, ts⟩, ty, pos, after, guard⟩).run P w = .ok (.value v') w' := by
  simp only [execOp, resolve, Sem.run_bind, Sem.run_pure, Result.andThen_ok, invoke, hvs, hs, h]

theorem aop_ok {P : Program} {o : Oper} {f : Fr} {a : Act} {w : World} {ro : Nat → Prop} {m : Pl} {σ : H} {nm : Nat} (hf : FrOk w ro m f a) (hσ : HeapOk w ro m σ) (hn : nm ≤ σ.length) (hm : m nm = none) {r : Res} (h : aop P o.op f σ nm = some r) : StepOk P o a w ro m nm r := by
  obtain ⟨dst, op, type, pos, after, guard⟩ := o
  cases op <;> simp only [aop] at h <;> try (cases h; done)
  case move x => cases h; exact stepOk_same (s := pure (a.eval x)) hσ ⟨_, rfl, hf.eval x⟩ (fun v' h => by simp at h; subst h; simp [execOp])
  case assign x => cases h; exact stepOk_same (s := pure (a.eval x)) hσ ⟨_, rfl, hf.eval x⟩ (fun v' h => by simp at h; subst h; simp [execOp])
  case pick c x y =>
    have hc := hf.eval c
    split at h
    · rename_i t ht
      rw [ht] at hc
      cases h
      generalize hq : a.eval c = cv at hc
      cases hc
      refine stepOk_same (s := pure (if t then a.eval x else a.eval y)) hσ ⟨_, rfl, ?_⟩ (fun v' h => by simp at h; subst h; simp [execOp, asBool, hq])
      split
      · exact hf.eval x
      · exact hf.eval y
    · cases h
  case alloc t => obtain ⟨p, h1, rfl⟩ := map_some h; exact stepOk_fine (aAlloc_ok hσ hn hm h1) (fun v' w' h => by simp [execOp, h])
  case box t x => obtain ⟨p, h1, rfl⟩ := map_some h; exact stepOk_fine (aBox_ok hσ hn hm (hf.eval x) h1) (fun v' w' h => by simp [execOp, h])
  case build t ps =>
    obtain ⟨v, h1, rfl⟩ := map_some h
    obtain ⟨g1, g2⟩ := parts_ok hf ps
    exact stepOk_same hσ (aBuild_ok g1 g2 h1) (fun v' h => by simp [execOp, h])
  case buildSlice t len ps =>
    obtain ⟨p, h1, rfl⟩ := map_some h
    obtain ⟨g1, g2⟩ := parts_ok hf ps
    exact stepOk_fine (aBuildSlice_ok hσ hn hm g1 g2 h1) (fun v' w' h => by simp [execOp, h])
  case load t x => obtain ⟨v, h1, rfl⟩ := map_some h; exact stepOk_fine (aLoad_ok hσ (hf.eval x) h1) (fun v' w' h => by simp [execOp, h])
  case store t x y =>
    obtain ⟨s, h1, rfl⟩ := map_some h
    obtain ⟨w', g1, g2, g3⟩ := aStore_ok hσ (hf.eval x) (hf.eval y) h1
    exact ⟨w', by simp [execOp, g1], g2, g3⟩
  case nilCheck x =>
    have hx := hf.eval x
    split at h
    · rename_i b o' hq
      rw [hq] at hx
      cases h
      generalize hq2 : a.eval x = xv at hx
      cases hx
      rename_i B D hm'
      exact stepOk_same (s := pure _) hσ ⟨_, rfl, .ptr hm'⟩ (fun v' h => by simp at h; subst h; simp [execOp, hq2])
    · rename_i r' o' hq
      rw [hq] at hx
      cases h
      generalize hq2 : a.eval x = xv at hx
      have hx2 := hx
      cases hx
      exact stepOk_same (s := pure _) hσ ⟨_, rfl, hx2⟩ (fun v' h => by simp at h; subst h; simp [execOp, hq2])
    · rename_i g cs hq
      rw [hq] at hx
      cases h
      generalize hq2 : a.eval x = xv at hx
      have hx2 := hx
      cases hx
      exact stepOk_same (s := pure _) hσ ⟨_, rfl, hx2⟩ (fun v' h => by simp at h; subst h; simp [execOp, hq2])
    · cases h
  case binOp op t x y yt => obtain ⟨v, h1, rfl⟩ := map_some h; exact stepOk_same hσ (aBin_ok x y (hf.eval x) (hf.eval y) h1) (fun v' h => by
      simp only [execOp, Sem.run_bind, Sem.run_pure] at h ⊢
      rw [h]; rfl)
  case unOp op t x => obtain ⟨v, h1, rfl⟩ := map_some h; exact stepOk_same hσ (aUn_ok (hf.eval x) h1) (fun v' h => by simp [execOp, h])
  case convert s d x => obtain ⟨v, h1, rfl⟩ := map_some h; exact stepOk_same hσ (aConv_ok (hf.eval x) h1) (fun v' h => by simp [execOp, h])
  case makeFunc fn first caps =>
    cases fn <;> simp only at h <;> try (cases h; done)
    rename_i g
    split at h
    · rename_i hz
      cases h
      obtain ⟨g1, g2⟩ := args_ok hf caps
      have : first = #[] := Array.eq_empty_of_size_eq_zero hz
      subst this
      exact stepOk_same (s := pure (.func (.func g) #[] (caps.map a.eval))) hσ ⟨_, rfl, .fn g1 g2⟩ (fun v' h => by simp at h; subst h; simp [execOp, Instr.makeFunc])
    · cases h
  case makeSlice t l c => obtain ⟨p, h1, rfl⟩ := map_some h; exact stepOk_fine (aMake_ok hσ hn hm (hf.eval l) (hf.eval c) h1) (fun v' w' h => by simp [execOp, h])
  case slice t x lo hi mx =>
    cases mx with
    | some q => cases h
    | none => obtain ⟨v, h1, rfl⟩ := map_some h; exact stepOk_same hσ (aSlice_ok (hf.eval x) (.of hf lo) (.of hf hi) h1) (fun v' h => by simp [execOp, h])
  case fieldAddr s x i => obtain ⟨v, h1, rfl⟩ := map_some h; exact stepOk_same hσ (aFieldAddr_ok (hf.eval x) h1) (fun v' h => by simp [execOp, h])
  case field t x i => obtain ⟨v, h1, rfl⟩ := map_some h; exact stepOk_same hσ (aField_ok (hf.eval x) h1) (fun v' h => by simp [execOp, h])
  case indexAddr t x i => obtain ⟨v, h1, rfl⟩ := map_some h; exact stepOk_same hσ (aIndexAddr_ok (hf.eval x) (hf.eval i) h1) (fun v' h => by simp [execOp, h])
  case extract t i => obtain ⟨v, h1, rfl⟩ := map_some h; exact stepOk_same hσ (aExtract_ok (hf.eval t) h1) (fun v' h => by simp [execOp, h])
  case call c =>
    split at h
    case h_2 => cases h
    rename_i b hb
    obtain ⟨callee, args, ts⟩ := c
    simp only at hb h
    subst hb
    unfold aBuiltin at h
    split at h
    case h_6 => cases h
    case h_1 x hargs =>
      obtain ⟨y, rfl, rfl⟩ := list1 hargs
      split at h
      case h_2 => cases h
      rename_i t ht
      obtain ⟨v, h1, rfl⟩ := map_some h
      have e : ts = #[t] := by cases ts; simp at ht; simp [ht]
      subst e
      exact stepOk_same hσ (aLen_ok (ty := type) hσ (hf.eval y) h1) (fun v' h => builtin_run #[a.eval y] (by simp) (Builtin.len_ #[t] type #[a.eval y]) (fun _ => rfl) h)
    case h_2 s x hargs =>
      obtain ⟨y, z, rfl, rfl, rfl⟩ := list2 hargs
      obtain ⟨p, h1, rfl⟩ := map_some h
      exact stepOk_fine (aAppend_ok (ty := type) hσ hn hm (hf.eval y) (hf.eval z) h1) (fun v' w' h => builtin_run #[a.eval y, a.eval z] (by simp) (Builtin.append_ ts type #[a.eval y, a.eval z]) (fun _ => rfl) h)
    case h_3 x y hargs =>
      obtain ⟨p, q, rfl, rfl, rfl⟩ := list2 hargs
      obtain ⟨v, h1, rfl⟩ := map_some h
      exact stepOk_same hσ (aMax2_ok (ts := ts) (ty := type) (hf.eval p) (hf.eval q) h1) (fun v' h => builtin_run #[a.eval p, a.eval q] (by simp) (Builtin.max_ ts type #[a.eval p, a.eval q]) (fun _ => rfl) h)
    case h_4 x y hargs =>
      obtain ⟨p, q, rfl, rfl, rfl⟩ := list2 hargs
      obtain ⟨v, h1, rfl⟩ := map_some h
      exact stepOk_same hσ (aMin2_ok (ts := ts) (ty := type) (hf.eval p) (hf.eval q) h1) (fun v' h => builtin_run #[a.eval p, a.eval q] (by simp) (Builtin.min_ ts type #[a.eval p, a.eval q]) (fun _ => rfl) h)
    case h_5 x hargs =>
      obtain ⟨y, rfl, rfl⟩ := list1 hargs
      split at h
      case h_2 => cases h
      rename_i t ht
      obtain ⟨s, h1, rfl⟩ := map_some h
      have e : ts = #[t] := by cases ts; simp at ht; simp [ht]
      subst e
      obtain ⟨w', g1, g2, g3⟩ := aClear_ok (ty := type) hσ (hf.eval y) h1
      exact ⟨.tuple #[], w', m, builtin_run #[a.eval y] (by simp) (Builtin.clear_ #[t] type #[a.eval y]) (fun _ => rfl) g1, .tup rfl (fun j c v h => by simp at h), g2, g3, Grow.refl _ _⟩

end Go.Am
