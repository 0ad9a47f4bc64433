/- The abstract machine's operations, each with what it says of the model's: numbers, comparisons, addresses, fields, pieces of slices. -/
import Derived.Test.YtbnegbjaoiplmaaAmC
set_option linter.unusedVariables false
set_option linter.unusedSimpArgs false
namespace Go.Am
open Go

/-! ### Addresses -/

def aFieldAddr (P : Program) (s : TypeId) (i : Nat) (x : V) : Option V :=
  match P.underlying s with
  | some (.struct fields) =>
    match fields[i]? with
    | some f =>
      match sizeT P f.type with
      | some (_ + 1) =>
        match x with
        | .ptr b off => some (.ptr b (off + f.offset))
        | .pp row off => some (.pp row (off + f.offset))
        | _ => none
      | _ => none
    | none => none
  | _ => none

theorem aFieldAddr_ok {P : Program} {w : World} {ro : Nat → Prop} {m : Pl} {s : TypeId} {i : Nat} {x v : V} {x' : Value} (hx : VR w ro m x x') (h : aFieldAddr P s i x = some v) :
    ∃ v', (Instr.fieldAt s x' i).run P w = .ok v' w ∧ VR w ro m v v' := by
  unfold aFieldAddr at h
  split at h
  case h_2 => cases h
  rename_i fields hu
  split at h
  case h_2 => cases h
  rename_i f hf
  split at h
  case h_2 => cases h
  rename_i k hs
  have hrun : ∀ a : Addr, (Instr.fieldAt s (.pointer (some a)) i).run P w = .ok (.pointer (some (a.add f.offset))) w := by
    intro a
    simp [Instr.fieldAt, run_underlying hu, hf, Instr.sureAddr, fieldPlace, run_sizeOf hs]
  cases hx <;> simp at h
  case ptr b off B D hm =>
    subst h
    refine ⟨_, hrun _, ?_⟩
    rw [add_none, Nat.add_assoc]
    exact .ptr hm
  case pp row off B O g hro hc hv =>
    subst h
    refine ⟨_, hrun _, ?_⟩
    rw [add_none, Nat.add_assoc]
    exact .pp g hro hc hv

def aIndexAddr (P : Program) (t : TypeId) (x i : V) : Option V :=
  match i with
  | .int _ i =>
    match P.underlying t with
    | some (.slice e) =>
      match x with
      | .sl b off len sz => if sizeT P e = some sz ∧ 0 ≤ i ∧ i < len then some (.ptr b (off + i.toNat * sz)) else none
      | .ps sz xs => if sizeT P e = some sz ∧ 0 ≤ i then (xs[i.toNat]?).bind fun y => y.cells.map fun cs => .pp cs 0 else none
      | _ => none
    | some (.array n e) =>
      match sizeT P e with
      | some sz =>
        if 0 ≤ i ∧ i < n then
          match x with
          | .ptr b off => some (.ptr b (off + i.toNat * sz))
          | .pp row off => some (.pp row (off + i.toNat * sz))
          | _ => none
        else none
      | none => none
    | _ => none
  | _ => none

theorem cellAt_some {xs : List V} {i j : Nat} {y c : V} {cs : List V} (h1 : xs[i]? = some y) (h2 : y.cells = some cs) (h3 : cs[j]? = some c) : cellAt xs i j = some c := by
  simp [cellAt, h1, h2, h3]

theorem aIndexAddr_ok {P : Program} {w : World} {ro : Nat → Prop} {m : Pl} {t : TypeId} {x i v : V} {x' i' : Value} (hx : VR w ro m x x') (hi : VR w ro m i i') (h : aIndexAddr P t x i = some v) :
    ∃ v', (Instr.indexAt t x' i').run P w = .ok v' w ∧ VR w ro m v v' := by
  unfold aIndexAddr at h
  cases hi <;> simp only at h <;> try cases h
  case int k i =>
  split at h
  case h_3 => cases h
  case h_1 e hu =>
    cases hx <;> simp only at h <;> try cases h
    case sl b off len sz B D cap cs el hm hcap hb hs =>
      split at h
      · rename_i hh
        obtain ⟨hsz, h0, h1⟩ := hh
        simp only [Option.some.injEq] at h
        subst h
        refine ⟨.pointer (some ((⟨B, D + off, none⟩ : Addr).add (i.toNat * sz))), by simp [Instr.indexAt, asIntOf, run_underlying hu, h0, h1, run_sizeOf hsz], ?_⟩
        rw [add_none, Nat.add_assoc]
        exact .ptr hm
      · cases h
    case ps sz xs A cap f hl hsz' hA hc hv =>
      split at h
      · rename_i hh
        obtain ⟨hsz, h0⟩ := hh
        cases hy : xs[i.toNat]? with
        | none => simp [hy] at h
        | some y =>
          cases hcs : y.cells with
          | none => simp [hy, hcs] at h
          | some cs =>
            simp only [hy, hcs, Option.bind_some, Option.map_some, Option.some.injEq] at h
            subst h
            obtain ⟨a, ha, hsp, hro⟩ := hA (List.ne_nil_of_mem (List.mem_of_getElem? hy))
            subst ha
            have hlt : i.toNat < xs.length := (List.getElem?_eq_some_iff.1 hy).1
            refine ⟨.pointer (some (a.add (i.toNat * sz))), by simp [Instr.indexAt, asIntOf, run_underlying hu, h0, show i < (xs.length : Int) by omega, run_sizeOf hsz], ?_⟩
            have ea : a = ⟨a.block, a.off, none⟩ := by cases a; simp at hsp; simp [hsp]
            rw [ea, add_none]
            have := VR.pp (w := w) (ro := ro) (m := m) (row := cs) (off := 0) (B := a.block) (O := a.off + i.toNat * sz) (fun j => f i.toNat j) hro
              (fun j c hj => by rw [Nat.add_assoc]; exact hc a rfl _ _ _ (cellAt_some hy hcs hj)) (fun j c hj => hv _ _ _ (cellAt_some hy hcs hj))
            exact this
      · cases h
  case h_2 n e hu =>
    split at h
    case h_2 => cases h
    rename_i sz hsz
    split at h
    case isFalse => cases h
    rename_i hh
    have hrun : ∀ a : Addr, (Instr.indexAt t (.pointer (some a)) (.int k i)).run P w = .ok (.pointer (some (a.add (i.toNat * sz)))) w := by
      intro a
      simp [Instr.indexAt, asIntOf, run_underlying hu, Instr.sureAddr, hh, run_sizeOf hsz]
    cases hx <;> simp at h
    case ptr b off B D hm =>
      subst h
      refine ⟨_, hrun _, ?_⟩
      rw [add_none, Nat.add_assoc]
      exact .ptr hm
    case pp row off B O g hro hc hv =>
      subst h
      refine ⟨_, hrun _, ?_⟩
      rw [add_none, Nat.add_assoc]
      exact .pp g hro hc hv

/-! ### Parts of values -/

theorem part_ok {P : Program} {w : World} {ro : Nat → Prop} {m : Pl} {cs : List V} {vs : Array Value} (hl : cs.length = vs.size) (hv : ∀ (j : Nat) (c : V) (v : Value), cs[j]? = some c → vs[j]? = some v → VR w ro m c v)
    {t : TypeId} {off : Nat} {x : V} (h : loadRow P t cs off = some x) : ∃ x', (part t vs off).run P w = .ok x' w ∧ VR w ro m x x' := by
  unfold loadRow at h
  cases hu : P.underlying t with
  | none => simp [hu] at h
  | some d =>
    simp only [hu] at h
    cases ha : aggT P t with
    | false =>
      simp only [ha, Bool.false_eq_true, if_false] at h
      have hlt : off < vs.size := by rw [← hl]; exact (List.getElem?_eq_some_iff.1 h).1
      refine ⟨vs[off], ?_, hv off x _ h (by simp [hlt])⟩
      simp [part, run_aggT hu, ha, hlt]
    | true =>
      simp only [ha, if_true] at h
      cases hs : sizeT P t with
      | none => simp [hs] at h
      | some s =>
        simp only [hs] at h
        split at h
        · rename_i hle
          simp only [Option.some.injEq] at h
          subst h
          refine ⟨.agg (vs.extract off (off + s)), by simp [part, run_aggT hu, ha, run_sizeOf hs], .agg (by simp; omega) (fun j c v hj hjv => ?_)⟩
          simp only [List.getElem?_take, List.getElem?_drop] at hj
          split at hj
          · rw [Array.getElem?_extract] at hjv
            split at hjv
            · exact hv _ _ _ hj hjv
            · cases hjv
          · cases hj
        · cases h

def aField (P : Program) (t : TypeId) (i : Nat) (x : V) : Option V :=
  match P.underlying t with
  | some (.struct fields) =>
    match fields[i]?, x with
    | some f, .agg cs => loadRow P f.type cs f.offset
    | _, _ => none
  | _ => none

theorem aField_ok {P : Program} {w : World} {ro : Nat → Prop} {m : Pl} {t : TypeId} {i : Nat} {x v : V} {x' : Value} (hx : VR w ro m x x') (h : aField P t i x = some v) :
    ∃ v', (Instr.field t x' i).run P w = .ok v' w ∧ VR w ro m v v' := by
  unfold aField at h
  split at h
  case h_2 => cases h
  rename_i fields hu
  cases hf : fields[i]? with
  | none => simp [hf] at h
  | some f =>
    cases hx <;> simp [hf] at h
    case agg cs vs hl hv =>
      obtain ⟨x', h1, h2⟩ := part_ok hl hv h
      exact ⟨x', by simp [Instr.field, run_underlying hu, hf, asAgg, h1], h2⟩

def aExtract (x : V) (i : Nat) : Option V :=
  match x with
  | .tup vs => vs[i]?
  | _ => none

theorem aExtract_ok {P : Program} {w : World} {ro : Nat → Prop} {m : Pl} {i : Nat} {x v : V} {x' : Value} (hx : VR w ro m x x') (h : aExtract x i = some v) :
    ∃ v', (Instr.extract x' i).run P w = .ok v' w ∧ VR w ro m v v' := by
  cases hx <;> simp only [aExtract] at h <;> try cases h
  case tup cs vs hl hv =>
    have hlt : i < vs.size := by rw [← hl]; exact (List.getElem?_eq_some_iff.1 h).1
    exact ⟨vs[i], by simp [Instr.extract, hlt], hv i v _ h (by simp [hlt])⟩

/-! ### Numbers -/

def aInt (op : BinOp) (k : IntKind) (a b : Int) : Option V :=
  match op with
  | .add => some (.int k (k.wrap (a + b)))
  | .sub => some (.int k (k.wrap (a - b)))
  | .mul => some (.int k (k.wrap (a * b)))
  | .quo => if b = 0 then none else some (.int k (k.wrap (a.tdiv b)))
  | .rem => if b = 0 then none else some (.int k (a.tmod b))
  | .and => some (.int k (Go.bits .and k a b))
  | .or => some (.int k (Go.bits .or k a b))
  | .xor => some (.int k (Go.bits .xor k a b))
  | .andNot => some (.int k (Go.bits .andNot k a b))
  | .eql => some (.bool (a == b))
  | .neq => some (.bool (a != b))
  | .lss => some (.bool (decide (a < b)))
  | .leq => some (.bool (decide (a ≤ b)))
  | .gtr => some (.bool (decide (a > b)))
  | .geq => some (.bool (decide (a ≥ b)))
  | _ => none

theorem VR.ps_addr {w : World} {ro : Nat → Prop} {m : Pl} {sz : Nat} {y : V} {ys : List V} {v : Value} (h : VR w ro m (.ps sz (y :: ys)) v) : ∃ a n c, v = .slice (some a) n c := by
  generalize hx : V.ps sz (y :: ys) = x at h
  cases h with
  | ps f hl hsz hA hc hv =>
    obtain ⟨a, ha, _⟩ := hA (by cases hx; exact List.cons_ne_nil _ _)
    subst ha
    exact ⟨a, _, _, rfl⟩
  | _ => cases hx

/-- Are two values alike, told by their type? -/
def aEq (P : Program) : Nat → TypeId → V → V → Option Bool
  | 0, _, _, _ => none
  | d + 1, t, x, y =>
    match P.underlying t, x, y with
    | some .bool, .bool a, .bool b => some (a == b)
    | some (.int _), .int k a, .int k' b => if k = k' then some (a == b) else none
    | some .string, .str a, .str b => some (a.toList == b.toList)
    | some (.pointer _), .nil, .nil => some true
    | some (.pointer _), .nil, .ptr _ _ => some false
    | some (.pointer _), .nil, .pp _ _ => some false
    | some (.pointer _), .ptr _ _, .nil => some false
    | some (.pointer _), .pp _ _, .nil => some false
    | some (.slice _), .snil, .snil => some true
    | some (.slice _), .sl _ _ _ _, .snil => some false
    | some (.slice _), .snil, .sl _ _ _ _ => some false
    | some (.slice _), .ps _ (_ :: _), .snil => some false
    | some (.slice _), .snil, .ps _ (_ :: _) => some false
    | some (.map _ _), .mnil, .mnil => some true
    | some (.map _ _), .mp _, .mnil => some false
    | some (.map _ _), .mnil, .mp _ => some false
    | some (.struct fields), .agg xs, .agg ys => if P.stoodInHeld t then none else fields.toList.foldr (fun f r => if f.name = "_" then r else
        match loadRow P f.type xs f.offset, loadRow P f.type ys f.offset with
        | some a, some b => (aEq P d f.type a b).bind fun c => if c then r else some false
        | _, _ => none) (some true)
    | _, _, _ => none

theorem aEq_ok {P : Program} {w : World} {ro : Nat → Prop} {m : Pl} : ∀ (d : Nat) {t : TypeId} {x y : V} {x' y' : Value} {b : Bool}, VR w ro m x x' → VR w ro m y y' → aEq P d t x y = some b →
    (Op.equalIn d t x' y').run P w = .ok b w
  | 0, _, _, _, _, _, _, _, _, h => by simp [aEq] at h
  | d + 1, t, x, y, x', y', b, hx, hy, h => by
    unfold aEq at h
    split at h
    all_goals first | (cases h; done) | skip
    case h_1 hu => cases hx; cases hy; cases h; exact run_equalIn_bool w d t _ _ hu
    case h_2 hu =>
      cases hx; cases hy
      split at h
      · rename_i hk; subst hk; cases h; exact run_equalIn_int w d t _ _ _ _ hu
      · cases h
    case h_3 hu => cases hx; cases hy; cases h; exact run_equalIn_string w d t _ _ hu
    case h_4 hu => cases hx; cases hy; cases h; simp [Op.equalIn, run_underlying hu]
    case h_5 hu => cases hx; cases hy; cases h; simp [Op.equalIn, run_underlying hu]
    case h_6 hu => cases hx; cases hy; cases h; simp [Op.equalIn, run_underlying hu]
    case h_7 hu => cases hx; cases hy; cases h; simp [Op.equalIn, run_underlying hu]
    case h_8 hu => cases hx; cases hy; cases h; simp [Op.equalIn, run_underlying hu]
    case h_9 hu => cases hx; cases hy; cases h; simp [Op.equalIn, run_underlying hu]
    case h_10 hu => cases hx; cases hy; cases h; simp [Op.equalIn, run_underlying hu]
    case h_11 hu => cases hx; cases hy; cases h; simp [Op.equalIn, run_underlying hu]
    case h_12 hu => cases hy; cases h; obtain ⟨a, n, c, rfl⟩ := hx.ps_addr; simp [Op.equalIn, run_underlying hu]
    case h_13 hu => cases hx; cases h; obtain ⟨a, n, c, rfl⟩ := hy.ps_addr; simp [Op.equalIn, run_underlying hu]
    case h_14 hu => cases hx; cases hy; cases h; simp [Op.equalIn, run_underlying hu]
    case h_15 hu => cases hx; cases hy; cases h; simp [Op.equalIn, run_underlying hu]
    case h_16 hu => cases hx; cases hy; cases h; simp [Op.equalIn, run_underlying hu]
    case h_17 fields xs ys hu =>
      cases hx; cases hy
      case agg xs' hxl hxv ys' hyl hyv =>
      split at h
      · cases h
      rename_i hst
      have hf : P.fieldsOf t = fields := by simp [Program.fieldsOf, hu]
      rw [run_equalIn_struct w d t xs' ys' (by rw [hf]; exact hu) (by simpa using hst), hf]
      revert h
      generalize fields.toList = fs
      intro h
      induction fs generalizing b with
      | nil => simp only [List.foldr_nil, Option.some.injEq] at h; subst h; simp [Op.eqFields]
      | cons f fs ih =>
        simp only [List.foldr_cons] at h
        by_cases hn : f.name = "_"
        · rw [if_pos hn] at h
          simp only [Op.eqFields]
          rw [if_neg (by simpa using hn)]
          exact ih _ h
        · rw [if_neg hn] at h
          simp only [Op.eqFields]
          rw [if_pos hn]
          cases ha : loadRow P f.type xs f.offset with
          | none => simp [ha] at h
          | some a =>
            cases hb : loadRow P f.type ys f.offset with
            | none => simp [ha, hb] at h
            | some c =>
              simp only [ha, hb] at h
              obtain ⟨a', h1, h2⟩ := part_ok hxl hxv ha
              obtain ⟨c', h3, h4⟩ := part_ok hyl hyv hb
              cases he : aEq P d f.type a c with
              | none => simp [he] at h
              | some r =>
                have h5 := aEq_ok d h2 h4 he
                simp only [he, Option.bind_some] at h
                simp only [Sem.run_bind, h1, h3, h5, Result.andThen_ok]
                cases r with
                | false => simp at h; subst h; simp
                | true => simp at h; simp; exact ih _ h

end Go.Am
