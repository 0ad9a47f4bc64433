/- Trees of rows; what is behind a call. -/
import Derived.Test.YtbnegbjaoiplmaaAmY
set_option linter.unusedVariables false
set_option linter.unusedSimpArgs false
namespace Go.Am
open Go

/-! ### Behind a call -/

section call
variable {n d : Nat} {m : List (Nat × V)} {K : Fr → H → Prop} {X : V → H → Prop} {σ : H}
theorem CallK_go {v : V} : CallK n d m K X (.ret v) σ ↔ SpK n d m K σ v := .rfl
theorem CallN_go {v : V} : CallN n m K X (.ret v) σ ↔ K ⟨n, m⟩ σ := .rfl
theorem SpK_sl {b o l z : Nat} : SpK n d m K σ (.sl b o l z) ↔ SetK n d m K σ (.sl b o l z) := .rfl
theorem SpK_snil : SpK n d m K σ .snil ↔ SetK n d m K σ .snil := .rfl
theorem SpK_ps {z : Nat} {xs : List V} : SpK n d m K σ (.ps z xs) ↔ SetK n d m K σ (.ps z xs) := .rfl
theorem SpK_agg {cs : List V} : SpK n d m K σ (.agg cs) ↔ SetK n d m K σ (.agg cs) := .rfl
theorem SpK_tup {cs : List V} : SpK n d m K σ (.tup cs) ↔ SetK n d m K σ (.tup cs) := .rfl
theorem SpK_ptr {b o : Nat} : SpK n d m K σ (.ptr b o) ↔ SetK n d m K σ (.ptr b o) := .rfl
theorem SpK_mp {b : Nat} : SpK n d m K σ (.mp b) ↔ SetK n d m K σ (.mp b) := .rfl
theorem SpK_aV {b l z : Nat} : SpK n d m K σ (aV b l z) ↔ SetK n d m K σ (aV b l z) := by unfold aV; split <;> exact .rfl
end call

/-- Slots forgotten. -/
def SlotsOf (m : List (Nat × V)) : List (Nat × V) → Prop
  | [] => True
  | (t, v) :: r => look m t = v ∧ SlotsOf m r
theorem SlotsOf_nil {m : List (Nat × V)} : SlotsOf m [] ↔ True := .rfl
theorem SlotsOf_cons {m : List (Nat × V)} {t : Nat} {v : V} {r : List (Nat × V)} : SlotsOf m ((t, v) :: r) ↔ look m t = v ∧ SlotsOf m r := .rfl
theorem SlotsOf.get {m : List (Nat × V)} : ∀ {l : List (Nat × V)}, SlotsOf m l → ∀ t, look l t = .unk ∨ look m t = look l t
  | [], _, t => .inl rfl
  | (k, v) :: r, h, t => by
    by_cases q : k = t
    · subst q
      have e : look ((k, v) :: r) k = v := by simp [look]
      rw [e]; exact .inr h.1
    · have e : look ((k, v) :: r) t = look r t := by simp [look, q]
      rw [e]; exact h.2.get t
theorem Weak.slots {n k : Nat} {m l : List (Nat × V)} {σ : H} (h : SlotsOf m l) : Weak k ⟨n, m⟩ σ ⟨n, l⟩ σ := fun w ro mm a hf hσ hk => by
  refine ⟨ro, mm, ⟨hf.n, hf.d, fun t => ?_⟩, hσ, Ext.refl w ro mm, fun _ _ => rfl, hk⟩
  rcases h.get t with e | e
  · show VR w ro mm (look l t) _
    rw [e]; exact .unk _
  · show VR w ro mm (look l t) _
    rw [← e]; exact hf.v t

/-! ### Regions whose walk parts -/

section part
variable {P : Program} {l : List Oper} {S : Shape} {Q : Fr → H → Prop} {i j b : Nat} {t u : PT} {f : Fr} {σ : H} {K : Fr → H → Nat → Prop} {o : Oper}
def AtK (b : Nat) (K : Fr → H → Nat → Prop) (f : Fr) (σ : H) : Prop := K f σ b
theorem AtK_iff : AtK b K f σ ↔ K f σ b := .rfl
def CaK (P : Program) (l : List Oper) (f0 : Fr) (σ0 : H) (hs : List Nat) (n : Nat) (K : Fr → H → Nat → Prop) (f : Fr) (σ : H) : Prop := HeldL P l f0 σ0 σ hs ∧ K f (Stk σ (List.replicate n none)) σ.length
theorem CaK_iff {f0 : Fr} {σ0 : H} {hs : List Nat} {n : Nat} : CaK P l f0 σ0 hs n K f σ ↔ HeldL P l f0 σ0 σ hs ∧ K f (Stk σ (List.replicate n none)) σ.length := .rfl
theorem AL2_nil : AL2 P l S Q .nil f σ b ↔ Q f σ := .rfl
theorem AL2_one : AL2 P l S Q (.one i t) f σ b ↔ SL P l S i f σ b (AL2 P l S Q t) l[i]? := .rfl
theorem AL2_two : AL2 P l S Q (.two i t j u) f σ b ↔ SL P l S i f σ b (AL2 P l S Q t) l[i]? ∧ SL P l S j f σ b (AL2 P l S Q u) l[j]? := .rfl
theorem SL_some : SL P l S i f σ b K (some o) ↔ SK P l S i o f σ b K (kindOf o.op) := .rfl
theorem SK_0 : SK P l S i o f σ b K 0 ↔ AStep P l.toArray o f σ (AtK b K) NoK := .rfl
theorem SK_1 : SK P l S i o f σ b K 1 ↔ AStep P l.toArray o f σ (AtK b K) NoK := .rfl
theorem SK_3 : SK P l S i o f σ b K 3 ↔ AStep P l.toArray o f σ (CaK P l f σ (S.holds i) (S.pad i) K) NoK := .rfl
theorem SK_2 {d n t ty : Nat} {m : List (Nat × V)} {pos : String} {after : Array Edge} : SK P l S i ⟨some d, .alloc t, ty, pos, after, none⟩ ⟨n, m⟩ σ b K 2 ↔ GetL (zeroT P t) fun z => d < n ∧ σ[b + S.rank i]? = some none ∧ K ⟨n, (d, .ptr (b + S.rank i) 0) :: m⟩ (H.place σ (b + S.rank i) (.row z)) b := by
  simp only [SK, pre, aWanted, aop, aAlloc, GetL, Fr.fits, Fr.set, Option.some.injEq]
  cases zeroT P t with
  | none => simp
  | some z =>
    simp
    exact ⟨fun ⟨v, s, ⟨h1, h2⟩, h⟩ => by subst h1 h2; exact h, fun h => ⟨_, _, ⟨rfl, rfl⟩, h⟩⟩
theorem place_in {σ : H} {rows : List (Option Ent)} {n k : Nat} (hn : σ.length = n) (hk : k < rows.length) {e : Ent} : H.place (Stk σ rows) (n + k) e = Stk σ (rows.set k (some e)) := by
  subst hn
  unfold H.place Stk
  rw [if_pos (by simp; omega), List.set_append_right _ _ (by omega), Nat.add_sub_cancel_left]
theorem place_in0 {σ : H} {rows : List (Option Ent)} {n : Nat} (hn : σ.length = n) (hk : 0 < rows.length) {e : Ent} : H.place (Stk σ rows) n e = Stk σ (rows.set 0 (some e)) := place_in (k := 0) hn hk
theorem Rcode.drawS {k id : Nat} {Q : Ex → Fr → H → Prop} (hm : P.follows .mixedOrders = true) (p : PlanT) (hp : p.ok l.toArray = true) (h : AL2 P l p.shape (NormK Q) p.t f (Stk σ (List.replicate p.n none)) σ.length) : Rcode P k (.region id l.toArray true) f σ Q := Rcode.drawL hm p hp h
theorem shape_rank {p : PlanT} : p.shape.rank i = p.rk.getD i 0 := rfl
theorem shape_pad {p : PlanT} : p.shape.pad i = p.pd.getD i 0 := rfl
theorem shape_holds {p : PlanT} : p.shape.holds i = p.hs.getD i [] := rfl
end part

/-! ### Trees -/

/-- A slice that lies in a row, its cells so; or an empty one. -/
def TSl {α : Type} (N : Nat → Prop) (s : H) (sz : Nat) (C : Nat → α → Nat → V → Prop) (v : V) (l : List α) : Prop :=
  (l = [] ∧ (v = .snil ∨ v = .ps sz [])) ∨ ∃ b row, v = .sl b 0 l.length sz ∧ N b ∧ rowAt s b = some row ∧ row.length = l.length * sz ∧
    ∀ (i : Nat) (a : α) (j : Nat) (c : V), l[i]? = some a → j < sz → row[i * sz + j]? = some c → C i a j c

section tree
variable {α : Type} {N N' : Nat → Prop} {s s' : H} {sz : Nat} {C C' : Nat → α → Nat → V → Prop} {v : V} {l : List α}
theorem TSl.mono (h : TSl N s sz C v l) (hN : ∀ b, N b → N' b) (hs : ∀ b r, N b → rowAt s b = some r → rowAt s' b = some r) (hC : ∀ i a j c, l[i]? = some a → C i a j c → C' i a j c) : TSl N' s' sz C' v l := by
  rcases h with h | ⟨b, row, h1, h2, h3, h4, h5⟩
  · exact .inl h
  · exact .inr ⟨b, row, h1, hN b h2, hs b row h2 h3, h4, fun i a j c hi hj hc => hC i a j c hi (h5 i a j c hi hj hc)⟩

theorem TSl.rd (d : Nat) (f : α → V) (hf : ∀ a, ∃ cs, (f a).cells = some cs ∧ cs.length = sz) (h : TSl N s sz C v l) (hC : ∀ i a j c c', l[i]? = some a → C i a j c → ((f a).cells.bind (·[j]?)) = some c' → Rd N s d c c') : Rd N s (d + 1) v (.ps sz (l.map f)) := by
  rcases h with ⟨rfl, h⟩ | ⟨b, row, rfl, h2, h3, h4, h5⟩
  · rcases h with rfl | rfl
    · exact .inr ⟨sz, rfl⟩
    · exact ⟨rfl, rfl⟩
  · refine ⟨l.map f, row, rfl, by simp, h2, h3, fun i x hx => ?_, fun i j c' hc => ?_⟩
    · rw [List.getElem?_map] at hx
      obtain ⟨a, _, rfl⟩ := map_some hx
      exact hf a
    · unfold cellAt at hc
      rw [List.getElem?_map] at hc
      cases ha : l[i]? with
      | none => rw [ha] at hc; cases hc
      | some a =>
        rw [ha, Option.map_some, Option.bind_some] at hc
        obtain ⟨cs, k1, k2⟩ := hf a
        have hj : j < sz := by
          rw [k1, Option.bind_some] at hc
          rw [← k2]; exact lt_of_some hc
        have hi := lt_of_some ha
        have hlt : i * sz + j < row.length := by
          rw [h4]
          have : (i + 1) * sz ≤ l.length * sz := Nat.mul_le_mul_right _ hi
          rw [Nat.add_one_mul] at this
          omega
        obtain ⟨c, hcell⟩ := some_of_lt hlt
        exact ⟨c, by rw [Nat.zero_add]; exact hcell, hC i a j c c' ha (h5 i a j c ha hj hcell) hc⟩

/-- The same shape: whole numbers may have changed. -/
structure SameSh (s s' : H) : Prop where
  len : s.length ≤ s'.length
  row : ∀ b row, rowAt s b = some row → ∃ row', rowAt s' b = some row' ∧ row'.length = row.length ∧ ∀ j : Nat, row'[j]? = row[j]? ∨ ∃ k a a', row[j]? = some (.int k a) ∧ row'[j]? = some (.int k a')
theorem SameSh.refl (s : H) : SameSh s s := ⟨Nat.le_refl _, fun b row h => ⟨row, h, rfl, fun j => .inl rfl⟩⟩
theorem SameSh.trans {s1 s2 s3 : H} (h : SameSh s1 s2) (k : SameSh s2 s3) : SameSh s1 s3 := ⟨Nat.le_trans h.len k.len, fun b row hr => by
  obtain ⟨r2, h1, h2, h3⟩ := h.row b row hr
  obtain ⟨r3, k1, k2, k3⟩ := k.row b r2 h1
  refine ⟨r3, k1, k2.trans h2, fun j => ?_⟩
  rcases h3 j with h3 | ⟨q, a, a', h3, h4⟩
  · rcases k3 j with k3 | ⟨q, a, a', k3, k4⟩
    · exact .inl (k3.trans h3)
    · exact .inr ⟨q, a, a', h3 ▸ k3, k4⟩
  · rcases k3 j with k3 | ⟨q2, b, b', k3, k4⟩
    · exact .inr ⟨q, a, a', h3, k3.trans h4⟩
    · rw [h4] at k3; cases k3
      exact .inr ⟨q, a, _, h3, k4⟩⟩
theorem SameSh.set {s : H} {b o : Nat} {row : List V} {k : IntKind} {a a' : Int} (hr : rowAt s b = some row) (ho : row[o]? = some (.int k a)) : SameSh s (upd s b (row.set o (.int k a'))) := ⟨Nat.le_of_eq upd_len.symm, fun b' row' h => by
  by_cases q : b = b'
  · subst q
    rw [hr] at h; cases h
    refine ⟨_, rowAt_upd (rowAt_lt hr), by simp, fun j => ?_⟩
    by_cases q : o = j
    · subst q
      exact .inr ⟨k, a, a', ho, by rw [List.getElem?_set_self (lt_of_some ho)]⟩
    · exact .inl (List.getElem?_set_ne q)
  · exact ⟨row', by rw [rowAt_upd_ne q]; exact h, rfl, fun j => .inl rfl⟩⟩
theorem SameSh.stk {s : H} {rows : List (Option Ent)} : SameSh s (Stk s rows) := ⟨by rw [Stk_len]; omega, fun b row h => ⟨row, by rw [rowAt_old (rowAt_lt h)]; exact h, rfl, fun j => .inl rfl⟩⟩
theorem TSl.at (h : TSl N s sz C v l) {i : Nat} {a : α} (ha : l[i]? = some a) : ∃ b row, v = .sl b 0 l.length sz ∧ N b ∧ rowAt s b = some row ∧ row.length = l.length * sz ∧ ∀ j, j < sz → ∃ c, row[i * sz + j]? = some c ∧ C i a j c := by
  rcases h with ⟨rfl, _⟩ | ⟨b, row, h1, h2, h3, h4, h5⟩
  · simp at ha
  · refine ⟨b, row, h1, h2, h3, h4, fun j hj => ?_⟩
    have hlt : i * sz + j < row.length := by
      rw [h4]
      have : (i + 1) * sz ≤ l.length * sz := Nat.mul_le_mul_right _ (lt_of_some ha)
      rw [Nat.add_one_mul] at this
      omega
    obtain ⟨c, hc⟩ := some_of_lt hlt
    exact ⟨c, hc, h5 i a j c ha hj hc⟩
theorem TSl.lenEq (h : TSl N s sz C v l) {P : Program} {t e : TypeId} (hu : P.underlying t = some (.slice e)) (σ : H) : aLen P t σ v = some (.int .i64 l.length) := by
  rcases h with ⟨rfl, rfl | rfl⟩ | ⟨b, row, rfl, _⟩
  · exact Len_snil hu
  · exact Len_ps hu
  · exact Len_sl hu
theorem TSl.ones (h : TSl N s sz C v l) : v.one = true ∧ v.cells = some [v] ∧ ∀ b, v ≠ .bool b := by
  rcases h with ⟨rfl, rfl | rfl⟩ | ⟨b, row, rfl, _⟩ <;> exact ⟨rfl, rfl, fun b e => by cases e⟩
theorem TSl.sh (h : TSl N s sz C v l) (hs : SameSh s s') (hC : ∀ i a j c c', l[i]? = some a → C i a j c → (c' = c ∨ ∃ k x x', c = .int k x ∧ c' = .int k x') → C' i a j c') : TSl N s' sz C' v l := by
  rcases h with h | ⟨b, row, h1, h2, h3, h4, h5⟩
  · exact .inl h
  · obtain ⟨row', g1, g2, g3⟩ := hs.row b row h3
    refine .inr ⟨b, row', h1, h2, g1, g2.trans h4, fun i a j c' hi hj hc => ?_⟩
    have hlt : i * sz + j < row.length := by rw [← g2]; exact lt_of_some hc
    obtain ⟨c, hcell⟩ := some_of_lt hlt
    refine hC i a j c c' hi (h5 i a j c hi hj hcell) ?_
    rcases g3 (i * sz + j) with e | ⟨k, x, x', e1, e2⟩
    · rw [e, hcell] at hc; cases hc; exact .inl rfl
    · rw [hcell] at e1; rw [hc] at e2
      cases e1; cases e2
      exact .inr ⟨k, x, x', rfl, rfl⟩
end tree

end Go.Am
