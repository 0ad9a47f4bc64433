/- Trees of which only the kinds are known; readings of trees. -/
import Derived.Test.YtbnegbjaoiplmaaFk
import Derived.Test.YtbnegbjaoiplmaaFw
set_option linter.unusedVariables false
set_option linter.unusedSimpArgs false
namespace Go.Proofs.Ytbnegbjaoiplmaa
open Go Go.Am

section rd
variable {N : Nat → Prop} {s : H}
theorem TInts.rd {v : V} {l : List Int} (h : TInts N s v l) : Rd N s 1 v (ints l) :=
  TSl.rd 0 (V.int .i64) (fun a => ⟨_, rfl, rfl⟩) h (fun i a j c c' _ hc h' => by
    subst hc
    cases j with
    | zero => simp [V.cells] at h'; subst h'; exact ⟨rfl, rfl⟩
    | succ j => simp [V.cells] at h')
theorem TDbgs.rd {v : V} {l : List Dbg} (h : TDbgs N s v l) : Rd N s 1 v (.ps 6 (l.map eDbg)) :=
  TSl.rd 0 eDbg (fun a => ⟨_, rfl, rfl⟩) h (fun i a j c c' _ hc h' => by
    have : (cDbg a)[j]? = some c' := h'
    rw [hc] at this; cases this
    refine ⟨rfl, ?_⟩
    have hm := List.mem_of_getElem? hc
    simp only [cDbg, List.mem_cons, List.not_mem_nil, or_false] at hm
    rcases hm with rfl | rfl | rfl | rfl | rfl | rfl <;> rfl)
theorem Rd_up0 {v v' : V} (h : v' = v) (hp : v.pure = true) (hs : ∀ b o l z, v ≠ .sl b o l z) (ha : ∀ cs, v ≠ .agg cs) (ht : ∀ cs, v ≠ .tup cs) {d : Nat} : Rd N s d v v' := by
  cases d with
  | zero => exact ⟨h, hp⟩
  | succ d =>
    cases v <;> first | exact ⟨h, hp⟩ | exact absurd rfl (hs _ _ _ _) | exact absurd rfl (ha _) | exact absurd rfl (ht _) | exact .inl h
theorem Rd_int {k : IntKind} {a : Int} {d : Nat} : Rd N s d (.int k a) (.int k a) := by cases d <;> exact ⟨rfl, rfl⟩
theorem TInsts.rd {v : V} {l : List Inst} (h : TInsts N s v l) : Rd N s 2 v (eInsts l) :=
  TSl.rd 1 eInst (fun a => ⟨_, rfl, rfl⟩) h (fun i a j c c' _ hc h' => by
    unfold CInst at hc
    split at hc <;> simp [eInst, V.cells] at h' <;> try subst h'
    all_goals first | (subst hc; exact Rd_int) | exact hc.elim | exact TInts.rd hc | exact TDbgs.rd hc)
theorem TSpots.rd {v : V} {l : List Spot} (h : TSpots N s v l) : Rd N s 1 v (eStop l) :=
  TSl.rd 0 eSpot (fun a => ⟨_, rfl, rfl⟩) h (fun i a j c c' _ hc h' => by
    have : (cSpot a)[j]? = some c' := h'
    rw [hc] at this; cases this
    refine ⟨rfl, ?_⟩
    have hm := List.mem_of_getElem? hc
    simp only [cSpot, List.mem_cons, List.not_mem_nil, or_false] at hm
    rcases hm with rfl | rfl <;> rfl)
theorem TStops.rd {v : V} {l : List (List Spot)} (h : TStops N s v l) : Rd N s 2 v (.ps 1 (l.map eStop)) :=
  TSl.rd 1 eStop (fun a => ⟨_, rfl, rfl⟩) h (fun i a j c c' _ hc h' => by
    cases j with
    | zero => simp [eStop, V.cells] at h'; subst h'; exact TSpots.rd hc
    | succ j => simp [eStop, V.cells] at h')
theorem TBlocks.rd {v : V} {l : List Block} (h : TBlocks N s v l) : Rd N s 3 v (.ps 6 (l.map eBlock)) :=
  TSl.rd 2 eBlock (fun a => ⟨_, rfl, rfl⟩) h (fun i a j c c' _ hc h' => by
    unfold CBlock at hc
    split at hc <;> simp [eBlock, V.cells] at h' <;> try subst h'
    all_goals first | (subst hc; exact Rd_int) | exact hc.elim | exact TInsts.rd hc)
theorem TFuns.rd {v : V} {l : List Fun} (h : TFuns N s v l) : Rd N s 4 v (.ps 4 (l.map eFun)) :=
  TSl.rd 3 eFun (fun a => ⟨_, rfl, rfl⟩) h (fun i a j c c' _ hc h' => by
    unfold CFun at hc
    split at hc <;> simp [eFun, V.cells] at h' <;> try subst h'
    all_goals first | (subst hc; exact Rd_int) | exact hc.elim | exact TBlocks.rd hc)
end rd

section bound
variable {N N' : Nat → Prop} {s s' : H} (hs : ∀ b r, N b → Am.rowAt s b = some r → N' b ∧ Am.rowAt s' b = some r)
include hs
theorem TSl.mono2 {α : Type} {sz : Nat} {C C' : Nat → α → Nat → V → Prop} {v : V} {l : List α} (h : TSl N s sz C v l) (hC : ∀ i a j c, l[i]? = some a → C i a j c → C' i a j c) : TSl N' s' sz C' v l := by
  rcases h with h | ⟨b, row, h1, h2, h3, h4, h5⟩
  · exact .inl h
  · exact .inr ⟨b, row, h1, (hs b row h2 h3).1, (hs b row h2 h3).2, h4, fun i a j c hi hj hc => hC i a j c hi (h5 i a j c hi hj hc)⟩
theorem CInst.mono2 {a : Inst} {j : Nat} {c : V} (h : CInst N s a j c) : CInst N' s' a j c := by
  unfold CInst at h ⊢
  split at h <;> first | exact h | exact TSl.mono2 hs h (fun _ _ _ _ _ h => h)
theorem TInsts.mono2 {v : V} {l : List Inst} (h : TInsts N s v l) : TInsts N' s' v l := TSl.mono2 hs h (fun _ _ _ _ _ h => CInst.mono2 hs h)
theorem TStops.mono2 {v : V} {l : List (List Spot)} (h : TStops N s v l) : TStops N' s' v l := TSl.mono2 hs h (fun _ _ _ _ _ h => TSl.mono2 hs h (fun _ _ _ _ _ h => h))
theorem CBlock.mono2 {a : Block} {j : Nat} {c : V} (h : CBlock N s a j c) : CBlock N' s' a j c := by
  unfold CBlock at h ⊢
  split at h <;> first | exact h | exact TInsts.mono2 hs h
theorem CFun.mono2 {a : Fun} {j : Nat} {c : V} (h : CFun N s a j c) : CFun N' s' a j c := by
  unfold CFun at h ⊢
  split at h <;> first | exact h | exact TSl.mono2 hs h (fun _ _ _ _ _ h => CBlock.mono2 hs h)
theorem TFuns.mono2 {v : V} {l : List Fun} (h : TFuns N s v l) : TFuns N' s' v l := TSl.mono2 hs h (fun _ _ _ _ _ h => CFun.mono2 hs h)
end bound

/-- A pure value reads as itself, however deep. -/
theorem Rd_ps {N : Nat → Prop} {s : H} {z : Nat} {xs : List V} {d : Nat} : Rd N s d (.ps z xs) (.ps z xs) := by cases d <;> exact ⟨rfl, rfl⟩

def YI (N : Nat → Prop) (s : H) (v : V) (l : List Int) : Prop := TSl N s 1 (fun _ _ _ c => ∃ n, c = .int .i64 n) v l
def YD (N : Nat → Prop) (s : H) (v : V) (l : List Dbg) : Prop := TSl N s 6 (fun _ _ j c => j = 1 → ∃ n, c = .int .i64 n) v l
def YInst (N : Nat → Prop) (s : H) (v : V) (l : List Inst) : Prop := TSl N s 6 (fun _ a j c => (j = 0 → ∃ n, c = .int .u8 n) ∧ (j = 2 → YI N s c a.args) ∧ (j = 5 → YD N s c a.dbg)) v l
def YB (N : Nat → Prop) (s : H) (v : V) (l : List Block) : Prop := TSl N s 6 (fun _ b j c => (j = 0 → YInst N s c b.phis) ∧ (j = 1 → YInst N s c b.insts) ∧ (j = 2 → ∃ n, c = .int .u8 n)) v l
def YF (N : Nat → Prop) (s : H) (v : V) (l : List Fun) : Prop := TSl N s 4 (fun _ f j c => j = 3 → YB N s c f.blocks) v l
def YSp (N : Nat → Prop) (s : H) (v : V) (l : List Spot) : Prop := TSl N s 2 (fun _ _ _ c => ∃ n, c = .int .i64 n) v l
def YSt (N : Nat → Prop) (s : H) (v : V) (l : List (List Spot)) : Prop := TSl N s 1 (fun _ x _ c => YSp N s c x) v l

section kinds
variable {N : Nat → Prop} {s s' : H}
theorem TSl.sub {α : Type} {sz : Nat} {C C' : Nat → α → Nat → V → Prop} {v : V} {l : List α} (h : TSl N s sz C v l) (hC : ∀ i a j c, j < sz → C i a j c → C' i a j c) : TSl N s sz C' v l := by
  rcases h with h | ⟨b, row, h1, h2, h3, h4, h5⟩
  · exact .inl h
  · exact .inr ⟨b, row, h1, h2, h3, h4, fun i a j c hi hj hc => hC i a j c hj (h5 i a j c hi hj hc)⟩
theorem TInts.kinds {v : V} {l : List Int} (h : TInts N s v l) : YI N s v l := TSl.sub h fun i a j c _ hc => ⟨a, hc⟩
theorem TDbgs.kinds {v : V} {l : List Dbg} (h : TDbgs N s v l) : YD N s v l := TSl.sub h fun i a j c _ hc hj => by
  subst hj; simp [cDbg] at hc; exact ⟨_, hc.symm⟩
theorem TInsts.kinds {v : V} {l : List Inst} (h : TInsts N s v l) : YInst N s v l := TSl.sub h fun i a j c _ hc => by
  refine ⟨fun hj => ?_, fun hj => ?_, fun hj => ?_⟩ <;> subst hj
  · exact ⟨_, hc⟩
  · exact TInts.kinds hc
  · exact TDbgs.kinds hc
theorem TBlocks.kinds {v : V} {l : List Block} (h : TBlocks N s v l) : YB N s v l := TSl.sub h fun i a j c _ hc => by
  refine ⟨fun hj => ?_, fun hj => ?_, fun hj => ?_⟩ <;> subst hj
  · exact TInsts.kinds hc
  · exact TInsts.kinds hc
  · exact ⟨_, hc⟩
theorem TFuns.kinds {v : V} {l : List Fun} (h : TFuns N s v l) : YF N s v l := TSl.sub h fun i a j c _ hc hj => by
  subst hj; exact TBlocks.kinds hc
theorem TSpots.kinds {v : V} {l : List Spot} (h : TSpots N s v l) : YSp N s v l := TSl.sub h fun i a j c hj hc => by
  have : j = 0 ∨ j = 1 := by omega
  rcases this with rfl | rfl <;> simp [cSpot] at hc <;> exact ⟨_, hc.symm⟩
theorem TStops.kinds {v : V} {l : List (List Spot)} (h : TStops N s v l) : YSt N s v l := TSl.sub h fun i a j c _ hc => TSpots.kinds hc

theorem int_sh {k : IntKind} {c c' : V} (h : ∃ n, c = .int k n) (hc : c' = c ∨ ∃ k x x', c = .int k x ∧ c' = .int k x') : ∃ n, c' = .int k n := by
  obtain ⟨n, rfl⟩ := h
  rcases hc with rfl | ⟨k', x, x', h1, rfl⟩
  · exact ⟨n, rfl⟩
  · cases h1; exact ⟨x', rfl⟩
theorem no_int {α : Type} {sz : Nat} {C : Nat → α → Nat → V → Prop} {v : V} {l : List α} (h : TSl N s sz C v l) {k : IntKind} {x : Int} : v ≠ .int k x := by
  rcases h with ⟨_, rfl | rfl⟩ | ⟨b, row, rfl, _⟩ <;> exact fun e => by cases e
theorem tree_sh {α : Type} {sz : Nat} {C : Nat → α → Nat → V → Prop} {c c' : V} {l : List α} (h : TSl N s sz C c l) (hc : c' = c ∨ ∃ k x x', c = .int k x ∧ c' = .int k x') : c' = c := by
  rcases hc with rfl | ⟨k, x, x', h1, _⟩
  · rfl
  · exact absurd h1 (no_int h)
variable (hs : SameSh s s')
include hs
theorem YI.sh {v : V} {l : List Int} (h : YI N s v l) : YI N s' v l := TSl.sh h hs fun _ _ _ _ _ _ hc hc' => int_sh hc hc'
theorem YD.sh {v : V} {l : List Dbg} (h : YD N s v l) : YD N s' v l := TSl.sh h hs fun _ _ _ _ _ _ hc hc' hj => int_sh (hc hj) hc'
theorem YInst.sh {v : V} {l : List Inst} (h : YInst N s v l) : YInst N s' v l := TSl.sh h hs fun _ _ _ _ _ _ hc hc' =>
  ⟨fun hj => int_sh (hc.1 hj) hc', fun hj => by rw [tree_sh (hc.2.1 hj) hc']; exact (hc.2.1 hj).sh hs, fun hj => by rw [tree_sh (hc.2.2 hj) hc']; exact (hc.2.2 hj).sh hs⟩
theorem YB.sh {v : V} {l : List Block} (h : YB N s v l) : YB N s' v l := TSl.sh h hs fun _ _ _ _ _ _ hc hc' =>
  ⟨fun hj => by rw [tree_sh (hc.1 hj) hc']; exact (hc.1 hj).sh hs, fun hj => by rw [tree_sh (hc.2.1 hj) hc']; exact (hc.2.1 hj).sh hs, fun hj => int_sh (hc.2.2 hj) hc'⟩
theorem YF.sh {v : V} {l : List Fun} (h : YF N s v l) : YF N s' v l := TSl.sh h hs fun _ _ _ _ _ _ hc hc' hj => by
  rw [tree_sh (hc hj) hc']; exact (hc hj).sh hs
theorem YSp.sh {v : V} {l : List Spot} (h : YSp N s v l) : YSp N s' v l := TSl.sh h hs fun _ _ _ _ _ _ hc hc' => int_sh hc hc'
theorem YSt.sh {v : V} {l : List (List Spot)} (h : YSt N s v l) : YSt N s' v l := TSl.sh h hs fun _ _ _ _ _ _ hc hc' => by
  rw [tree_sh hc hc']; exact hc.sh hs
end kinds
end Go.Proofs.Ytbnegbjaoiplmaa
