/- The abstract machine's operations, each with what it says of the model's: append and clear, as the machine does them. -/
import Derived.Test.YtbnegbjaoiplmaaAmH
set_option linter.unusedVariables false
set_option linter.unusedSimpArgs false
namespace Go.Am
open Go

theorem HeapOk.kill {w : World} {ro : Nat → Prop} {m : Pl} {σ : H} (h : HeapOk w ro m σ) (b : Nat) : HeapOk w ro m (σ.set b none) := by
  have g : ∀ (b' : Nat) (e : Ent), (σ.set b none)[b']? = some (some e) → σ[b']? = some (some e) := by
    intro b' e he
    by_cases q : b' = b
    · subst q
      rw [List.getElem?_set] at he
      simp at he
    · rwa [List.getElem?_set_ne (fun e => q e.symm)] at he
  exact ⟨fun b' p hp => by simpa using h.dom b' p hp, fun b' cl hcl => h.row b' cl (g _ _ hcl), fun b' es hcl => h.mapE b' es (g _ _ hcl), fun b1 b2 e1 e2 B1 D1 B2 D2 hne h1 h2 => h.inj b1 b2 e1 e2 B1 D1 B2 D2 hne (g _ _ h1) (g _ _ h2), h.rob, h.mb⟩

def aAppend (P : Program) (ts : Array TypeId) (s x : V) (σ : H) (nm : Nat) : Option (V × H) :=
  match ts[0]?, ts[1]? with
  | some t, some t1 =>
    match P.underlying t, P.underlying t1 with
    | some (.slice e), some d =>
      if intD d then none else
      match P.info? e, zeroT P e with
      | some i, some z =>
        if z.length ≠ i.size then none else
        match srcCells σ i.size x with
        | some (n, new) =>
          if new.all V.one then
            match s with
            | .snil => if n = 0 then some (.snil, σ) else if n * i.bytes ≤ 140737488355328 ∧ n ≤ 140737488355328 then some (.sl nm 0 n i.size, H.place σ nm (.row new)) else none
            | .sl b off len sz =>
              match rowAt σ b with
              | some cells =>
                if sz = i.size ∧ (len + n) * i.bytes ≤ 140737488355328 ∧ len + n ≤ 140737488355328 ∧ off + len * sz ≤ cells.length then
                  some (.sl nm 0 (len + n) sz, H.place (σ.set b none) nm (.row ((cells.drop off).take (len * sz) ++ new)))
                else none
              | none => none
            | _ => none
          else none
        | none => none
      | _, _ => none
    | _, _ => none
  | _, _ => none

theorem grownCap_le {need old : Nat} {e : TypeId} (w : World) : need ≤ grownCap w need old e := by
  show need ≤ need + _
  omega

theorem rows_append {w : World} {ro : Nat → Prop} {m : Pl} {xs ys : List V} {a b c : Array Value} (h1 : xs.length = a.size) (v1 : ∀ (j : Nat) (c : V) (v : Value), xs[j]? = some c → a[j]? = some v → VR w ro m c v)
    (h2 : ys.length = b.size) (v2 : ∀ (j : Nat) (c : V) (v : Value), ys[j]? = some c → b[j]? = some v → VR w ro m c v) :
    ∀ (j : Nat) (x : V), (xs ++ ys)[j]? = some x → ∃ v : Value, (a ++ b ++ c)[j]? = some v ∧ VR w ro m x v := by
  intro j x hj
  have hlt : j < xs.length + ys.length := by have := (List.getElem?_eq_some_iff.1 hj).1; simpa using this
  have hj2 : j < (a ++ b).size := by simp; omega
  rw [Array.getElem?_append_left hj2]
  by_cases q : j < xs.length
  · rw [List.getElem?_append_left q] at hj
    rw [Array.getElem?_append_left (by omega)]
    exact rows_of h1 v1 j x hj
  · rw [List.getElem?_append_right (by omega)] at hj
    rw [Array.getElem?_append_right (by omega), ← h1]
    exact rows_of h2 v2 _ x hj

theorem aAppend_ok {P : Program} {w : World} {ro : Nat → Prop} {m : Pl} {σ σ' : H} {nm : Nat} (hσ : HeapOk w ro m σ) (hn : nm ≤ σ.length) (hm : m nm = none) {ts : Array TypeId} {ty : TypeId} {s x v : V} {s' x' : Value} (hs : VR w ro m s s') (hx : VR w ro m x x')
    (h : aAppend P ts s x σ nm = some (v, σ')) : Fine P (Builtin.append_ ts ty #[s', x']) w ro m nm v σ' := by
  unfold aAppend at h
  split at h
  case h_2 => cases h
  rename_i t t1 h0 h1
  split at h
  case h_2 => cases h
  rename_i e d hu hu1
  split at h
  · cases h
  rename_i hd
  have hd0 : intD d = false := by simpa using hd
  split at h
  case h_2 => cases h
  rename_i i z hi hz
  obtain ⟨i2, zv, hi2, hzv, rfl⟩ := zeroT_some hz
  obtain rfl : i2 = i := by rw [hi] at hi2; exact (Option.some.inj hi2).symm
  split at h
  · cases h
  rename_i hzl
  have hzs : zv.cells.size = i2.size := by simpa using hzl
  have hzc : ∀ k : Nat, (Builtin.zeroCells zv.cells k).size = k * i2.size := by intro k; simp [Builtin.zeroCells, hzs]
  split at h
  case h_2 => cases h
  rename_i n new hsrc
  obtain ⟨hlen, hnl, arr, hfirst, harr, hav⟩ := srcCells_ok (P := P) hσ hx hsrc
  split at h
  case isFalse => cases h
  rename_i hone
  have h1v : ∀ u ∈ arr.toList, u.oneCell' = true := by
    intro u hu'
    obtain ⟨j, hj, hju⟩ := List.mem_iff_getElem.1 hu'
    have hj' : j < new.length := by rw [harr]; simpa using hj
    exact VR.one (hav j new[j] u (List.getElem?_eq_getElem hj') (by rw [← hju]; simp)) (List.all_eq_true.1 hone _ (List.getElem_mem hj'))
  split at h
  case h_3 => cases h
  case h_1 =>
    cases hs
    split at h
    · rename_i hn0
      subst hn0
      simp only [Option.some.injEq, Prod.mk.injEq] at h
      obtain ⟨rfl, rfl⟩ := h
      refine Fine.same hσ ?_ .snil
      rw [run_append_in w ts ty t t1 e d i2 h0 h1 hu hu1 hd0 hi none 0 0 0 x' arr hlen (hfirst w rfl) (by omega)]
      rfl
    · rename_i hn0
      split at h
      case isFalse => cases h
      rename_i hb
      simp only [Option.some.injEq, Prod.mk.injEq] at h
      obtain ⟨rfl, rfl⟩ := h
      have hrun := run_append_out w ts ty t t1 e d i2 zv h0 h1 hu hu1 hd0 hi hzv none 0 0 n x' #[] arr hlen (hfirst w.drew rfl) (by simp [Builtin.firstCells]) (by omega) (by rw [Nat.zero_add]; exact hb.1) (by omega)
      simp only [Nat.zero_add] at hrun
      refine Fine.new (w1 := w.drew) hσ hn hm rfl rfl rfl rfl (fun j c hj => ?_) hrun ?_
      · have := rows_append (w := w) (ro := ro) (m := m) (xs := []) (a := #[]) (c := Builtin.zeroCells zv.cells (grownCap w n 0 e - n)) rfl (fun j c v hj => by simp at hj) harr hav j c (by simpa using hj)
        exact this
      · have hg := grownCap_le (need := n) (old := 0) (e := e) w
        refine .sl (D := 0) (off := 0) (Pl.put_same _ _ _) hg (by rw [heap_alloc, heap_drew, if_pos rfl]) ?_
        simp only [Array.size_append, hzc]
        have : n * i2.size + (grownCap w n 0 e - n) * i2.size = grownCap w n 0 e * i2.size := by rw [← Nat.add_mul]; congr 1; omega
        simp
        omega
  case h_2 b off len sz =>
    split at h
    case h_2 => cases h
    rename_i cells hr
    split at h
    case isFalse => cases h
    rename_i hh
    obtain ⟨hsz, hb, hb2, hoff⟩ := hh
    subst hsz
    simp only [Option.some.injEq, Prod.mk.injEq] at h
    obtain ⟨rfl, rfl⟩ := h
    have hrow := rowAt_some hr
    cases hs with
    | @sl _ _ _ _ B D cap cur el hmb hcap hg hsize =>
      obtain ⟨B0, D0, cs0, e0, hmb0, hro, hg0, hcs0⟩ := hσ.row b cells hrow
      obtain ⟨rfl, rfl⟩ : B0 = B ∧ D0 = D := by rw [hmb] at hmb0; injection hmb0 with q; injection q with a b; exact ⟨a.symm, b.symm⟩
      obtain ⟨rfl, rfl⟩ : cs0 = cur ∧ e0 = el := by rw [hg] at hg0; injection hg0 with q; injection q with a b; exact ⟨a.symm, b.symm⟩
      by_cases hfit : len + n ≤ cap
      · have hrun := run_append_in w ts ty t t1 e d i2 h0 h1 hu hu1 hd0 hi (some ⟨B0, D0 + off, none⟩) len cap n x' arr hlen (hfirst w rfl) hfit
        have hroom : D0 + off + len * i2.size + n * i2.size ≤ cs0.size := by
          have : (len + n) * i2.size ≤ cap * i2.size := Nat.mul_le_mul_right _ hfit
          rw [Nat.add_mul] at this
          omega
        have hal : arr.toList.length = n * i2.size := by rw [Array.length_toList, ← harr, hnl]
        have hst := run_storeCells_at (P := P) B0 (D0 + off + len * i2.size) e0 arr.toList 0 cs0 w hg (by omega) h1v
        simp only [Nat.add_zero] at hst
        have hsize' : (List.take (D0 + off + len * i2.size) cs0.toList ++ arr.toList ++ List.drop (D0 + off + len * i2.size + arr.toList.length) cs0.toList).toArray.size = cs0.size := by simp; simp at hal; omega
        -- the row under its old name, cut behind the slice and with what is new
        have hrel : ∀ (j : Nat) (c : V), (cells.take (off + len * i2.size) ++ new)[j]? = some c → ∃ v : Value, (List.take (D0 + off + len * i2.size) cs0.toList ++ arr.toList ++ List.drop (D0 + off + len * i2.size + arr.toList.length) cs0.toList).toArray[D0 + j]? = some v ∧ VR w ro m c v := by
          intro j c hj
          rw [List.getElem?_toArray, splice_get _ _ _ (by rw [hal, Array.length_toList]; exact hroom)]
          by_cases q : j < off + len * i2.size
          · rw [List.getElem?_append_left (by simp; omega), List.getElem?_take, if_pos q] at hj
            rw [if_pos (by omega)]
            obtain ⟨v, g1, g2⟩ := hcs0 j c hj
            exact ⟨v, by simpa using g1, g2⟩
          · have hl0 : (cells.take (off + len * i2.size)).length = off + len * i2.size := by simp; omega
            rw [List.getElem?_append_right (by omega), hl0] at hj
            have hjl : j - (off + len * i2.size) < new.length := (List.getElem?_eq_some_iff.1 hj).1
            rw [if_neg (by omega), if_pos (by rw [hal]; omega), show D0 + j - (D0 + off + len * i2.size) = j - (off + len * i2.size) by omega]
            obtain ⟨v, g1, g2⟩ := rows_of harr hav _ c hj
            exact ⟨v, by simpa using g1, g2⟩
        have hσ1 := HeapOk.setRow hσ hrow hmb hg hsize' hrel
        have hE1 := Ext.setRow (w := w) (ro := ro) (m := m) hmb hro hg hsize'
        have k1 := hE1.keeps (fun _ _ h => h)
        have hbl : b < σ.length := (List.getElem?_eq_some_iff.1 hrow).1
        have hT := HeapOk.take (off := off) hσ1 (b := b) (nm := nm) (cells := cells.take (off + len * i2.size) ++ new) (by rw [List.getElem?_set_self hbl]) (by simpa using hn) hm hmb
          (cells' := (cells.drop off).take (len * i2.size) ++ new) (setRow_heap w B0 cs0 _ e0 (0, 0) hg) (fun j c hj => by
            have hj2 : (cells.take (off + len * i2.size) ++ new)[off + j]? = some c := by
              have e1 : (cells.take (off + len * i2.size)).drop off = (cells.drop off).take (len * i2.size) := by rw [List.drop_take]; congr 1; omega
              rw [← List.getElem?_drop, List.drop_append_of_le_length (by simp; omega), e1]
              exact hj
            obtain ⟨v, g1, g2⟩ := hrel (off + j) c hj2
            exact ⟨v, by rw [show D0 + off + j = D0 + (off + j) by omega]; exact g1, g2.keep k1⟩)
        rw [List.set_set] at hT
        refine ⟨.slice (some ⟨B0, D0 + off, none⟩) (len + n) cap, _, _, ?_, ?_, hT.1, hE1.trans hT.2, Grow.put hm _⟩
        · rw [hrun]
          simp only [add_none, hst, Result.andThen_ok]
        · exact .sl (D := D0 + off) (off := 0) (Pl.put_same _ _ _) hfit (setRow_heap w B0 cs0 _ e0 (0, 0) hg) (by rw [hsize']; omega)
      · have hlies := hσ.lies hrow hmb
        have hold : (cells.drop off).take (len * i2.size) = (cells.drop off).take (len * i2.size) := rfl
        obtain ⟨_, hol, oarr, hofirst, hoarr, hoav⟩ := srcCells_ok (P := P) (sz := i2.size) (x := .sl b off len i2.size) (x' := .slice (some ⟨B0, D0 + off, none⟩) len cap) (n := len) (cs := (cells.drop off).take (len * i2.size)) hσ (.sl hmb hcap hg hsize) (by simp [srcCells, hr, hoff])
        have hrun := run_append_out w ts ty t t1 e d i2 zv h0 h1 hu hu1 hd0 hi hzv (some ⟨B0, D0 + off, none⟩) len cap n x' oarr arr hlen (hfirst w.drew rfl) (hofirst w.drew rfl) hfit hb (by omega)
        refine Fine.new (w1 := w.drew) (hσ.kill b) (by simpa using hn) hm rfl rfl rfl rfl (rows_append hoarr hoav harr hav) hrun ?_
        have hgc := grownCap_le (need := len + n) (old := cap) (e := e) w
        refine .sl (D := 0) (off := 0) (Pl.put_same _ _ _) hgc (by rw [heap_alloc, heap_drew, if_pos rfl]) ?_
        simp only [Array.size_append, hzc, ← hoarr, ← harr, hol, hnl]
        have : len * i2.size + n * i2.size + (grownCap w (len + n) cap e - (len + n)) * i2.size = grownCap w (len + n) cap e * i2.size := by rw [← Nat.add_mul, ← Nat.add_mul]; congr 1; omega
        omega

def aClear (P : Program) (t : TypeId) (x : V) (σ : H) : Option H :=
  match P.underlying t with
  | some (.slice e) =>
    match x with
    | .snil => some σ
    | .sl b off len sz =>
      if len = 0 then some σ else
      match zeroT P e, rowAt σ b with
      | some z, some cells => if z.length = sz ∧ z.all V.one = true ∧ off + len * sz ≤ cells.length then some (σ.set b (some (.row (splice cells off (zeros z len))))) else none
      | _, _ => none
    | _ => none
  | _ => none

theorem aClear_ok {P : Program} {w : World} {ro : Nat → Prop} {m : Pl} {σ σ' : H} (hσ : HeapOk w ro m σ) {t ty : TypeId} {x : V} {x' : Value} (hx : VR w ro m x x') (h : aClear P t x σ = some σ') :
    ∃ w', (Builtin.clear_ #[t] ty #[x']).run P w = .ok (.tuple #[]) w' ∧ HeapOk w' ro m σ' ∧ Ext w ro m w' ro m := by
  unfold aClear at h
  split at h
  case h_2 => cases h
  rename_i e hu
  split at h
  case h_3 => cases h
  case h_1 =>
    cases hx; cases h
    exact ⟨w, by simp [Builtin.clear_, run_underlying hu], hσ, Ext.refl w ro m⟩
  case h_2 b off len sz =>
    cases hx with
    | @sl _ _ _ _ B D cap cur el hmb hcap hg hsize =>
      split at h
      · rename_i hl; subst hl; cases h
        exact ⟨w, by simp [Builtin.clear_, run_underlying hu], hσ, Ext.refl w ro m⟩
      · rename_i hl
        split at h
        case h_2 => cases h
        rename_i z cells hz hr
        split at h
        case isFalse => cases h
        rename_i hh
        obtain ⟨hzl, hone, hoff⟩ := hh
        cases h
        obtain ⟨i, zv, hi, hzv, rfl⟩ := zeroT_some hz
        simp only [List.length_map, Array.length_toList] at hzl
        have hget : ∀ j, j < len * zv.cells.size → (Builtin.zeroCells zv.cells len)[j]? = zv.cells[j % zv.cells.size]? := fun j hj => madeCells_get zv.cells len j hj
        have hzs : (Builtin.zeroCells zv.cells len).size = len * zv.cells.size := by simp [Builtin.zeroCells]
        have hrows := zeros_rows w ro m zv.cells len (arr := Builtin.zeroCells zv.cells len) (by omega) hget
        have hzlen : (zeros (zv.cells.toList.map ofVal) len).length = len * zv.cells.size := by rw [zeros_length]; simp
        have hv : ∀ (j : Nat) (c : V) (v : Value), (zeros (zv.cells.toList.map ofVal) len)[j]? = some c → (Builtin.zeroCells zv.cells len).toList[j]? = some v → VR w ro m c v := by
          intro j c v hj hjv
          obtain ⟨u, g1, g2⟩ := hrows j c hj
          rw [Array.getElem?_toList, g1] at hjv
          cases hjv; exact g2
        have hzone : ∀ c ∈ zeros (zv.cells.toList.map ofVal) len, c.one = true := by
          intro c hc
          simp only [zeros, List.mem_flatten, List.mem_replicate] at hc
          obtain ⟨l, ⟨_, rfl⟩, hc⟩ := hc
          exact List.all_eq_true.1 hone c hc
        have h1v : ∀ u ∈ (Builtin.zeroCells zv.cells len).toList, u.oneCell' = true := by
          intro u hu'
          obtain ⟨j, hj, hju⟩ := List.mem_iff_getElem.1 hu'
          have hj' : j < (zeros (zv.cells.toList.map ofVal) len).length := by rw [hzlen, ← hzs]; simpa using hj
          exact VR.one (hv j _ u (List.getElem?_eq_getElem hj') (by rw [← hju]; exact List.getElem?_eq_getElem hj)) (hzone _ (List.getElem_mem hj'))
        obtain ⟨w', g1, g2, g3⟩ := hσ.splice (off := off) (rowAt_some hr) hmb (cs := zeros (zv.cells.toList.map ofVal) len) (vs := (Builtin.zeroCells zv.cells len).toList) (by rw [hzlen, Array.length_toList, hzs]) hv (by rw [hzlen, hzl]; exact hoff) P h1v
        refine ⟨w', ?_, g2, g3⟩
        have hzrun : (zeroValue e).run P w = .ok zv w := by simp [zeroValue, typeInfo, hi, hzv]
        cases len with
        | zero => exact absurd rfl hl
        | succ len => simp [Builtin.clear_, run_underlying hu, hzrun, g1]

end Go.Am
