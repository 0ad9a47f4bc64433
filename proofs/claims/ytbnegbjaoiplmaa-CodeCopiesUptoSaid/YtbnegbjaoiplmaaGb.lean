/- For every code of bulk at most 1048576, the law 'CodeCopies' (a copy of a code is the code's like, shares nothing with it, and what is written into the copy is not seen in the code) returns true, and the code reads behind the call as it read before. No condition but that bound, which the given statement has. -/
import Derived.Test.YtbnegbjaoiplmaaGa
import Derived.WalkKit
import Derived.ProofKit
import Derived.OpenShut
import Derived.JoinedCond
set_option linter.unusedVariables false
namespace Go.Proofs.Ytbnegbjaoiplmaa
open Go Go.Am

theorem sumW_sumB {α : Type} {f b : α → Nat} {k : Nat} (h : ∀ x, f x ≤ k * (b x + 1)) (l : List α) : sumW f l ≤ k * sumB b l := by
  induction l with
  | nil => simp [sumW]
  | cons x l ih =>
    have := h x
    simp only [sumW, List.map_cons, List.sum_cons, sumB, Nat.mul_add] at *
    omega
theorem wInst_le (x : Inst) : wInst x ≤ 1 * (bInst x + 1) := by
  have h1 := sumB_len (fun _ => 0) x.args
  have h2 := sumB_len bDbg x.dbg
  simp only [wInst, bInst]
  omega
theorem wBlock_le (x : Block) : wBlock x ≤ 1 * (bBlock x + 1) := by
  have h1 := sumW_sumB wInst_le x.phis
  have h2 := sumW_sumB wInst_le x.insts
  simp only [wBlock, bBlock]
  omega
theorem wFun_le (x : Fun) : wFun x ≤ 2 * (bFun x + 1) := by
  have h1 := sumW_sumB wBlock_le x.blocks
  have h2 := sumB_len bBlock x.blocks
  simp only [wFun, bFun]
  omega
theorem wCode_le (c : Code) : wCode c ≤ 4 * bCode c := by
  have h1 := sumW_sumB wFun_le c.funs
  have h2 := sumB_len bFun c.funs
  have h3 := sumB_len bStop c.stops
  have h4 : sumW List.length c.stops ≤ 1 * sumB bStop c.stops := sumW_sumB (fun l => by have := sumB_len bSpot l; simp only [bStop]; omega) c.stops
  simp only [wCode, bCode]
  omega
theorem fits_inst {x : Inst} (h : bInst x ≤ big) : x.Fits := by
  have h1 := sumB_len (fun _ => 0) x.args
  have h2 := sumB_len bDbg x.dbg
  simp only [bInst] at h
  exact ⟨by omega, by omega⟩
theorem fits_block {x : Block} (h : bBlock x ≤ big) : x.Fits := by
  have h1 := sumB_len bInst x.phis
  have h2 := sumB_len bInst x.insts
  simp only [bBlock] at h
  exact ⟨by omega, by omega, fun i hi => fits_inst (by have := sumB_mem (b := bInst) hi; omega), fun i hi => fits_inst (by have := sumB_mem (b := bInst) hi; omega)⟩
theorem fits_fun {x : Fun} (h : bFun x ≤ big) : x.Fits := by
  have h1 := sumB_len bBlock x.blocks
  simp only [bFun] at h
  exact ⟨by omega, fun i hi => fits_block (by have := sumB_mem (b := bBlock) hi; omega)⟩
theorem fits_code {c : Code} (h : bCode c ≤ big) : c.Fits := by
  have h1 := sumB_len bFun c.funs
  have h2 := sumB_len bStop c.stops
  simp only [bCode] at h
  exact ⟨by omega, by omega, fun i hi => fits_fun (by have := sumB_mem (b := bFun) hi; omega), fun l hl => by have := sumB_mem (b := bStop) hl; have := sumB_len bSpot l; simp only [bStop] at *; omega⟩

theorem bulk_bound {H : Type} {l : List (DataW H)} (hk : Rows.uptoSmall H l = true) : Rows.uptoBulkAll l ≤ 1048576 := by
  simpa [Rows.uptoSmall] using hk

theorem kids : Kids Try.prog (· < Try.prog.types.size) := kids_rows (by kernel_rfl) (by kernel_rfl)
theorem full : ∀ t e, t < Try.prog.types.size → Try.prog.underlying t = some (.slice e) → 0 < Try.prog.cellsOf e := slices_full_of _ (by kernel_rfl)
theorem own : ownKnob Try.prog.godebug = none := by kernel_rfl

set_option maxRecDepth 100000 in
/-- An argument that is read as code. -/
theorem openCode {H : Type} {enc : TypeId × Value → H} {w : World} {r : Reach} {b0 : Nat} {v : Value} {d : DataW H} {ps : List MemPlace} (hval : Value.okWide Try.prog w r b0 25 v) (h : DataW.Trod enc Try.prog w 0 (fun _ => true) true 25 v d ps) :
    ∃ c : Code, c.Wf ∧ bCode c + 1 ≤ Rows.uptoBulk d ∧ VN w (fun X => X < w.heap.size) (eCode c) v := by
  obtain ⟨fs, hu⟩ := flat1_struct F25
  obtain ⟨cs, rfl, hcs⟩ := WideShapes.okWide_struct hu hval
  obtain ⟨fuel, hf⟩ := h
  obtain ⟨c, h1, h2, l, h3, h4, h5⟩ := oCode fuel _ _ hf
  refine ⟨c, h1, h2, ?_⟩
  have e : l = rCode c := (Option.some.inj h3).symm
  subst e
  refine VN.agg (by rw [← Array.length_toList]; exact h4) fun j x u hx hu => h5 j x u hx (by simpa [Value.cells] using hu)
namespace codeCopies
open Go.ChangeShapes Go.WideShapes Go.ChangeAt Go.RowKit

set_option maxRecDepth 100000 in
theorem contract (H : Type) (enc : TypeId × Value → H) (W : World) (base : Nat) (args : Array Value) (ds gs : List (DataW H)) (before : List MemPlace)
    (hval : ∀ (j : Nat) t v, Try.f4.params[j]? = some t → args[j]? = some v → Value.okWide Try.prog W .any base t v)
    (hW : DataW.Whole enc Try.prog Try.f4.params.toList Rows.codeCopiesSpec.vars false W args.toList ds gs before) (hk : Rows.uptoSmall H (ds ++ gs) = true) :
    Calls Try.prog 4 args W fun e W' => ∃ v, e = .returned v ∧ Rows.codeCopiesSpec.post enc Try.prog Try.f4 false true false false W args v W' := by
  have hW' := hW
  obtain ⟨p, q, hA0, hV, rfl, hfz, hnd⟩ := hW
  have hA : DataW.TrodAll enc Try.prog W 0 (fun _ => true) true Try.f4.params.toList args.toList ds p := hA0
  have hAk := hA
  rw [Try.params4] at hA hval
  obtain ⟨v0, d0, rfl, rfl, h0⟩ := trodAll_one hA
  obtain ⟨rfl, rfl⟩ := trodVars_none hV
  simp only [List.append_nil] at hk
  obtain ⟨c, hwf, hb, hv⟩ := openCode (hval 0 25 v0 rfl rfl) h0
  have hbound := bulk_bound hk
  simp only [Rows.uptoBulkAll] at hbound
  have hw := wCode_le c
  have hlt := hW'.lt
  refine (Spec.world (f4 c (fits_code (by simp only [big]; omega)) (by simp only [big]; omega) []) W #[v0] rfl (fun j x u hx hu => by
    match j, hx, hu with
    | 0, hx, hu => simp at hx hu; subst hx; subst hu; exact hv)).mono fun e W' hp => ?_
  obtain ⟨o, s, ro', m', ⟨_, rfl⟩, ho, same, hg⟩ := hp
  cases ho with
  | ret hvu =>
    cases hvu
    exact ⟨_, rfl, post_of_same (pa := p) (pv := []) hW' (fun _ _ _ => trodAll_cons_mk (shut_bool U4 _) trodAll_mk0)
      (fun sp hsp => trod_same kids full same (by rw [Try.params4]; decide) hAk (fun x hx => hlt x (by simpa using hx)) (fun x hx => hsp x (by simpa using hx))) (fun _ _ => rfl) rfl
      (hg.frame _) hg.2.1 (ok_one (by kernel_rfl) rfl (okWide_bool_mk U4 _))⟩

set_option maxRecDepth 100000 in
theorem lifted (os : Os) (started : os.Started) (H : Type) (enc : TypeId × Value → H) (F : Stop.Interp) :
    ReturnsInHanded {} Try.checked os 4 .any ((Rows.OpenSpec.upto Rows.codeCopiesSpec).pre6 enc Try.prog Try.f4 Rows.codeCopiesUptoRow.domain false) (((Rows.OpenSpec.upto Rows.codeCopiesSpec).at F).post enc Try.prog Try.f4 false true false false) := by
  refine returnsInHanded_of_cond (C := Try.checked) (s := Rows.OpenSpec.upto Rows.codeCopiesSpec) (k := Rows.uptoSmall) rfl own started (by kernel_rfl) Try.func4
    (OpenSpec.witness (enc := enc) (C := Try.checked) (s := Rows.OpenSpec.upto Rows.codeCopiesSpec) (k := Rows.uptoSmall) rfl false ⟨#[], #[.agg #[.slice none 0 0, .slice none 0 0, .int .i64 0]], []⟩ 8 (by kernel_rfl) (by kernel_rfl) (by kernel_rfl)
      (x := ([.agg [.nil, .nil, .lit (.int .i64 0)]], [], [])) (by kernel_rfl) rfl (by kernel_rfl)) ?_
  intro W base args ds gs before hval hW _ hk _
  exact contract H enc W base args ds gs before hval hW hk

theorem proved : Rows.CodeCopiesUptoSaid :=
  OpenClaim.holds_of_cond 4 Try.f4 rfl rfl rfl rfl rfl rfl rfl ⟨rfl, rfl, rfl, rfl, rfl⟩ rfl rfl rfl rfl rfl (by kernel_rfl) Try.func4 (by kernel_rfl)
    (of_decide_eq_true (by kernel_rfl)) (by unfold Func.isWrapper; first | (rw [if_pos (by decide +kernel)]; kernel_rfl) | (rw [if_neg (by decide +kernel)]; exact ⟨rfl, rfl⟩))
    (fun os started H enc _ F => lifted os started H enc F)
end codeCopies
end Go.Proofs.Ytbnegbjaoiplmaa
