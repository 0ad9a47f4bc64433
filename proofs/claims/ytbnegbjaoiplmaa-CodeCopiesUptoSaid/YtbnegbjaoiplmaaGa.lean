/- What a reading of code tells: the code, its weight and how it lies in memory. Printed by a small program. -/
import Derived.Test.YtbnegbjaoiplmaaRows
import Derived.Test.YtbnegbjaoiplmaaFm
import Derived.Test.YtbnegbjaoiplmaaAmW
import Derived.RowKit3
set_option linter.unusedVariables false
set_option linter.unusedSimpArgs false
namespace Go.Proofs.Ytbnegbjaoiplmaa
open Go Go.Am

theorem bulk {H : Type} : Bulk (H := H) Rows.uptoBulk Rows.uptoBulkAll := by
  refine ⟨fun l => ?_, ?_, fun e s => ?_, fun p => ?_, fun d l => ?_⟩
  · cases l <;> simp [Rows.uptoBulk]
  all_goals simp [Rows.uptoBulk, Rows.uptoBulkAll]
theorem intCells {k : IntKind} {n : Int} : (V.int k n).cells = some [V.int k n] := rfl
theorem psCells {s : Nat} {xs : List V} : (V.ps s xs).cells = some [V.ps s xs] := rfl

def bDbg (x : Dbg) : Nat := 0
def Dbg.Wf (x : Dbg) : Prop := (Lit.int .i64 x.depth).wf = true ∧ (Lit.int .i64 x.var).wf = true ∧ (Lit.int .u8 x.kind).wf = true ∧ (Lit.int .i64 x.arg).wf = true ∧ (Lit.int .i64 x.a).wf = true ∧ (Lit.int .i64 x.b).wf = true
theorem F55 : flat1 Try.prog 55 = some [3, 3, 5, 3, 2, 2] := by kernel_rfl
theorem CO55 : Try.prog.cellsOf 55 = 6 := by kernel_rfl
theorem oDbg {H : Type} {enc : TypeId × Value → H} {w : World} : Opens enc Try.prog w Rows.uptoBulk 55 eDbg bDbg Dbg.Wf := by
  intro fuel cs x h
  obtain ⟨ds, n, hx, hl, hd, hf⟩ := trod_flat F55 h
  obtain ⟨u0, y0, hu0, hy0, h0⟩ := hf 0 _ rfl
  obtain ⟨a0, p0, b0, c0⟩ := Opens.int bulk U3 n [u0] y0 h0
  obtain ⟨u1, y1, hu1, hy1, h1⟩ := hf 1 _ rfl
  obtain ⟨a1, p1, b1, c1⟩ := Opens.int bulk U3 n [u1] y1 h1
  obtain ⟨u2, y2, hu2, hy2, h2⟩ := hf 2 _ rfl
  obtain ⟨a2, p2, b2, c2⟩ := Opens.int bulk U5 n [u2] y2 h2
  obtain ⟨u3, y3, hu3, hy3, h3⟩ := hf 3 _ rfl
  obtain ⟨a3, p3, b3, c3⟩ := Opens.int bulk U3 n [u3] y3 h3
  obtain ⟨u4, y4, hu4, hy4, h4⟩ := hf 4 _ rfl
  obtain ⟨a4, p4, b4, c4⟩ := Opens.int bulk U2 n [u4] y4 h4
  obtain ⟨u5, y5, hu5, hy5, h5⟩ := hf 5 _ rfl
  obtain ⟨a5, p5, b5, c5⟩ := Opens.int bulk U2 n [u5] y5 h5
  obtain ⟨d0, d1, d2, d3, d4, d5, rfl⟩ : ∃ d0 d1 d2 d3 d4 d5, ds = [d0, d1, d2, d3, d4, d5] := by
    match ds, hd with
    | [d0, d1, d2, d3, d4, d5], _ => exact ⟨_, _, _, _, _, _, rfl⟩
  have g0 : d0 = y0.1 := Option.some.inj hy0
  have g1 : d1 = y1.1 := Option.some.inj hy1
  have g2 : d2 = y2.1 := Option.some.inj hy2
  have g3 : d3 = y3.1 := Option.some.inj hy3
  have g4 : d4 = y4.1 := Option.some.inj hy4
  have g5 : d5 = y5.1 := Option.some.inj hy5
  refine ⟨⟨a0, a1, a2, a3, a4, a5⟩, ⟨p0, p1, p2, p3, p4, p5⟩, ?_, ?_⟩
  · rw [hx]
    simp only [Rows.uptoBulk, Rows.uptoBulkAll, bDbg] at *
    subst g0; subst g1; subst g2; subst g3; subst g4; subst g5
    omega
  · refine ⟨_, rfl, hl.symm, fun j c u hj hu => ?_⟩
    match j, hj, hu with
    | 0, hj, hu => rw [hu0] at hu; cases hu; cases hj; exact c0.one rfl
    | 1, hj, hu => rw [hu1] at hu; cases hu; cases hj; exact c1.one rfl
    | 2, hj, hu => rw [hu2] at hu; cases hu; cases hj; exact c2.one rfl
    | 3, hj, hu => rw [hu3] at hu; cases hu; cases hj; exact c3.one rfl
    | 4, hj, hu => rw [hu4] at hu; cases hu; cases hj; exact c4.one rfl
    | 5, hj, hu => rw [hu5] at hu; cases hu; cases hj; exact c5.one rfl
    | _ + 6, hj, hu => cases hj

theorem oS39 {H : Type} {enc : TypeId × Value → H} {w : World} : Opens enc Try.prog w Rows.uptoBulk 39 (fun l => V.ps 6 (l.map eDbg)) (sumB bDbg) (fun l => ∀ z, z ∈ l → z.Wf) := Opens.slice bulk U39 CO55 (by decide) oDbg
def bSpot (x : Spot) : Nat := 0
def Spot.Wf (x : Spot) : Prop := (Lit.int .i64 x.fn).wf = true ∧ (Lit.int .i64 x.stmt).wf = true
theorem F52 : flat1 Try.prog 52 = some [3, 3] := by kernel_rfl
theorem CO52 : Try.prog.cellsOf 52 = 2 := by kernel_rfl
theorem oSpot {H : Type} {enc : TypeId × Value → H} {w : World} : Opens enc Try.prog w Rows.uptoBulk 52 eSpot bSpot Spot.Wf := by
  intro fuel cs x h
  obtain ⟨ds, n, hx, hl, hd, hf⟩ := trod_flat F52 h
  obtain ⟨u0, y0, hu0, hy0, h0⟩ := hf 0 _ rfl
  obtain ⟨a0, p0, b0, c0⟩ := Opens.int bulk U3 n [u0] y0 h0
  obtain ⟨u1, y1, hu1, hy1, h1⟩ := hf 1 _ rfl
  obtain ⟨a1, p1, b1, c1⟩ := Opens.int bulk U3 n [u1] y1 h1
  obtain ⟨d0, d1, rfl⟩ : ∃ d0 d1, ds = [d0, d1] := by
    match ds, hd with
    | [d0, d1], _ => exact ⟨_, _, rfl⟩
  have g0 : d0 = y0.1 := Option.some.inj hy0
  have g1 : d1 = y1.1 := Option.some.inj hy1
  refine ⟨⟨a0, a1⟩, ⟨p0, p1⟩, ?_, ?_⟩
  · rw [hx]
    simp only [Rows.uptoBulk, Rows.uptoBulkAll, bSpot] at *
    subst g0; subst g1
    omega
  · refine ⟨_, rfl, hl.symm, fun j c u hj hu => ?_⟩
    match j, hj, hu with
    | 0, hj, hu => rw [hu0] at hu; cases hu; cases hj; exact c0.one rfl
    | 1, hj, hu => rw [hu1] at hu; cases hu; cases hj; exact c1.one rfl
    | _ + 2, hj, hu => cases hj

theorem oS50 {H : Type} {enc : TypeId × Value → H} {w : World} : Opens enc Try.prog w Rows.uptoBulk 50 (fun l => V.ps 2 (l.map eSpot)) (sumB bSpot) (fun l => ∀ z, z ∈ l → z.Wf) := Opens.slice bulk U50 CO52 (by decide) oSpot
def bStop (l : List Spot) : Nat := sumB bSpot l
theorem CO50 : Try.prog.cellsOf 50 = 1 := by kernel_rfl
theorem oS23 {H : Type} {enc : TypeId × Value → H} {w : World} : Opens enc Try.prog w Rows.uptoBulk 23 (fun l => V.ps 1 (l.map eStop)) (sumB bStop) (fun l => ∀ z, z ∈ l → ∀ s, s ∈ z → s.Wf) := Opens.slice bulk U23 CO50 (by decide) oS50
theorem CO3 : Try.prog.cellsOf 3 = 1 := by kernel_rfl
theorem oS38 {H : Type} {enc : TypeId × Value → H} {w : World} : Opens enc Try.prog w Rows.uptoBulk 38 ints (sumB fun _ => 0) (fun l => ∀ z, z ∈ l → (Lit.int .i64 z).wf = true) := Opens.slice bulk U38 CO3 (by decide) (Opens.int bulk U3)
def bInst (x : Inst) : Nat := sumB (fun _ => 0) x.args + sumB bDbg x.dbg
def Inst.Wf (x : Inst) : Prop := (Lit.int .u8 x.op).wf = true ∧ (Lit.int .i64 x.dst).wf = true ∧ (∀ z, z ∈ x.args → (Lit.int .i64 z).wf = true) ∧ (Lit.int .i64 x.imm).wf = true ∧ (Lit.int .i64 x.site).wf = true ∧ (∀ z, z ∈ x.dbg → z.Wf)
theorem F41 : flat1 Try.prog 41 = some [5, 3, 38, 2, 3, 39] := by kernel_rfl
theorem CO41 : Try.prog.cellsOf 41 = 6 := by kernel_rfl
theorem oInst {H : Type} {enc : TypeId × Value → H} {w : World} : Opens enc Try.prog w Rows.uptoBulk 41 eInst bInst Inst.Wf := by
  intro fuel cs x h
  obtain ⟨ds, n, hx, hl, hd, hf⟩ := trod_flat F41 h
  obtain ⟨u0, y0, hu0, hy0, h0⟩ := hf 0 _ rfl
  obtain ⟨a0, p0, b0, c0⟩ := Opens.int bulk U5 n [u0] y0 h0
  obtain ⟨u1, y1, hu1, hy1, h1⟩ := hf 1 _ rfl
  obtain ⟨a1, p1, b1, c1⟩ := Opens.int bulk U3 n [u1] y1 h1
  obtain ⟨u2, y2, hu2, hy2, h2⟩ := hf 2 _ rfl
  obtain ⟨a2, p2, b2, c2⟩ := oS38 n [u2] y2 h2
  obtain ⟨u3, y3, hu3, hy3, h3⟩ := hf 3 _ rfl
  obtain ⟨a3, p3, b3, c3⟩ := Opens.int bulk U2 n [u3] y3 h3
  obtain ⟨u4, y4, hu4, hy4, h4⟩ := hf 4 _ rfl
  obtain ⟨a4, p4, b4, c4⟩ := Opens.int bulk U3 n [u4] y4 h4
  obtain ⟨u5, y5, hu5, hy5, h5⟩ := hf 5 _ rfl
  obtain ⟨a5, p5, b5, c5⟩ := oS39 n [u5] y5 h5
  obtain ⟨d0, d1, d2, d3, d4, d5, rfl⟩ : ∃ d0 d1 d2 d3 d4 d5, ds = [d0, d1, d2, d3, d4, d5] := by
    match ds, hd with
    | [d0, d1, d2, d3, d4, d5], _ => exact ⟨_, _, _, _, _, _, rfl⟩
  have g0 : d0 = y0.1 := Option.some.inj hy0
  have g1 : d1 = y1.1 := Option.some.inj hy1
  have g2 : d2 = y2.1 := Option.some.inj hy2
  have g3 : d3 = y3.1 := Option.some.inj hy3
  have g4 : d4 = y4.1 := Option.some.inj hy4
  have g5 : d5 = y5.1 := Option.some.inj hy5
  refine ⟨⟨a0, a1, a2, a3, a4, a5⟩, ⟨p0, p1, p2, p3, p4, p5⟩, ?_, ?_⟩
  · rw [hx]
    simp only [Rows.uptoBulk, Rows.uptoBulkAll, bInst] at *
    subst g0; subst g1; subst g2; subst g3; subst g4; subst g5
    omega
  · refine ⟨_, rfl, hl.symm, fun j c u hj hu => ?_⟩
    match j, hj, hu with
    | 0, hj, hu => rw [hu0] at hu; cases hu; cases hj; exact c0.one rfl
    | 1, hj, hu => rw [hu1] at hu; cases hu; cases hj; exact c1.one rfl
    | 2, hj, hu => rw [hu2] at hu; cases hu; cases hj; exact c2.one rfl
    | 3, hj, hu => rw [hu3] at hu; cases hu; cases hj; exact c3.one rfl
    | 4, hj, hu => rw [hu4] at hu; cases hu; cases hj; exact c4.one rfl
    | 5, hj, hu => rw [hu5] at hu; cases hu; cases hj; exact c5.one rfl
    | _ + 6, hj, hu => cases hj

theorem oS35 {H : Type} {enc : TypeId × Value → H} {w : World} : Opens enc Try.prog w Rows.uptoBulk 35 (fun l => V.ps 6 (l.map eInst)) (sumB bInst) (fun l => ∀ z, z ∈ l → z.Wf) := Opens.slice bulk U35 CO41 (by decide) oInst
def bBlock (x : Block) : Nat := sumB bInst x.phis + sumB bInst x.insts
def Block.Wf (x : Block) : Prop := (∀ z, z ∈ x.phis → z.Wf) ∧ (∀ z, z ∈ x.insts → z.Wf) ∧ (Lit.int .u8 x.fin).wf = true ∧ (Lit.int .i64 x.arg).wf = true ∧ (Lit.int .i64 x.to).wf = true ∧ (Lit.int .i64 x.els).wf = true
theorem F37 : flat1 Try.prog 37 = some [35, 35, 5, 3, 3, 3] := by kernel_rfl
theorem CO37 : Try.prog.cellsOf 37 = 6 := by kernel_rfl
theorem oBlock {H : Type} {enc : TypeId × Value → H} {w : World} : Opens enc Try.prog w Rows.uptoBulk 37 eBlock bBlock Block.Wf := by
  intro fuel cs x h
  obtain ⟨ds, n, hx, hl, hd, hf⟩ := trod_flat F37 h
  obtain ⟨u0, y0, hu0, hy0, h0⟩ := hf 0 _ rfl
  obtain ⟨a0, p0, b0, c0⟩ := oS35 n [u0] y0 h0
  obtain ⟨u1, y1, hu1, hy1, h1⟩ := hf 1 _ rfl
  obtain ⟨a1, p1, b1, c1⟩ := oS35 n [u1] y1 h1
  obtain ⟨u2, y2, hu2, hy2, h2⟩ := hf 2 _ rfl
  obtain ⟨a2, p2, b2, c2⟩ := Opens.int bulk U5 n [u2] y2 h2
  obtain ⟨u3, y3, hu3, hy3, h3⟩ := hf 3 _ rfl
  obtain ⟨a3, p3, b3, c3⟩ := Opens.int bulk U3 n [u3] y3 h3
  obtain ⟨u4, y4, hu4, hy4, h4⟩ := hf 4 _ rfl
  obtain ⟨a4, p4, b4, c4⟩ := Opens.int bulk U3 n [u4] y4 h4
  obtain ⟨u5, y5, hu5, hy5, h5⟩ := hf 5 _ rfl
  obtain ⟨a5, p5, b5, c5⟩ := Opens.int bulk U3 n [u5] y5 h5
  obtain ⟨d0, d1, d2, d3, d4, d5, rfl⟩ : ∃ d0 d1 d2 d3 d4 d5, ds = [d0, d1, d2, d3, d4, d5] := by
    match ds, hd with
    | [d0, d1, d2, d3, d4, d5], _ => exact ⟨_, _, _, _, _, _, rfl⟩
  have g0 : d0 = y0.1 := Option.some.inj hy0
  have g1 : d1 = y1.1 := Option.some.inj hy1
  have g2 : d2 = y2.1 := Option.some.inj hy2
  have g3 : d3 = y3.1 := Option.some.inj hy3
  have g4 : d4 = y4.1 := Option.some.inj hy4
  have g5 : d5 = y5.1 := Option.some.inj hy5
  refine ⟨⟨a0, a1, a2, a3, a4, a5⟩, ⟨p0, p1, p2, p3, p4, p5⟩, ?_, ?_⟩
  · rw [hx]
    simp only [Rows.uptoBulk, Rows.uptoBulkAll, bBlock] at *
    subst g0; subst g1; subst g2; subst g3; subst g4; subst g5
    omega
  · refine ⟨_, rfl, hl.symm, fun j c u hj hu => ?_⟩
    match j, hj, hu with
    | 0, hj, hu => rw [hu0] at hu; cases hu; cases hj; exact c0.one rfl
    | 1, hj, hu => rw [hu1] at hu; cases hu; cases hj; exact c1.one rfl
    | 2, hj, hu => rw [hu2] at hu; cases hu; cases hj; exact c2.one rfl
    | 3, hj, hu => rw [hu3] at hu; cases hu; cases hj; exact c3.one rfl
    | 4, hj, hu => rw [hu4] at hu; cases hu; cases hj; exact c4.one rfl
    | 5, hj, hu => rw [hu5] at hu; cases hu; cases hj; exact c5.one rfl
    | _ + 6, hj, hu => cases hj

theorem oS31 {H : Type} {enc : TypeId × Value → H} {w : World} : Opens enc Try.prog w Rows.uptoBulk 31 (fun l => V.ps 6 (l.map eBlock)) (sumB bBlock) (fun l => ∀ z, z ∈ l → z.Wf) := Opens.slice bulk U31 CO37 (by decide) oBlock
def bFun (x : Fun) : Nat := sumB bBlock x.blocks
def Fun.Wf (x : Fun) : Prop := (Lit.int .i64 x.params).wf = true ∧ (Lit.int .i64 x.vars).wf = true ∧ (Lit.int .i64 x.vals).wf = true ∧ (∀ z, z ∈ x.blocks → z.Wf)
theorem F33 : flat1 Try.prog 33 = some [3, 3, 3, 31] := by kernel_rfl
theorem CO33 : Try.prog.cellsOf 33 = 4 := by kernel_rfl
theorem oFun {H : Type} {enc : TypeId × Value → H} {w : World} : Opens enc Try.prog w Rows.uptoBulk 33 eFun bFun Fun.Wf := by
  intro fuel cs x h
  obtain ⟨ds, n, hx, hl, hd, hf⟩ := trod_flat F33 h
  obtain ⟨u0, y0, hu0, hy0, h0⟩ := hf 0 _ rfl
  obtain ⟨a0, p0, b0, c0⟩ := Opens.int bulk U3 n [u0] y0 h0
  obtain ⟨u1, y1, hu1, hy1, h1⟩ := hf 1 _ rfl
  obtain ⟨a1, p1, b1, c1⟩ := Opens.int bulk U3 n [u1] y1 h1
  obtain ⟨u2, y2, hu2, hy2, h2⟩ := hf 2 _ rfl
  obtain ⟨a2, p2, b2, c2⟩ := Opens.int bulk U3 n [u2] y2 h2
  obtain ⟨u3, y3, hu3, hy3, h3⟩ := hf 3 _ rfl
  obtain ⟨a3, p3, b3, c3⟩ := oS31 n [u3] y3 h3
  obtain ⟨d0, d1, d2, d3, rfl⟩ : ∃ d0 d1 d2 d3, ds = [d0, d1, d2, d3] := by
    match ds, hd with
    | [d0, d1, d2, d3], _ => exact ⟨_, _, _, _, rfl⟩
  have g0 : d0 = y0.1 := Option.some.inj hy0
  have g1 : d1 = y1.1 := Option.some.inj hy1
  have g2 : d2 = y2.1 := Option.some.inj hy2
  have g3 : d3 = y3.1 := Option.some.inj hy3
  refine ⟨⟨a0, a1, a2, a3⟩, ⟨p0, p1, p2, p3⟩, ?_, ?_⟩
  · rw [hx]
    simp only [Rows.uptoBulk, Rows.uptoBulkAll, bFun] at *
    subst g0; subst g1; subst g2; subst g3
    omega
  · refine ⟨_, rfl, hl.symm, fun j c u hj hu => ?_⟩
    match j, hj, hu with
    | 0, hj, hu => rw [hu0] at hu; cases hu; cases hj; exact c0.one rfl
    | 1, hj, hu => rw [hu1] at hu; cases hu; cases hj; exact c1.one rfl
    | 2, hj, hu => rw [hu2] at hu; cases hu; cases hj; exact c2.one rfl
    | 3, hj, hu => rw [hu3] at hu; cases hu; cases hj; exact c3.one rfl
    | _ + 4, hj, hu => cases hj

theorem oS22 {H : Type} {enc : TypeId × Value → H} {w : World} : Opens enc Try.prog w Rows.uptoBulk 22 (fun l => V.ps 4 (l.map eFun)) (sumB bFun) (fun l => ∀ z, z ∈ l → z.Wf) := Opens.slice bulk U22 CO33 (by decide) oFun
def bCode (x : Code) : Nat := sumB bFun x.funs + sumB bStop x.stops
def Code.Wf (x : Code) : Prop := (∀ z, z ∈ x.funs → z.Wf) ∧ (∀ l, l ∈ x.stops → ∀ z, z ∈ l → z.Wf) ∧ (Lit.int .i64 x.main).wf = true
theorem F25 : flat1 Try.prog 25 = some [22, 23, 3] := by kernel_rfl
theorem CO25 : Try.prog.cellsOf 25 = 3 := by kernel_rfl
theorem oCode {H : Type} {enc : TypeId × Value → H} {w : World} : Opens enc Try.prog w Rows.uptoBulk 25 eCode bCode Code.Wf := by
  intro fuel cs x h
  obtain ⟨ds, n, hx, hl, hd, hf⟩ := trod_flat F25 h
  obtain ⟨u0, y0, hu0, hy0, h0⟩ := hf 0 _ rfl
  obtain ⟨a0, p0, b0, c0⟩ := oS22 n [u0] y0 h0
  obtain ⟨u1, y1, hu1, hy1, h1⟩ := hf 1 _ rfl
  obtain ⟨a1, p1, b1, c1⟩ := oS23 n [u1] y1 h1
  obtain ⟨u2, y2, hu2, hy2, h2⟩ := hf 2 _ rfl
  obtain ⟨a2, p2, b2, c2⟩ := Opens.int bulk U3 n [u2] y2 h2
  obtain ⟨d0, d1, d2, rfl⟩ : ∃ d0 d1 d2, ds = [d0, d1, d2] := by
    match ds, hd with
    | [d0, d1, d2], _ => exact ⟨_, _, _, rfl⟩
  have g0 : d0 = y0.1 := Option.some.inj hy0
  have g1 : d1 = y1.1 := Option.some.inj hy1
  have g2 : d2 = y2.1 := Option.some.inj hy2
  refine ⟨⟨a0, a1, a2⟩, ⟨p0, p1, p2⟩, ?_, ?_⟩
  · rw [hx]
    simp only [Rows.uptoBulk, Rows.uptoBulkAll, bCode] at *
    subst g0; subst g1; subst g2
    omega
  · refine ⟨_, rfl, hl.symm, fun j c u hj hu => ?_⟩
    match j, hj, hu with
    | 0, hj, hu => rw [hu0] at hu; cases hu; cases hj; exact c0.one rfl
    | 1, hj, hu => rw [hu1] at hu; cases hu; cases hj; exact c1.one rfl
    | 2, hj, hu => rw [hu2] at hu; cases hu; cases hj; exact c2.one rfl
    | _ + 3, hj, hu => cases hj

end Go.Proofs.Ytbnegbjaoiplmaa
