/- The data of code, and how it lies in memory. -/
import Derived.Test.YtbnegbjaoiplmaaFa
set_option linter.unusedVariables false
set_option linter.unusedSimpArgs false
namespace Go.Proofs.Ytbnegbjaoiplmaa
open Go Go.Am

structure Spot where
  fn : Int
  stmt : Int
  deriving DecidableEq

structure Dbg where
  depth : Int
  var : Int
  kind : Int
  arg : Int
  a : Int
  b : Int
  deriving DecidableEq

structure Inst where
  op : Int
  dst : Int
  args : List Int
  imm : Int
  site : Int
  dbg : List Dbg
  deriving DecidableEq

structure Block where
  phis : List Inst
  insts : List Inst
  fin : Int
  arg : Int
  to : Int
  els : Int
  deriving DecidableEq

structure Fun where
  params : Int
  vars : Int
  vals : Int
  blocks : List Block
  deriving DecidableEq

structure Code where
  funs : List Fun
  stops : List (List Spot)
  main : Int
  deriving DecidableEq

def eSpot (s : Spot) : V := .agg [.int .i64 s.fn, .int .i64 s.stmt]
def eDbg (d : Dbg) : V := .agg [.int .i64 d.depth, .int .i64 d.var, .int .u8 d.kind, .int .i64 d.arg, .int .i64 d.a, .int .i64 d.b]
def eInst (i : Inst) : V := .agg [.int .u8 i.op, .int .i64 i.dst, ints i.args, .int .i64 i.imm, .int .i64 i.site, .ps 6 (i.dbg.map eDbg)]
def eInsts (l : List Inst) : V := .ps 6 (l.map eInst)
def eBlock (b : Block) : V := .agg [eInsts b.phis, eInsts b.insts, .int .u8 b.fin, .int .i64 b.arg, .int .i64 b.to, .int .i64 b.els]
def eFun (f : Fun) : V := .agg [.int .i64 f.params, .int .i64 f.vars, .int .i64 f.vals, .ps 6 (f.blocks.map eBlock)]
def eStop (l : List Spot) : V := .ps 2 (l.map eSpot)
def eCode (c : Code) : V := .agg [.ps 4 (c.funs.map eFun), .ps 1 (c.stops.map eStop), .int .i64 c.main]

theorem eq_dbg (x y : Dbg) : aEq Try.prog 10000 55 (eDbg x) (eDbg y) = some (decide (x = y)) := by
  have h : aEq Try.prog 10000 55 (eDbg x) (eDbg y) = (if (x.depth == y.depth) = true then if (x.var == y.var) = true then if (x.kind == y.kind) = true then if (x.arg == y.arg) = true then if (x.a == y.a) = true then if (x.b == y.b) = true then some true else some false else some false else some false else some false else some false else some false) := by kernel_rfl
  rw [h]
  cases x; cases y
  simp only [beq_iff_eq, Dbg.mk.injEq]
  repeat' split
  all_goals simp_all
theorem eq_spot (x y : Spot) : aEq Try.prog 10000 52 (eSpot x) (eSpot y) = some (decide (x = y)) := by
  have h : aEq Try.prog 10000 52 (eSpot x) (eSpot y) = (if (x.fn == y.fn) = true then if (x.stmt == y.stmt) = true then some true else some false else some false) := by kernel_rfl
  rw [h]
  cases x; cases y
  simp only [beq_iff_eq, Spot.mk.injEq]
  repeat' split
  all_goals simp_all

theorem neq_dbg (x y : Dbg) : aBin Try.prog .neq 55 (eDbg x) (eDbg y) = some (.bool (decide (x ≠ y))) := by
  have h : pairB Try.prog 55 (eDbg x) (eDbg y) = true := by kernel_rfl
  have e := eq_dbg x y
  unfold eDbg at e h ⊢
  simp only [aBin, h, if_true, e, Option.map_some]
  simp
theorem neq_dbgU (x y : Dbg) : aBin Try.prog .neq 55 (.agg [.int .i64 x.depth, .int .i64 x.var, .int .u8 x.kind, .int .i64 x.arg, .int .i64 x.a, .int .i64 x.b]) (.agg [.int .i64 y.depth, .int .i64 y.var, .int .u8 y.kind, .int .i64 y.arg, .int .i64 y.a, .int .i64 y.b]) = some (.bool (decide (x ≠ y))) := neq_dbg x y
theorem neq_spot (x y : Spot) : aBin Try.prog .neq 52 (eSpot x) (eSpot y) = some (.bool (decide (x ≠ y))) := by
  have h : pairB Try.prog 52 (eSpot x) (eSpot y) = true := by kernel_rfl
  have e := eq_spot x y
  unfold eSpot at e h ⊢
  simp only [aBin, h, if_true, e, Option.map_some]
  simp
theorem neq_spotU (x y : Spot) : aBin Try.prog .neq 52 (.agg [.int .i64 x.fn, .int .i64 x.stmt]) (.agg [.int .i64 y.fn, .int .i64 y.stmt]) = some (.bool (decide (x ≠ y))) := neq_spot x y
end Go.Proofs.Ytbnegbjaoiplmaa
