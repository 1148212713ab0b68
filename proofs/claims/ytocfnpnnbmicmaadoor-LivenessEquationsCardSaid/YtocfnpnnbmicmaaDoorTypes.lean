/- Written by gen.py: the program's types as Lean's, and what their values read as. -/
import Derived.Test.YtocfnpnnbmicmaaDoorBase15
import Derived.Test.YtocfnpnnbmicmaaDoorProg
set_option linter.unusedVariables false
namespace Go.Proofs.YtocfnpnnbmicmaaDoor.Tc
open Go Go.RowKit

structure Instr where
  Op : Int
  A : Int
  B : Int
  C : Int
  N : Int
deriving DecidableEq, Inhabited
def Instr.ty (x : Instr) : List Ty := [(tI x.Op), (tI x.A), (tI x.B), (tI x.C), (tI x.N)]
structure VInstr where
  Instr : Instr
  Args : (List Int)
deriving DecidableEq, Inhabited
def VInstr.ty (x : VInstr) : List Ty := [(tI x.Instr.Op), (tI x.Instr.A), (tI x.Instr.B), (tI x.Instr.C), (tI x.Instr.N), (tL 1 lI x.Args)]
structure Block where
  Instrs : (List VInstr)
  End : Int
  Reg : Int
  Target : Int
  Else : Int
deriving DecidableEq, Inhabited
def Block.ty (x : Block) : List Ty := [(tL 6 VInstr.ty x.Instrs), (tI x.End), (tI x.Reg), (tI x.Target), (tI x.Else)]
structure VFunc where
  Params : Int
  Regs : Int
  Blocks : (List Block)
deriving DecidableEq, Inhabited
def VFunc.ty (x : VFunc) : List Ty := [(tI x.Params), (tI x.Regs), (tL 5 Block.ty x.Blocks)]
structure Outcome where
  Kind : Int
  Code : Int
  Out : (List Int)
  Value : Int
deriving DecidableEq, Inhabited
def Outcome.ty (x : Outcome) : List Ty := [(tI x.Kind), (tI x.Code), (tL 1 lI x.Out), (tI x.Value)]
structure Location where
  InSlot : Bool
  Index : Int
deriving DecidableEq, Inhabited
def Location.ty (x : Location) : List Ty := [(tB x.InSlot), (tI x.Index)]
structure Spill where
  Reg : Int
  Reason : Int
  Block : Int
  Index : Int
  Others : (List Int)
deriving DecidableEq, Inhabited
def Spill.ty (x : Spill) : List Ty := [(tI x.Reg), (tI x.Reason), (tI x.Block), (tI x.Index), (tL 1 lI x.Others)]
structure Allocation where
  Locations : (List Location)
  Spills : (List Spill)
  Slots : Int
deriving DecidableEq, Inhabited
def Allocation.ty (x : Allocation) : List Ty := [(tL 2 Location.ty x.Locations), (tL 5 Spill.ty x.Spills), (tI x.Slots)]
structure OpInfo where
  Name : ByteArray
  Form : Int
  ReadsA : Bool
  WritesA : Bool
  ReadsB : Bool
  MayTrap : Bool
  Words : Int
deriving DecidableEq, Inhabited
def OpInfo.ty (x : OpInfo) : List Ty := [(tS x.Name), (tI x.Form), (tB x.ReadsA), (tB x.WritesA), (tB x.ReadsB), (tB x.MayTrap), (tI x.Words)]
structure RegallocPoint where
  block : Int
  index : Int
deriving DecidableEq, Inhabited
def RegallocPoint.ty (x : RegallocPoint) : List Ty := [(tI x.block), (tI x.index)]
structure Fullingkeep2Digits where
  N : Int
deriving DecidableEq, Inhabited
def Fullingkeep2Digits.ty (x : Fullingkeep2Digits) : List Ty := [(tI x.N)]
def ls_SSI (l : List (List Int)) : List Ty := [(tL 1 lIs l)]
structure RegallocAllocator where
  c : VFunc
  at_ : (List (List (List Int)))
  spilled : (List Bool)
  a : Allocation
deriving DecidableEq, Inhabited
def RegallocAllocator.ty (x : RegallocAllocator) : List Ty := [(tI x.c.Params), (tI x.c.Regs), (tL 5 Block.ty x.c.Blocks), (tL 1 ls_SSI x.at_), (tL 1 lB x.spilled), (tL 2 Location.ty x.a.Locations), (tL 5 Spill.ty x.a.Spills), (tI x.a.Slots)]
structure Fullingref32Allocator where
  C : VFunc
  Spilled : (List Bool)
  Spills : (List Spill)
  Weight : (List Int)
deriving DecidableEq, Inhabited
def Fullingref32Allocator.ty (x : Fullingref32Allocator) : List Ty := [(tI x.C.Params), (tI x.C.Regs), (tL 5 Block.ty x.C.Blocks), (tL 1 lB x.Spilled), (tL 5 Spill.ty x.Spills), (tL 1 lI x.Weight)]
structure AlloccheckPoints where
  c : VFunc
  l : (List (Int × (List (List Int))))
deriving DecidableEq, Inhabited
structure Fullingref32Interpreter where
  L : (List VFunc)
  Cells : (List (List Int))
  Fuel : Int
  Most : Int
  Out : (List Int)
  End : Outcome
  Over : Bool
  Long : Bool
deriving DecidableEq, Inhabited
def Fullingref32Interpreter.ty (x : Fullingref32Interpreter) : List Ty := [(tL 3 VFunc.ty x.L), (tL 1 lIs x.Cells), (tI x.Fuel), (tI x.Most), (tL 1 lI x.Out), (tI x.End.Kind), (tI x.End.Code), (tL 1 lI x.End.Out), (tI x.End.Value), (tB x.Over), (tB x.Long)]
def ls_SU (l : List Int) : List Ty := [(tL 1 lU l)]
theorem el22 : ElTy Tryd.prog 22 31 (.slice none 0 0) 1 24 := ElTy.mk' Tryd.underlying22 (by kernel_rfl) rfl (by decide)
theorem el25 : ElTy Tryd.prog 25 43 (.agg #[(.slice none 0 0), (.int .i64 0), (.int .i64 0), (.int .i64 0), (.int .i64 0)]) 5 56 := ElTy.mk' Tryd.underlying25 (by kernel_rfl) rfl (by decide)
theorem el31 : ElTy Tryd.prog 31 3 (.int .i64 0) 1 8 := ElTy.mk' Tryd.underlying31 (by kernel_rfl) rfl (by decide)
theorem el38 : ElTy Tryd.prog 38 27 (.agg #[(.int .i64 0), (.int .i64 0), (.slice none 0 0)]) 3 40 := ElTy.mk' Tryd.underlying38 (by kernel_rfl) rfl (by decide)
theorem el41 : ElTy Tryd.prog 41 48 (.agg #[(.int .i64 0), (.int .i64 0), (.int .i64 0), (.int .i64 0), (.int .i64 0), (.slice none 0 0)]) 6 64 := ElTy.mk' Tryd.underlying41 (by kernel_rfl) rfl (by decide)
theorem el53 : ElTy Tryd.prog 53 2 (.int .i64 0) 1 8 := ElTy.mk' Tryd.underlying53 (by kernel_rfl) rfl (by decide)
theorem el63 : ElTy Tryd.prog 63 72 (.agg #[(.bool false), (.int .i64 0)]) 2 16 := ElTy.mk' Tryd.underlying63 (by kernel_rfl) rfl (by decide)
theorem el64 : ElTy Tryd.prog 64 76 (.agg #[(.int .i64 0), (.int .i64 0), (.int .i64 0), (.int .i64 0), (.slice none 0 0)]) 5 56 := ElTy.mk' Tryd.underlying64 (by kernel_rfl) rfl (by decide)
theorem el79 : ElTy Tryd.prog 79 4 (.bool false) 1 1 := ElTy.mk' Tryd.underlying79 (by kernel_rfl) rfl (by decide)
theorem el85 : ElTy Tryd.prog 85 66 (.agg #[(.slice none 0 0), (.slice none 0 0), (.int .i64 0)]) 3 56 := ElTy.mk' Tryd.underlying85 (by kernel_rfl) rfl (by decide)
theorem el89 : ElTy Tryd.prog 89 93 (.slice none 0 0) 1 24 := ElTy.mk' Tryd.underlying89 (by kernel_rfl) rfl (by decide)
theorem el92 : ElTy Tryd.prog 92 137 (.int .u64 0) 1 8 := ElTy.mk' Tryd.underlying92 (by kernel_rfl) rfl (by decide)
theorem el93 : ElTy Tryd.prog 93 137 (.int .u64 0) 1 8 := ElTy.mk' Tryd.underlying93 (by kernel_rfl) rfl (by decide)
theorem el117 : ElTy Tryd.prog 117 53 (.slice none 0 0) 1 24 := ElTy.mk' Tryd.underlying117 (by kernel_rfl) rfl (by decide)
theorem el132 : ElTy Tryd.prog 132 22 (.slice none 0 0) 1 24 := ElTy.mk' Tryd.underlying132 (by kernel_rfl) rfl (by decide)
theorem el136 : ElTy Tryd.prog 136 92 (.slice none 0 0) 1 24 := ElTy.mk' Tryd.underlying136 (by kernel_rfl) rfl (by decide)
theorem el152 : ElTy Tryd.prog 152 154 (.agg #[(.int .i64 0), (.int .i64 0)]) 2 16 := ElTy.mk' Tryd.underlying152 (by kernel_rfl) rfl (by decide)
theorem el156 : ElTy Tryd.prog 156 9 (.string ⟨#[]⟩) 1 16 := ElTy.mk' Tryd.underlying156 (by kernel_rfl) rfl (by decide)
theorem el162 : ElTy Tryd.prog 162 113 (.agg #[(.string ⟨#[]⟩), (.int .i64 0), (.bool false), (.bool false), (.bool false), (.bool false), (.int .i64 0)]) 7 40 := ElTy.mk' Tryd.underlying162 (by kernel_rfl) rfl (by decide)
theorem sih72 : Tryd.prog.stoodInHeld 72 = false := by kernel_rfl
theorem egt72 : Tryd.prog.eqGuardType Tryd.prog.depth 72 = false := by kernel_rfl
theorem places46 (fs : Array Field) (h : Tryd.prog.underlying 46 = some (.struct fs)) : fs.toList.mapM (fun f => (Tryd.prog.info? f.type).map fun i => (f.offset, i.size)) = some [(0, 1), (1, 1), (2, 1), (3, 1), (4, 1)] := by rw [Tryd.underlying46] at h; cases h; kernel_rfl
theorem places48 (fs : Array Field) (h : Tryd.prog.underlying 48 = some (.struct fs)) : fs.toList.mapM (fun f => (Tryd.prog.info? f.type).map fun i => (f.offset, i.size)) = some [(0, 5), (5, 1)] := by rw [Tryd.underlying48] at h; cases h; kernel_rfl
theorem places43 (fs : Array Field) (h : Tryd.prog.underlying 43 = some (.struct fs)) : fs.toList.mapM (fun f => (Tryd.prog.info? f.type).map fun i => (f.offset, i.size)) = some [(0, 1), (1, 1), (2, 1), (3, 1), (4, 1)] := by rw [Tryd.underlying43] at h; cases h; kernel_rfl
theorem places27 (fs : Array Field) (h : Tryd.prog.underlying 27 = some (.struct fs)) : fs.toList.mapM (fun f => (Tryd.prog.info? f.type).map fun i => (f.offset, i.size)) = some [(0, 1), (1, 1), (2, 1)] := by rw [Tryd.underlying27] at h; cases h; kernel_rfl
theorem places56 (fs : Array Field) (h : Tryd.prog.underlying 56 = some (.struct fs)) : fs.toList.mapM (fun f => (Tryd.prog.info? f.type).map fun i => (f.offset, i.size)) = some [(0, 1), (1, 1), (2, 1), (3, 1)] := by rw [Tryd.underlying56] at h; cases h; kernel_rfl
theorem places72 (fs : Array Field) (h : Tryd.prog.underlying 72 = some (.struct fs)) : fs.toList.mapM (fun f => (Tryd.prog.info? f.type).map fun i => (f.offset, i.size)) = some [(0, 1), (1, 1)] := by rw [Tryd.underlying72] at h; cases h; kernel_rfl
theorem places76 (fs : Array Field) (h : Tryd.prog.underlying 76 = some (.struct fs)) : fs.toList.mapM (fun f => (Tryd.prog.info? f.type).map fun i => (f.offset, i.size)) = some [(0, 1), (1, 1), (2, 1), (3, 1), (4, 1)] := by rw [Tryd.underlying76] at h; cases h; kernel_rfl
theorem places66 (fs : Array Field) (h : Tryd.prog.underlying 66 = some (.struct fs)) : fs.toList.mapM (fun f => (Tryd.prog.info? f.type).map fun i => (f.offset, i.size)) = some [(0, 1), (1, 1), (2, 1)] := by rw [Tryd.underlying66] at h; cases h; kernel_rfl
theorem places113 (fs : Array Field) (h : Tryd.prog.underlying 113 = some (.struct fs)) : fs.toList.mapM (fun f => (Tryd.prog.info? f.type).map fun i => (f.offset, i.size)) = some [(0, 1), (1, 1), (2, 1), (3, 1), (4, 1), (5, 1), (6, 1)] := by rw [Tryd.underlying113] at h; cases h; kernel_rfl
theorem places154 (fs : Array Field) (h : Tryd.prog.underlying 154 = some (.struct fs)) : fs.toList.mapM (fun f => (Tryd.prog.info? f.type).map fun i => (f.offset, i.size)) = some [(0, 1), (1, 1)] := by rw [Tryd.underlying154] at h; cases h; kernel_rfl
theorem places103 (fs : Array Field) (h : Tryd.prog.underlying 103 = some (.struct fs)) : fs.toList.mapM (fun f => (Tryd.prog.info? f.type).map fun i => (f.offset, i.size)) = some [(0, 1)] := by rw [Tryd.underlying103] at h; cases h; kernel_rfl
theorem places135 (fs : Array Field) (h : Tryd.prog.underlying 135 = some (.struct fs)) : fs.toList.mapM (fun f => (Tryd.prog.info? f.type).map fun i => (f.offset, i.size)) = some [(0, 3), (3, 1), (4, 1), (5, 3)] := by rw [Tryd.underlying135] at h; cases h; kernel_rfl
theorem places123 (fs : Array Field) (h : Tryd.prog.underlying 123 = some (.struct fs)) : fs.toList.mapM (fun f => (Tryd.prog.info? f.type).map fun i => (f.offset, i.size)) = some [(0, 3), (3, 1), (4, 1), (5, 1)] := by rw [Tryd.underlying123] at h; cases h; kernel_rfl
theorem places127 (fs : Array Field) (h : Tryd.prog.underlying 127 = some (.struct fs)) : fs.toList.mapM (fun f => (Tryd.prog.info? f.type).map fun i => (f.offset, i.size)) = some [(0, 3), (3, 1)] := by rw [Tryd.underlying127] at h; cases h; kernel_rfl
theorem places119 (fs : Array Field) (h : Tryd.prog.underlying 119 = some (.struct fs)) : fs.toList.mapM (fun f => (Tryd.prog.info? f.type).map fun i => (f.offset, i.size)) = some [(0, 1), (1, 1), (2, 1), (3, 1), (4, 1), (5, 4), (9, 1), (10, 1)] := by rw [Tryd.underlying119] at h; cases h; kernel_rfl
theorem mixed : Tryd.prog.follows .mixedOrders = true := by kernel_rfl
/-- machine.table, as the row tells it. -/
@[irreducible] def tableL : List OpInfo := [⟨⟨#[110, 111, 112]⟩, 1, false, false, false, false, 1⟩,
  ⟨⟨#[114, 101, 116]⟩, 1, false, false, false, false, 1⟩,
  ⟨⟨#[116, 105, 99, 107]⟩, 1, false, false, false, false, 1⟩,
  ⟨⟨#[116, 114, 97, 112]⟩, 8, false, false, false, true, 1⟩,
  ⟨⟨#[106, 109, 112]⟩, 8, false, false, false, false, 1⟩,
  ⟨⟨#[99, 97, 108, 108]⟩, 5, false, false, false, false, 1⟩,
  ⟨⟨#[106, 122]⟩, 5, true, false, false, false, 1⟩,
  ⟨⟨#[106, 110, 122]⟩, 5, true, false, false, false, 1⟩,
  ⟨⟨#[111, 117, 116]⟩, 2, true, false, false, false, 1⟩,
  ⟨⟨#[109, 111, 118]⟩, 3, false, true, true, false, 1⟩,
  ⟨⟨#[99, 109, 111, 118, 122]⟩, 4, true, true, true, false, 1⟩,
  ⟨⟨#[99, 109, 111, 118, 110, 122]⟩, 4, true, true, true, false, 1⟩,
  ⟨⟨#[108, 100, 105]⟩, 5, false, true, false, false, 1⟩,
  ⟨⟨#[108, 100, 99]⟩, 6, false, true, false, false, 3⟩,
  ⟨⟨#[110, 101, 103]⟩, 2, true, true, false, false, 1⟩,
  ⟨⟨#[110, 111, 116]⟩, 2, true, true, false, false, 1⟩,
  ⟨⟨#[97, 100, 100]⟩, 3, true, true, true, false, 1⟩,
  ⟨⟨#[115, 117, 98]⟩, 3, true, true, true, false, 1⟩,
  ⟨⟨#[109, 117, 108]⟩, 3, true, true, true, false, 1⟩,
  ⟨⟨#[100, 105, 118]⟩, 3, true, true, true, true, 1⟩,
  ⟨⟨#[114, 101, 109]⟩, 3, true, true, true, true, 1⟩,
  ⟨⟨#[97, 110, 100]⟩, 3, true, true, true, false, 1⟩,
  ⟨⟨#[111, 114]⟩, 3, true, true, true, false, 1⟩,
  ⟨⟨#[120, 111, 114]⟩, 3, true, true, true, false, 1⟩,
  ⟨⟨#[115, 104, 108]⟩, 3, true, true, true, false, 1⟩,
  ⟨⟨#[115, 104, 114]⟩, 3, true, true, true, false, 1⟩,
  ⟨⟨#[115, 97, 114]⟩, 3, true, true, true, false, 1⟩,
  ⟨⟨#[101, 113]⟩, 3, true, true, true, false, 1⟩,
  ⟨⟨#[110, 101]⟩, 3, true, true, true, false, 1⟩,
  ⟨⟨#[108, 116]⟩, 3, true, true, true, false, 1⟩,
  ⟨⟨#[108, 101]⟩, 3, true, true, true, false, 1⟩,
  ⟨⟨#[108, 116, 117]⟩, 3, true, true, true, false, 1⟩,
  ⟨⟨#[97, 100, 100, 105]⟩, 5, true, true, false, false, 1⟩,
  ⟨⟨#[108, 100]⟩, 7, false, true, true, true, 1⟩,
  ⟨⟨#[115, 116]⟩, 7, true, false, true, true, 1⟩,
  ⟨⟨#[108, 100, 115]⟩, 5, false, true, false, false, 1⟩,
  ⟨⟨#[115, 116, 115]⟩, 5, true, false, false, false, 1⟩]
def glob : Gl := [(0, tL 7 OpInfo.ty tableL)]
end Go.Proofs.YtocfnpnnbmicmaaDoor.Tc
