/- The program's structs; what is shared by the printed derivations; for each Go function a pure Lean function, and that the Go code comes to what it says (written by gen.py). -/
import Derived.Test.YtocfnpnnbmicmaaDoorProg
import Derived.Test.YtocfnpnnbmicmaaDoorRows
import Derived.OpenShut
import Derived.Lib.LaidTab
import Derived.Test.YtocfnpnnbmicmaaDoorZDd1
section
set_option linter.unusedVariables false
namespace Go.Proofs.YtocfnpnnbmicmaaDoor.Tc
open Go Go.RowKit
structure Instr where
 Op : Int
 A : Int
 B : Int
 C : Int
 N : Int
deriving DecidableEq, Inhabited
def Instr.ty (x : Instr) : List Ty := [(tI x.Op), (tI x.A), (tI x.B), (tI x.C), (tI x.N)]
structure VInstr where
 Instr : Instr
 Args : (List Int)
deriving DecidableEq, Inhabited
def VInstr.ty (x : VInstr) : List Ty := [(tI x.Instr.Op), (tI x.Instr.A), (tI x.Instr.B), (tI x.Instr.C), (tI x.Instr.N), (tL 1 lI x.Args)]
structure Block where
 Instrs : (List VInstr)
 End : Int
 Reg : Int
 Target : Int
 Else : Int
deriving DecidableEq, Inhabited
def Block.ty (x : Block) : List Ty := [(tL 6 VInstr.ty x.Instrs), (tI x.End), (tI x.Reg), (tI x.Target), (tI x.Else)]
structure VFunc where
 Params : Int
 Regs : Int
 Blocks : (List Block)
deriving DecidableEq, Inhabited
def VFunc.ty (x : VFunc) : List Ty := [(tI x.Params), (tI x.Regs), (tL 5 Block.ty x.Blocks)]
structure Outcome where
 Kind : Int
 Code : Int
 Out : (List Int)
 Value : Int
deriving DecidableEq, Inhabited
def Outcome.ty (x : Outcome) : List Ty := [(tI x.Kind), (tI x.Code), (tL 1 lI x.Out), (tI x.Value)]
structure Location where
 InSlot : Bool
 Index : Int
deriving DecidableEq, Inhabited
def Location.ty (x : Location) : List Ty := [(tB x.InSlot), (tI x.Index)]
structure Spill where
 Reg : Int
 Reason : Int
 Block : Int
 Index : Int
 Others : (List Int)
deriving DecidableEq, Inhabited
def Spill.ty (x : Spill) : List Ty := [(tI x.Reg), (tI x.Reason), (tI x.Block), (tI x.Index), (tL 1 lI x.Others)]
structure Allocation where
 Locations : (List Location)
 Spills : (List Spill)
 Slots : Int
deriving DecidableEq, Inhabited
def Allocation.ty (x : Allocation) : List Ty := [(tL 2 Location.ty x.Locations), (tL 5 Spill.ty x.Spills), (tI x.Slots)]
structure OpInfo where
 Name : ByteArray
 Form : Int
 ReadsA : Bool
 WritesA : Bool
 ReadsB : Bool
 MayTrap : Bool
 Words : Int
deriving DecidableEq, Inhabited
def OpInfo.ty (x : OpInfo) : List Ty := [(tS x.Name), (tI x.Form), (tB x.ReadsA), (tB x.WritesA), (tB x.ReadsB), (tB x.MayTrap), (tI x.Words)]
structure RegallocPoint where
 block : Int
 index : Int
deriving DecidableEq, Inhabited
def RegallocPoint.ty (x : RegallocPoint) : List Ty := [(tI x.block), (tI x.index)]
structure Fullingkeep2Digits where
 N : Int
deriving DecidableEq, Inhabited
def Fullingkeep2Digits.ty (x : Fullingkeep2Digits) : List Ty := [(tI x.N)]
def ls_SSI (l : List (List Int)) : List Ty := [(tL 1 lIs l)]
structure RegallocAllocator where
 c : VFunc
 at_ : (List (List (List Int)))
 spilled : (List Bool)
 a : Allocation
deriving DecidableEq, Inhabited
def RegallocAllocator.ty (x : RegallocAllocator) : List Ty := [(tI x.c.Params), (tI x.c.Regs), (tL 5 Block.ty x.c.Blocks), (tL 1 ls_SSI x.at_), (tL 1 lB x.spilled), (tL 2 Location.ty x.a.Locations), (tL 5 Spill.ty x.a.Spills), (tI x.a.Slots)]
structure Fullingref32Allocator where
 C : VFunc
 Spilled : (List Bool)
 Spills : (List Spill)
 Weight : (List Int)
deriving DecidableEq, Inhabited
def Fullingref32Allocator.ty (x : Fullingref32Allocator) : List Ty := [(tI x.C.Params), (tI x.C.Regs), (tL 5 Block.ty x.C.Blocks), (tL 1 lB x.Spilled), (tL 5 Spill.ty x.Spills), (tL 1 lI x.Weight)]
structure Fullingref32Interpreter where
 L : (List VFunc)
 Cells : (List (List Int))
 Fuel : Int
 Most : Int
 Out : (List Int)
 End : Outcome
 Over : Bool
 Long : Bool
deriving DecidableEq, Inhabited
def Fullingref32Interpreter.ty (x : Fullingref32Interpreter) : List Ty := [(tL 3 VFunc.ty x.L), (tL 1 lIs x.Cells), (tI x.Fuel), (tI x.Most), (tL 1 lI x.Out), (tI x.End.Kind), (tI x.End.Code), (tL 1 lI x.End.Out), (tI x.End.Value), (tB x.Over), (tB x.Long)]
def ls_SU (l : List Int) : List Ty := [(tL 1 lU l)]
theorem el22 : ElTy Tryd.prog 22 31 (.slice none 0 0) 1 24 := ElTy.mk' Tryd.underlying22 (by kernel_rfl) rfl (by decide)
theorem el25 : ElTy Tryd.prog 25 43 (.agg #[(.slice none 0 0), (.int .i64 0), (.int .i64 0), (.int .i64 0), (.int .i64 0)]) 5 56 := ElTy.mk' Tryd.underlying25 (by kernel_rfl) rfl (by decide)
theorem el31 : ElTy Tryd.prog 31 3 (.int .i64 0) 1 8 := ElTy.mk' Tryd.underlying31 (by kernel_rfl) rfl (by decide)
theorem el38 : ElTy Tryd.prog 38 27 (.agg #[(.int .i64 0), (.int .i64 0), (.slice none 0 0)]) 3 40 := ElTy.mk' Tryd.underlying38 (by kernel_rfl) rfl (by decide)
theorem el41 : ElTy Tryd.prog 41 48 (.agg #[(.int .i64 0), (.int .i64 0), (.int .i64 0), (.int .i64 0), (.int .i64 0), (.slice none 0 0)]) 6 64 := ElTy.mk' Tryd.underlying41 (by kernel_rfl) rfl (by decide)
theorem el53 : ElTy Tryd.prog 53 2 (.int .i64 0) 1 8 := ElTy.mk' Tryd.underlying53 (by kernel_rfl) rfl (by decide)
theorem el89 : ElTy Tryd.prog 89 93 (.slice none 0 0) 1 24 := ElTy.mk' Tryd.underlying89 (by kernel_rfl) rfl (by decide)
theorem el93 : ElTy Tryd.prog 93 137 (.int .u64 0) 1 8 := ElTy.mk' Tryd.underlying93 (by kernel_rfl) rfl (by decide)
theorem el117 : ElTy Tryd.prog 117 53 (.slice none 0 0) 1 24 := ElTy.mk' Tryd.underlying117 (by kernel_rfl) rfl (by decide)
theorem el156 : ElTy Tryd.prog 156 9 (.string ⟨#[]⟩) 1 16 := ElTy.mk' Tryd.underlying156 (by kernel_rfl) rfl (by decide)
theorem places46 (fs : Array Field) (h : Tryd.prog.underlying 46 = some (.struct fs)) : fs.toList.mapM (fun f => (Tryd.prog.info? f.type).map fun i => (f.offset, i.size)) = some [(0, 1), (1, 1), (2, 1), (3, 1), (4, 1)] := by rw [Tryd.underlying46] at h; cases h; kernel_rfl
theorem places48 (fs : Array Field) (h : Tryd.prog.underlying 48 = some (.struct fs)) : fs.toList.mapM (fun f => (Tryd.prog.info? f.type).map fun i => (f.offset, i.size)) = some [(0, 5), (5, 1)] := by rw [Tryd.underlying48] at h; cases h; kernel_rfl
theorem places43 (fs : Array Field) (h : Tryd.prog.underlying 43 = some (.struct fs)) : fs.toList.mapM (fun f => (Tryd.prog.info? f.type).map fun i => (f.offset, i.size)) = some [(0, 1), (1, 1), (2, 1), (3, 1), (4, 1)] := by rw [Tryd.underlying43] at h; cases h; kernel_rfl
theorem places27 (fs : Array Field) (h : Tryd.prog.underlying 27 = some (.struct fs)) : fs.toList.mapM (fun f => (Tryd.prog.info? f.type).map fun i => (f.offset, i.size)) = some [(0, 1), (1, 1), (2, 1)] := by rw [Tryd.underlying27] at h; cases h; kernel_rfl
theorem places56 (fs : Array Field) (h : Tryd.prog.underlying 56 = some (.struct fs)) : fs.toList.mapM (fun f => (Tryd.prog.info? f.type).map fun i => (f.offset, i.size)) = some [(0, 1), (1, 1), (2, 1), (3, 1)] := by rw [Tryd.underlying56] at h; cases h; kernel_rfl
theorem places113 (fs : Array Field) (h : Tryd.prog.underlying 113 = some (.struct fs)) : fs.toList.mapM (fun f => (Tryd.prog.info? f.type).map fun i => (f.offset, i.size)) = some [(0, 1), (1, 1), (2, 1), (3, 1), (4, 1), (5, 1), (6, 1)] := by rw [Tryd.underlying113] at h; cases h; kernel_rfl
theorem places103 (fs : Array Field) (h : Tryd.prog.underlying 103 = some (.struct fs)) : fs.toList.mapM (fun f => (Tryd.prog.info? f.type).map fun i => (f.offset, i.size)) = some [(0, 1)] := by rw [Tryd.underlying103] at h; cases h; kernel_rfl
theorem places119 (fs : Array Field) (h : Tryd.prog.underlying 119 = some (.struct fs)) : fs.toList.mapM (fun f => (Tryd.prog.info? f.type).map fun i => (f.offset, i.size)) = some [(0, 1), (1, 1), (2, 1), (3, 1), (4, 1), (5, 4), (9, 1), (10, 1)] := by rw [Tryd.underlying119] at h; cases h; kernel_rfl
theorem mixed : Tryd.prog.follows .mixedOrders = true := by kernel_rfl
@[irreducible] def tableL : List OpInfo := [⟨⟨#[110, 111, 112]⟩, 1, false, false, false, false, 1⟩,
 ⟨⟨#[114, 101, 116]⟩, 1, false, false, false, false, 1⟩,
 ⟨⟨#[116, 105, 99, 107]⟩, 1, false, false, false, false, 1⟩,
 ⟨⟨#[116, 114, 97, 112]⟩, 8, false, false, false, true, 1⟩,
 ⟨⟨#[106, 109, 112]⟩, 8, false, false, false, false, 1⟩,
 ⟨⟨#[99, 97, 108, 108]⟩, 5, false, false, false, false, 1⟩,
 ⟨⟨#[106, 122]⟩, 5, true, false, false, false, 1⟩,
 ⟨⟨#[106, 110, 122]⟩, 5, true, false, false, false, 1⟩,
 ⟨⟨#[111, 117, 116]⟩, 2, true, false, false, false, 1⟩,
 ⟨⟨#[109, 111, 118]⟩, 3, false, true, true, false, 1⟩,
 ⟨⟨#[99, 109, 111, 118, 122]⟩, 4, true, true, true, false, 1⟩,
 ⟨⟨#[99, 109, 111, 118, 110, 122]⟩, 4, true, true, true, false, 1⟩,
 ⟨⟨#[108, 100, 105]⟩, 5, false, true, false, false, 1⟩,
 ⟨⟨#[108, 100, 99]⟩, 6, false, true, false, false, 3⟩,
 ⟨⟨#[110, 101, 103]⟩, 2, true, true, false, false, 1⟩,
 ⟨⟨#[110, 111, 116]⟩, 2, true, true, false, false, 1⟩,
 ⟨⟨#[97, 100, 100]⟩, 3, true, true, true, false, 1⟩,
 ⟨⟨#[115, 117, 98]⟩, 3, true, true, true, false, 1⟩,
 ⟨⟨#[109, 117, 108]⟩, 3, true, true, true, false, 1⟩,
 ⟨⟨#[100, 105, 118]⟩, 3, true, true, true, true, 1⟩,
 ⟨⟨#[114, 101, 109]⟩, 3, true, true, true, true, 1⟩,
 ⟨⟨#[97, 110, 100]⟩, 3, true, true, true, false, 1⟩,
 ⟨⟨#[111, 114]⟩, 3, true, true, true, false, 1⟩,
 ⟨⟨#[120, 111, 114]⟩, 3, true, true, true, false, 1⟩,
 ⟨⟨#[115, 104, 108]⟩, 3, true, true, true, false, 1⟩,
 ⟨⟨#[115, 104, 114]⟩, 3, true, true, true, false, 1⟩,
 ⟨⟨#[115, 97, 114]⟩, 3, true, true, true, false, 1⟩,
 ⟨⟨#[101, 113]⟩, 3, true, true, true, false, 1⟩,
 ⟨⟨#[110, 101]⟩, 3, true, true, true, false, 1⟩,
 ⟨⟨#[108, 116]⟩, 3, true, true, true, false, 1⟩,
 ⟨⟨#[108, 101]⟩, 3, true, true, true, false, 1⟩,
 ⟨⟨#[108, 116, 117]⟩, 3, true, true, true, false, 1⟩,
 ⟨⟨#[97, 100, 100, 105]⟩, 5, true, true, false, false, 1⟩,
 ⟨⟨#[108, 100]⟩, 7, false, true, true, true, 1⟩,
 ⟨⟨#[115, 116]⟩, 7, true, false, true, true, 1⟩,
 ⟨⟨#[108, 100, 115]⟩, 5, false, true, false, false, 1⟩,
 ⟨⟨#[115, 116, 115]⟩, 5, true, false, false, false, 1⟩]
def glob : Gl := [(0, tL 7 OpInfo.ty tableL)]
end Go.Proofs.YtocfnpnnbmicmaaDoor.Tc
end
section
set_option linter.unusedVariables false
set_option linter.unusedSimpArgs false
namespace Go.Proofs.YtocfnpnnbmicmaaDoor.Tc
open Go Go.RowKit Go.ChangeShapes
section
variable {H : Type} {enc : TypeId × Value → H} {P : Program} {w : World} {base : Nat} {sp : Nat → Bool} {held : Bool}
theorem int_of_trod {fuel : Nat} {t : TypeId} {cs : List Value} {k : IntKind} {n : Int} {p : List MemPlace} (ht : P.underlying t = some (.int k)) (h : DataW.trod enc P w base sp held fuel t cs = some (.lit (.int k n), p)) : cs = [.int k n] := by
 cases fuel with
 | zero => simp [DataW.trod] at h
 | succ fuel =>
  unfold DataW.trod at h
  rw [ht] at h
  split at h <;> simp_all
theorem bool_of_trod {fuel : Nat} {t : TypeId} {cs : List Value} {b : Bool} {p : List MemPlace} (ht : P.underlying t = some .bool) (h : DataW.trod enc P w base sp held fuel t cs = some (.lit (.bool b), p)) : cs = [.bool b] := by
 cases fuel with
 | zero => simp [DataW.trod] at h
 | succ fuel =>
  unfold DataW.trod at h
  rw [ht] at h
  split at h <;> simp_all
theorem str_of_trod {fuel : Nat} {t : TypeId} {cs : List Value} {s : ByteArray} {p : List MemPlace} (ht : P.underlying t = some .string) (h : DataW.trod enc P w base sp held fuel t cs = some (.lit (.string s.data.toList), p)) : cs = [.string s] := by
 cases fuel with
 | zero => simp [DataW.trod] at h
 | succ fuel =>
  unfold DataW.trod at h
  rw [ht] at h
  split at h
  all_goals first
   | (simp_all; done)
   | skip
  rename_i s' heq
  split at h
  ·simp only [Option.some.injEq, Prod.mk.injEq, DataW.lit.injEq, Lit.string.injEq] at h
   rw [ByteArray.ext (Array.ext' h.1)]
  ·cases h
end
def opData {H : Type} (x : OpInfo) : DataW H := .agg [.lit (.string x.Name.data.toList), .lit (.int .i64 x.Form), .lit (.bool x.ReadsA), .lit (.bool x.WritesA), .lit (.bool x.ReadsB), .lit (.bool x.MayTrap), .lit (.int .i64 x.Words)]
def opCells (x : OpInfo) : List Value := [.string x.Name, .int .i64 x.Form, .bool x.ReadsA, .bool x.WritesA, .bool x.ReadsB, .bool x.MayTrap, .int .i64 x.Words]
theorem cells3 : Tryd.prog.cellsOf 3 = 1 := by kernel_rfl
theorem cells4 : Tryd.prog.cellsOf 4 = 1 := by kernel_rfl
theorem cells9 : Tryd.prog.cellsOf 9 = 1 := by kernel_rfl
theorem cells113 : Tryd.prog.cellsOf 113 = 7 := by kernel_rfl
theorem gTab : Tryd.prog.globalNamed "fulling/machine.table" = some 0 := by kernel_rfl
theorem gTabType : (Tryd.prog.globals[0]?).map (·.type) = some 162 := by kernel_rfl
theorem list7 {α : Type} {l : List α} (h : l.length = 7) : ∃ a b c d e f g, l = [a, b, c, d, e, f, g] := by
 match l, h with
 | [a, b, c, d, e, f, g], _ => exact ⟨a, b, c, d, e, f, g, rfl⟩
section
variable {H : Type} {enc : TypeId × Value → H} {w : World} {base : Nat} {sp : Nat → Bool} {held : Bool}
theorem op_cells {fuel : Nat} {cs : List Value} {x : OpInfo} {p : List MemPlace} (h : DataW.trod enc Tryd.prog w base sp held fuel 113 cs = some (opData x, p)) : cs = opCells x := by
 obtain ⟨xs, n, _, hx, hl, hxl, hf⟩ := DataW.trod_struct Tryd.underlying113 h
 rw [cells113] at hl
 obtain ⟨c0, c1, c2, c3, c4, c5, c6, rfl⟩ := list7 hl
 obtain ⟨y0, y1, y2, y3, y4, y5, y6, rfl⟩ := list7 (by simpa using hxl)
 simp only [opData, Prod.mk.injEq, DataW.agg.injEq, List.map_cons, List.map_nil, List.cons.injEq, and_true] at hx
 obtain ⟨⟨e0, e1, e2, e3, e4, e5, e6⟩, _⟩ := hx
 have f0 : DataW.trod enc Tryd.prog w base sp held n 9 (([c0, c1, c2, c3, c4, c5, c6].drop 0).take (Tryd.prog.cellsOf 9)) = [y0, y1, y2, y3, y4, y5, y6][0]? := hf 0 _ rfl
 have f1 : DataW.trod enc Tryd.prog w base sp held n 3 (([c0, c1, c2, c3, c4, c5, c6].drop 1).take (Tryd.prog.cellsOf 3)) = [y0, y1, y2, y3, y4, y5, y6][1]? := hf 1 _ rfl
 have f2 : DataW.trod enc Tryd.prog w base sp held n 4 (([c0, c1, c2, c3, c4, c5, c6].drop 2).take (Tryd.prog.cellsOf 4)) = [y0, y1, y2, y3, y4, y5, y6][2]? := hf 2 _ rfl
 have f3 : DataW.trod enc Tryd.prog w base sp held n 4 (([c0, c1, c2, c3, c4, c5, c6].drop 3).take (Tryd.prog.cellsOf 4)) = [y0, y1, y2, y3, y4, y5, y6][3]? := hf 3 _ rfl
 have f4 : DataW.trod enc Tryd.prog w base sp held n 4 (([c0, c1, c2, c3, c4, c5, c6].drop 4).take (Tryd.prog.cellsOf 4)) = [y0, y1, y2, y3, y4, y5, y6][4]? := hf 4 _ rfl
 have f5 : DataW.trod enc Tryd.prog w base sp held n 4 (([c0, c1, c2, c3, c4, c5, c6].drop 5).take (Tryd.prog.cellsOf 4)) = [y0, y1, y2, y3, y4, y5, y6][5]? := hf 5 _ rfl
 have f6 : DataW.trod enc Tryd.prog w base sp held n 3 (([c0, c1, c2, c3, c4, c5, c6].drop 6).take (Tryd.prog.cellsOf 3)) = [y0, y1, y2, y3, y4, y5, y6][6]? := hf 6 _ rfl
 simp only [cells3, cells4, cells9, List.drop_zero, List.drop_succ_cons, List.take_succ_cons, List.take_zero, List.getElem?_cons_zero, List.getElem?_cons_succ] at f0 f1 f2 f3 f4 f5 f6
 have g0 := str_of_trod (p := y0.2) Tryd.underlying9 (f0.trans (by rw [e0]))
 have g1 := int_of_trod (p := y1.2) Tryd.underlying3 (f1.trans (by rw [e1]))
 have g2 := bool_of_trod (p := y2.2) Tryd.underlying4 (f2.trans (by rw [e2]))
 have g3 := bool_of_trod (p := y3.2) Tryd.underlying4 (f3.trans (by rw [e3]))
 have g4 := bool_of_trod (p := y4.2) Tryd.underlying4 (f4.trans (by rw [e4]))
 have g5 := bool_of_trod (p := y5.2) Tryd.underlying4 (f5.trans (by rw [e5]))
 have g6 := int_of_trod (p := y6.2) Tryd.underlying3 (f6.trans (by rw [e6]))
 simp only [List.cons.injEq, and_true] at g0 g1 g2 g3 g4 g5 g6
 rw [g0, g1, g2, g3, g4, g5, g6]; rfl
theorem op_arr (M : Fb) (w : World) (x : OpInfo) (j : Nat) (t : Ty) (h : (OpInfo.ty x)[j]? = some t) : ∃ v, (opCells x)[j]? = some v ∧ v.oneCell' = true ∧ t.holds M w v := by
 match j with
 | 0 => cases h; exact ⟨_, rfl, rfl, rfl⟩
 | 1 => cases h; exact ⟨_, rfl, rfl, rfl⟩
 | 2 => cases h; exact ⟨_, rfl, rfl, rfl⟩
 | 3 => cases h; exact ⟨_, rfl, rfl, rfl⟩
 | 4 => cases h; exact ⟨_, rfl, rfl, rfl⟩
 | 5 => cases h; exact ⟨_, rfl, rfl, rfl⟩
 | 6 => cases h; exact ⟨_, rfl, rfl, rfl⟩
 | j + 7 => simp [OpInfo.ty] at h
end
theorem laid_is : Rows.laid_fulling_machine_table (H := Unit) = .slice (tableL.map opData) [] := by kernel_rfl
theorem table_holds {W : World} (h : laidMetH Tryd.prog [("fulling/machine.table", Rows.laid_fulling_machine_table)] W) : Holds glob [] W := by
 have h1 : laidMet Tryd.prog [("fulling/machine.table", Rows.laid_fulling_machine_table)] W := h
 obtain ⟨ps, ⟨g, t, cs, fuel, p, q, hg, ht, hv, htr, _, _⟩, _, _⟩ := h1
 obtain rfl : g = 0 := (Option.some.inj (gTab.symm.trans hg)).symm
 obtain rfl : t = 162 := (Option.some.inj (gTabType.symm.trans ht)).symm
 rw [laid_is] at htr
 rcases DataW.trod_slice Tryd.underlying162 htr with ⟨_, hx⟩ | ⟨a, len, cap, elems, rest, n, _, hcs, hx, _, hl, hm, hlen, hel, _⟩
 ·cases hx
 simp only [Prod.mk.injEq, DataW.slice.injEq] at hx
 obtain ⟨⟨he, _⟩, _⟩ := hx
 have hll : tableL.length = len := by rw [← hlen]; simpa using congrArg List.length he
 have hcell : W.cell? ⟨0, 0, none⟩ = some (.slice (some a) len cap) := by
  have := World.var?_cell gTab hv 0
  rw [this]
  have : cs[0]? = cs.toList[0]? := by simp
  rw [this, hcs]; rfl
 refine ⟨fun it hi => (by cases hi), .nil, fun g t hgt => ?_⟩
 simp only [glob, List.mem_singleton, Prod.mk.injEq] at hgt
 obtain ⟨rfl, rfl⟩ := hgt
 intro j T hT
 match j with
 | j + 1 => simp at hT
 | 0 =>
  cases hT
  refine ⟨foot_nil _, _, by rw [add_zero]; exact hcell, rfl, some a, cap, by simp [hll], by simpa [hll] using hl, fun i es hi => ?_⟩
  simp only [List.getElem?_map, Option.map_eq_some_iff] at hi
  obtain ⟨x, hx, rfl⟩ := hi
  have hil : i < len := by rw [← hll]; exact (List.getElem?_eq_some_iff.1 hx).1
  have hE := hel i hil
  rw [cells113] at hE
  have hy : (elems.map (·.1))[i]? = some (opData x) := by rw [← he]; simp [hx]
  rw [List.getElem?_map] at hy
  obtain ⟨y, hy1, hy2⟩ := Option.map_eq_some_iff.1 hy
  rw [hy1] at hE
  obtain ⟨c, hc1, hc2⟩ := Option.bind_eq_some_iff.1 hE
  obtain ⟨_, hc3, hc4⟩ := World.cells?_some hc1
  have hcc : c = opCells x := op_cells (p := y.2) (by rw [hc2, ← hy2])
  refine ⟨rfl, a, rfl, fun j T hT => ⟨foot_nil _, ?_⟩⟩
  obtain ⟨v, hv1, hv2, hv3⟩ := op_arr (foot []) W x j T hT
  have hj : j < 7 := (List.getElem?_eq_some_iff.1 hv1).1
  exact ⟨v, by rw [hc4 j hj, hcc]; exact hv1, hv2, hv3⟩
theorem kept_of_le {W W' : World} (h : Le (foot ([] ++ [])) W (foot ([] ++ [])) W') (may : MemPlace → Prop) : W.keptBut W' may := by
 have hb : ∀ b, b < W.heap.size → W'.heap[b]? = W.heap[b]? := fun b hb => (h.block b hb (foot_nil b)).2
 refine ⟨h.os, h.output, fun i hi => ?_⟩
 rw [hb i hi]
 split <;> simp_all
theorem frozen_of_le {W W' : World} (h : Le (foot ([] ++ [])) W (foot ([] ++ [])) W') (b o : Nat) (hb : b < W.heap.size) : W'.frozen? ⟨b, o, none⟩ = W.frozen? ⟨b, o, none⟩ := by
 simp only [World.frozen?, (h.block b hb (foot_nil b)).2]
section
variable {H : Type} {enc : TypeId × Value → H} {P : Program}
theorem post_kept {f : Func} {s : ChangeSpec} {apart fresh handsOn again : Bool} {W W' : World} {args : Array Value} {v : Value} {ds gs : List (DataW H)} {before pa pv : List MemPlace}
  (hW : DataW.Whole enc P f.params.toList s.vars apart W args.toList ds gs before)
  (hres : ∀ (b : Nat) (sp : Nat → Bool) (hd : Bool), DataW.TrodAll enc P W' b sp hd f.resultTypes.toList (v.resultList f.resultTypes.size) (s.fn H (ds ++ gs)).results [])
  (hargs : ∀ sp : Nat → Bool, (∀ p ∈ before, sp p.block = true) → DataW.TrodAll enc P W' 0 sp true f.params.toList args.toList (s.fn H (ds ++ gs)).args pa)
  (hvars : ∀ sp : Nat → Bool, (∀ p ∈ before, sp p.block = true) → DataW.TrodVars enc P W' sp s.vars (s.fn H (ds ++ gs)).vars pv)
  (hps : before = pa ++ pv) (hle : Le (foot ([] ++ [])) W (foot ([] ++ [])) W')
  (hok : ∀ (j : Nat) (t : TypeId) (r : Value), f.resultTypes[j]? = some t → (v.resultList f.resultTypes.size)[j]? = some r → Value.okWide P W' .any 0 t r) :
  s.post enc P f apart fresh handsOn again W args v W' := by
 have hlt : ∀ p, p ∈ before → p.block < W.heap.size := fun p hp => hW.lt p hp
 refine ⟨ds, gs, before, [], pa, pv, hW, hres _ _ _, hargs _ (fun p hp => decide_eq_true (hlt p hp)), hvars _ (fun p hp => decide_eq_true (hlt p hp)), kept_of_le hle _, fun _ => ?_⟩
 obtain ⟨_, _, _, _, _, hz, hn⟩ := hW
 have he : [] ++ pa ++ pv = before := by rw [List.nil_append]; exact hps.symm
 refine ⟨hok, _, _, [] ++ pa ++ pv, ⟨[] ++ pa, pv, trodAll_append (hargs _ (fun _ _ => rfl)) (hres _ _ _), hvars _ (fun _ _ => rfl), rfl, ?_, ?_⟩, ?_⟩
 ·intro b off hp
  rw [he] at hp
  rw [frozen_of_le hle b off (hlt _ hp)]
  exact hz b off hp
 ·intro ha
  rw [he]; exact hn ha
 ·intro p hp _
  rw [he] at hp; exact hp
end
end Go.Proofs.YtocfnpnnbmicmaaDoor.Tc
end
section
namespace Go.Proofs.YtocfnpnnbmicmaaDoor.Tc
open Go
abbrev lA := @does_loadBA
abbrev iR := @does_indexR
abbrev lR := @does_loadR1
abbrev aS := @does_assign
abbrev sR := @doesO_storeR
abbrev oA := @doesO_alloc
abbrev bS := @does_buildSlice
abbrev oP := @doesO_append
abbrev oq_ := @doesO_call0
abbrev oB := @doesO_box
abbrev kB := @okC_block
abbrev zP := @okL_split
abbrev kR := @okC_region
abbrev xN := @okX_next
abbrev kS := @okC_seq
abbrev zN := @okL_nil
abbrev kK := @okC_skip
abbrev xB := @okX_block_normal
abbrev xR := @okX_then_ret
abbrev kT := @okC_ret
abbrev xI := @okX_items
abbrev pA := @part_agg
abbrev pq_ := @part_one
abbrev xq_ := @okX_ret1
abbrev xE := @okX_again_exit
abbrev xT := @okX_then_exit
abbrev kE := @okC_exit
abbrev xH := @okX_block_hit
abbrev dE := @does_eql
abbrev dN := @does_neq
abbrev dL := @does_lss
abbrev dQ := @does_leq
abbrev dT := @does_gtr
abbrev dG := @does_geq
abbrev dA := @does_add
abbrev dS := @does_sub
abbrev dU := @does_mul
abbrev dX := @does_extract
abbrev dO := @does_not
abbrev dM := @does_move
abbrev dK := @does_nilCheck
abbrev u_2 := @Tryd.underlying2
abbrev u_3 := @Tryd.underlying3
abbrev u_22 := @Tryd.underlying22
abbrev u_25 := @Tryd.underlying25
abbrev u_27 := @Tryd.underlying27
abbrev u_31 := @Tryd.underlying31
abbrev u_38 := @Tryd.underlying38
abbrev u_41 := @Tryd.underlying41
abbrev u_43 := @Tryd.underlying43
abbrev u_46 := @Tryd.underlying46
abbrev u_48 := @Tryd.underlying48
abbrev u_53 := @Tryd.underlying53
abbrev u_56 := @Tryd.underlying56
abbrev u_89 := @Tryd.underlying89
abbrev u_93 := @Tryd.underlying93
abbrev u_103 := @Tryd.underlying103
abbrev u_113 := @Tryd.underlying113
abbrev u_137 := @Tryd.underlying137
abbrev u_138 := @Tryd.underlying138
abbrev u_156 := @Tryd.underlying156
abbrev u_162 := @Tryd.underlying162
abbrev z_2 := @Tryd.sizeOf2
abbrev z_3 := @Tryd.sizeOf3
abbrev z_4 := @Tryd.sizeOf4
abbrev z_9 := @Tryd.sizeOf9
abbrev z_25 := @Tryd.sizeOf25
abbrev z_27 := @Tryd.sizeOf27
abbrev z_31 := @Tryd.sizeOf31
abbrev z_41 := @Tryd.sizeOf41
abbrev z_43 := @Tryd.sizeOf43
abbrev z_46 := @Tryd.sizeOf46
abbrev z_48 := @Tryd.sizeOf48
abbrev z_53 := @Tryd.sizeOf53
abbrev z_93 := @Tryd.sizeOf93
abbrev z_113 := @Tryd.sizeOf113
abbrev z_137 := @Tryd.sizeOf137
abbrev a_2 := @Tryd.isAgg2
abbrev a_3 := @Tryd.isAgg3
abbrev a_4 := @Tryd.isAgg4
abbrev a_9 := @Tryd.isAgg9
abbrev a_25 := @Tryd.isAgg25
abbrev a_27 := @Tryd.isAgg27
abbrev a_31 := @Tryd.isAgg31
abbrev a_41 := @Tryd.isAgg41
abbrev a_43 := @Tryd.isAgg43
abbrev a_46 := @Tryd.isAgg46
abbrev a_48 := @Tryd.isAgg48
abbrev a_53 := @Tryd.isAgg53
abbrev a_93 := @Tryd.isAgg93
abbrev a_113 := @Tryd.isAgg113
abbrev a_137 := @Tryd.isAgg137
abbrev a_162 := @Tryd.isAgg162
abbrev v_27 := @Tryd.zeroValue27
abbrev v_43 := @Tryd.zeroValue43
abbrev v_46 := @Tryd.zeroValue46
abbrev v_48 := @Tryd.zeroValue48
abbrev v_103 := @Tryd.zeroValue103
abbrev v_113 := @Tryd.zeroValue113
abbrev k_3 := @Tryd.call3
abbrev k_22 := @Tryd.call22
abbrev k_23 := @Tryd.call23
abbrev k_24 := @Tryd.call24
abbrev k_25 := @Tryd.call25
abbrev k_26 := @Tryd.call26
abbrev k_27 := @Tryd.call27
abbrev k_28 := @Tryd.call28
abbrev k_29 := @Tryd.call29
abbrev k_40 := @Tryd.call40
abbrev k_57 := @Tryd.call57
abbrev k_63 := @Tryd.call63
abbrev k_64 := @Tryd.call64
abbrev k_65 := @Tryd.call65
abbrev k_66 := @Tryd.call66
abbrev k_67 := @Tryd.call67
abbrev k_68 := @Tryd.call68
abbrev k_69 := @Tryd.call69
abbrev k_70 := @Tryd.call70
abbrev k_71 := @Tryd.call71
abbrev k_72 := @Tryd.call72
abbrev k_73 := @Tryd.call73
abbrev k_74 := @Tryd.call74
abbrev k_75 := @Tryd.call75
abbrev k_76 := @Tryd.call76
abbrev k_81 := @Tryd.call81
abbrev k_82 := @Tryd.call82
abbrev k_95 := @Tryd.call95
abbrev k_96 := @Tryd.call96
abbrev k_99 := @Tryd.call99
abbrev k_101 := @Tryd.call101
abbrev k_102 := @Tryd.call102
abbrev k_103 := @Tryd.call103
abbrev k_104 := @Tryd.call104
abbrev k_105 := @Tryd.call105
abbrev k_106 := @Tryd.call106
abbrev k_119 := @Tryd.call119
abbrev k_120 := @Tryd.call120
abbrev k_121 := @Tryd.call121
abbrev k_122 := @Tryd.call122
abbrev k_123 := @Tryd.call123
abbrev k_124 := @Tryd.call124
abbrev k_126 := @Tryd.call126
abbrev k_127 := @Tryd.call127
abbrev k_128 := @Tryd.call128
abbrev k_132 := @Tryd.call132
abbrev S113 (x : OpInfo) : List Ty := [(tS x.Name), (tI x.Form), (tB x.ReadsA), (tB x.WritesA), (tB x.ReadsB), (tB x.MayTrap), (tI x.Words)]
abbrev S48 (x : VInstr) : List Ty := [(tI x.Instr.Op), (tI x.Instr.A), (tI x.Instr.B), (tI x.Instr.C), (tI x.Instr.N), (tL 1 lI x.Args)]
abbrev S43 (x : Block) : List Ty := [(tL 6 VInstr.ty x.Instrs), (tI x.End), (tI x.Reg), (tI x.Target), (tI x.Else)]
abbrev S56 (x : Outcome) : List Ty := [(tI x.Kind), (tI x.Code), (tL 1 lI x.Out), (tI x.Value)]
abbrev S27 (x : VFunc) : List Ty := [(tI x.Params), (tI x.Regs), (tL 5 Block.ty x.Blocks)]
abbrev S46 (x : Instr) : List Ty := [(tI x.Op), (tI x.A), (tI x.B), (tI x.C), (tI x.N)]
section
variable {κ : Kx} {Q : Exit → Act → World → Prop} {Γ : Cx} {L : List Item} {l : List Oper} {ops : Array Oper}
theorem xm {X : Type} {I : X → Prop} {G : X → Cx} {Lf : X → List Item} (x : X) (hx : I x) (hc : Cov Γ (G x) := by repeat (first | exact cn | refine cc rfl ?_)) (hL : L = Lf x := by rfl) : OkX κ (Exit.then (Meet κ I G Lf) Q) .normal Γ L := okX_meet x hx hc hL
theorem nx {y : Code} (h : OkC κ y Q Γ L) : OkL κ ops (Exit.then (y.wp κ.P Q) Q) [] Γ L := okL_nil (okX_next h)
theorem nsr {id : Nat} {l : List Oper} {z : Code} (h : OkL κ l.toArray (Exit.then (z.wp κ.P Q) Q) l Γ L) : OkL κ ops (Exit.then ((Code.seq (.region id l.toArray false) z).wp κ.P Q) Q) [] Γ L := okL_nil (okX_next (okC_seq (okC_region h)))
theorem sr {id : Nat} {l : List Oper} {z : Code} (h : OkL κ l.toArray (Exit.then (z.wp κ.P Q) Q) l Γ L) : OkC κ (.seq (.region id l.toArray false) z) Q Γ L := okC_seq (okC_region h)
theorem drL {id : Nat} (m : Nat) (hs : Hs) (cs : List Nat) (hops : DrawOps κ l hs Γ ⟨L, L, []⟩ 0 (l.take m) hs)
  (h : Chain κ l hs Γ ⟨L, L, []⟩ (fun Γc L' => OkL κ l.toArray Q (l.drop m) (zipH (Γc ++ Γ) hs) L') cs.length cs [] L)
  (hm : κ.P.follows .mixedOrders = true := by exact mixed) (hml : hs.length = m := by rfl) (hd : dstOk hs l = true := by rfl) (hnd : nodupB ((l.take m).filterMap (·.dst)) = true := by kernel_rfl) (hΓ : Γ.all (fun p => !((l.take m).filterMap (·.dst)).contains p.1) = true := by rfl) (hn : ((l.take m).filterMap (·.dst)).all (fun d => Nat.blt d κ.n) = true := by kernel_rfl)
  (hcs : noneAt hs 0 = cs := by rfl) (hcn : nodupB cs = true := by rfl) (hcm : cs.all (fun p => Nat.blt p m) = true := by rfl)
  (hfwd : (List.range m).all (fun i => ((l[i]?).map (fun o => o.after.toList.all (fun e => !Region.binds .any e || Nat.blt e.on i))).getD true) = true := by kernel_rfl)
  (hwait : m = l.length ∨ (Region.sinkB .any l.toArray m = true ∧ Region.chainB .any l.toArray m = true) := by first | exact .inl rfl | exact .inr ⟨by kernel_rfl, by kernel_rfl⟩) (hle : Nat.ble m l.length = true := by kernel_rfl)
  (htail : Region.seqB .any l.toArray (l.length - m) m (Array.replicate m true ++ Array.replicate (l.length - m) false) = true := by kernel_rfl) : OkC κ (.region id l.toArray true) Q Γ L :=
 okC_draw m hs ⟨L, L, []⟩ cs hm hml hd hnd hΓ hn hcs hcn hcm (fun _ h => h) (fun _ h => h) rfl hfwd hwait hle htail hops h
theorem drE {id : Nat} (m : Nat) (hs : Hs) (late : List Item) (qs : List Nat) (cs : List Nat) (hlate : ∀ it, it ∈ late → it ∈ L) (hops : DrawOps κ l hs Γ ⟨late, L, qs⟩ 0 (l.take m) hs)
  (h : Chain κ l hs Γ ⟨late, L, qs⟩ (fun Γc L' => OkL κ l.toArray Q (l.drop m) (zipH (Γc ++ Γ) hs) L') cs.length cs [] L)
  (hm : κ.P.follows .mixedOrders = true := by exact mixed) (hml : hs.length = m := by rfl) (hd : dstOk hs l = true := by rfl) (hnd : nodupB ((l.take m).filterMap (·.dst)) = true := by kernel_rfl) (hΓ : Γ.all (fun p => !((l.take m).filterMap (·.dst)).contains p.1) = true := by rfl) (hn : ((l.take m).filterMap (·.dst)).all (fun d => Nat.blt d κ.n) = true := by kernel_rfl)
  (hcs : noneAt hs 0 = cs := by rfl) (hcn : nodupB cs = true := by rfl) (hcm : cs.all (fun p => Nat.blt p m) = true := by rfl) (hqs : qs.all (fun q => cs.contains q) = true := by rfl)
  (hfwd : (List.range m).all (fun i => ((l[i]?).map (fun o => o.after.toList.all (fun e => !Region.binds .any e || Nat.blt e.on i))).getD true) = true := by kernel_rfl)
  (hwait : m = l.length ∨ (Region.sinkB .any l.toArray m = true ∧ Region.chainB .any l.toArray m = true) := by first | exact .inl rfl | exact .inr ⟨by kernel_rfl, by kernel_rfl⟩) (hle : Nat.ble m l.length = true := by kernel_rfl)
  (htail : Region.seqB .any l.toArray (l.length - m) m (Array.replicate m true ++ Array.replicate (l.length - m) false) = true := by kernel_rfl) : OkC κ (.region id l.toArray true) Q Γ L :=
 okC_draw m hs ⟨late, L, qs⟩ cs hm hml hd hnd hΓ hn hcs hcn hcm hlate (fun _ h => h) hqs hfwd hwait hle htail hops h
theorem zS {d : Nat} {op : Op} {ty : TypeId} {pos : String} {after : Array Edge} {T : Ty} {rest : List Oper} (hD : Does κ ⟨some d, op, ty, pos, after, none⟩ Γ L T) (h : OkL κ ops Q rest ((d, T) :: Γ) L) (hn : Nat.blt d κ.n = true := by rfl) : OkL κ ops Q (⟨some d, op, ty, pos, after, none⟩ :: rest) Γ L := okL_step d T rfl hn hD h
theorem zO {d : Nat} {op : Op} {ty : TypeId} {pos : String} {after : Array Edge} {rest : List Oper} (h : DoesO κ ⟨some d, op, ty, pos, after, none⟩ Γ L (fun T L' => OkL κ ops Q rest ((d, T) :: Γ) L')) (hn : Nat.blt d κ.n = true := by rfl) : OkL κ ops Q (⟨some d, op, ty, pos, after, none⟩ :: rest) Γ L := okL_stepO d rfl hn h
theorem zG {d dj j : Nat} {want b : Bool} {op : Op} {ty : TypeId} {pos : String} {after : Array Edge} {T : Ty} {rest : List Oper} (hw : b = want) (hD : Does κ ⟨some d, op, ty, pos, after, some (j, want)⟩ Γ L T) (h : OkL κ ops Q rest ((d, T) :: Γ) L) (hj : (ops[j]?).bind (·.dst) = some dj := by rfl) (hb : Γ.look dj = some (tB b) := by rfl) (hn : Nat.blt d κ.n = true := by rfl) : OkL κ ops Q (⟨some d, op, ty, pos, after, some (j, want)⟩ :: rest) Γ L := okL_guard d T dj b hj hb hw rfl hn hD h
theorem zK {d dj j : Nat} {want b : Bool} {op : Op} {ty : TypeId} {pos : String} {after : Array Edge} {rest : List Oper} (hw : b = !want) (h : OkL κ ops Q rest ((d, Ty.val undef) :: Γ) L) (hj : (ops[j]?).bind (·.dst) = some dj := by rfl) (hb : Γ.look dj = some (tB b) := by rfl) (hn : Nat.blt d κ.n = true := by rfl) : OkL κ ops Q (⟨some d, op, ty, pos, after, some (j, want)⟩ :: rest) Γ L := okL_skip d dj b hj hb hw rfl hn h
theorem zU {d dj j : Nat} {want : Bool} {op : Op} {ty : TypeId} {pos : String} {after : Array Edge} {rest : List Oper} (h : OkL κ ops Q rest ((d, Ty.val undef) :: Γ) L) (hj : (ops[j]?).bind (·.dst) = some dj := by rfl) (hb : Γ.look dj = some (Ty.val undef) := by rfl) (hn : Nat.blt d κ.n = true := by rfl) : OkL κ ops Q (⟨some d, op, ty, pos, after, some (j, want)⟩ :: rest) Γ L := okL_skipU d dj hj hb rfl hn h
theorem zT {z : Bool} (n d : Nat) (h : OkL κ ops (Exit.then (Meet κ (fun x : Bool => x = z) (fun x => (d, tB x) :: Γ) (fun _ => L)) Q) (l.take n) Γ L) (hy : OkL κ ops Q (l.drop n) ((d, tB z) :: Γ) L) : OkL κ ops Q l Γ L := okL_meet n _ _ _ _ rfl h (fun x hx => by subst hx; exact hy)
theorem zV {z : Bool} (n d : Nat) (h : OkL κ ops (Exit.then (Meet κ (fun x : Bool => z = x) (fun x => (d, tB x) :: Γ) (fun _ => L)) Q) (l.take n) Γ L) (hy : OkL κ ops Q (l.drop n) ((d, tB z) :: Γ) L) : OkL κ ops Q l Γ L := okL_meet n _ _ _ _ rfl h (fun x hx => by subst hx; exact hy)
theorem zC {c : Operand} {x y : Code} {b : Bool} (ht : b = true → OkC κ x Q Γ L) (hf : b = false → OkC κ y Q Γ L) (hb : opTy Γ c = some (tB b) := by rfl) : OkC κ (.cond c x y) Q Γ L := okC_cond hb ht hf
theorem cva {Γ Γ' : Cx} (h : Cov Γ Γ' := by repeat (first | exact cn | refine cc rfl ?_)) : Cov Γ Γ' := h
theorem xa {X : Type} {I : Nat → X → Prop} {G : X → Cx} {Lf : X → List Item} {k : Nat} (x : X) (hx : I k x) (hc : Cov Γ (G x) := by repeat (first | exact cn | refine cc rfl ?_)) (hL : L = Lf x := by rfl) : OkX κ (Exit.then (Again κ I G Lf (k + 1)) Q) .normal Γ L := okX_again k (Nat.lt_succ_self k) x hx hc hL
section
variable {hs : Hs} {Z : Two} {k : Nat} {os : List Oper} {r : Hs} {T : Ty} {d : Nat} {op : Op} {ty : TypeId} {pos : String} {after : Array Edge} {x : Operand} {gd : Option (Nat × Bool)}
theorem dm (hx : opTy (ctxOf hs Γ after.toList) x = some T) (hr : DrawOps κ l hs Γ Z (k + 1) os r) : DrawOps κ l hs Γ Z k (⟨some d, .move x, ty, pos, after, none⟩ :: os) (some (d, T) :: r) := dc (p := (d, T)) (draw_plain rfl (does_move hx)) hr
theorem dp (h : Does κ ⟨some d, op, ty, pos, after, none⟩ (ctxOf hs Γ after.toList) Z.late T) (hr : DrawOps κ l hs Γ Z (k + 1) os r) : DrawOps κ l hs Γ Z k (⟨some d, op, ty, pos, after, none⟩ :: os) (some (d, T) :: r) := dc (p := (d, T)) (draw_plain rfl h) hr
theorem dq (h : Does κ ⟨some d, op, ty, pos, after, none⟩ (ctxOf hs Γ after.toList) Z.early T) (hr : DrawOps κ l hs Γ Z (k + 1) os r) (he : isEarly l Z k = true := by kernel_rfl) : DrawOps κ l hs Γ Z k (⟨some d, op, ty, pos, after, none⟩ :: os) (some (d, T) :: r) := de (p := (d, T)) he (draw_plain rfl h) hr
theorem dn1 (h : DrawOp κ l hs Γ Z.late ⟨some d, op, ty, pos, after, gd⟩ T) (hr : DrawOps κ l hs Γ Z (k + 1) os r) : DrawOps κ l hs Γ Z k (⟨some d, op, ty, pos, after, gd⟩ :: os) (some (d, T) :: r) := dc (p := (d, T)) h hr
end
end
abbrev tN : Ty := Ty.val (.slice none 0 0)
abbrev sN : Value := .slice none 0 0
abbrev tZ : Ty := tI 0
abbrev sZ : Value := .int .i64 0
inductive Ovr : List Ty → Nat → List Ty → List Ty → Prop
 | nil (ts : List Ty) : Ovr ts 0 [] ts
 | put {a p : Ty} {ts ps ts' : List Ty} (h : Ovr ts 0 ps ts') : Ovr (a :: ts) 0 (p :: ps) (p :: ts')
 | skip {a : Ty} {ts ps ts' : List Ty} {o : Nat} (h : Ovr ts o ps ts') : Ovr (a :: ts) (o + 1) ps (a :: ts')
theorem Ovr.eq {ts ps ts' : List Ty} {o : Nat} (h : Ovr ts o ps ts') : ts' = over ts o ps ∧ o + ps.length ≤ ts.length := by
 induction h with
 | nil ts => exact ⟨by simp [over], by simp⟩
 | put h ih => refine ⟨?_, by have := ih.2; simp; omega⟩; rw [ih.1]; simp [over]
 | skip h ih => refine ⟨?_, by have := ih.2; simp; omega⟩; rw [ih.1]; simp [over, Nat.add_right_comm]
inductive SetL (Z : Item) : Nat → List Item → List Item → Prop
 | z {a : Item} {L : List Item} : SetL Z 0 (a :: L) (Z :: L)
 | s {a : Item} {n : Nat} {L L' : List Item} (h : SetL Z n L L') : SetL Z (n + 1) (a :: L) (a :: L')
theorem SetL.eq {Z : Item} {n : Nat} {L L' : List Item} (h : SetL Z n L L') : L' = L.set n Z := by
 induction h with
 | z => rfl
 | s h ih => rw [ih]; rfl
inductive DelL : Nat → List Item → List Item → Prop
 | z {a : Item} {L : List Item} : DelL 0 (a :: L) L
 | s {a : Item} {n : Nat} {L L' : List Item} (h : DelL n L L') : DelL (n + 1) (a :: L) (a :: L')
theorem DelL.perm {n : Nat} {L L' : List Item} (h : DelL n L L') : ∃ it, L.Perm (it :: L') := by
 induction h with
 | z => exact ⟨_, List.Perm.refl _⟩
 | s h ih => obtain ⟨it, ih⟩ := ih; exact ⟨it, (ih.cons _).trans (List.Perm.swap _ _ _)⟩
section
variable {κ : Kx} {Q : Exit → Act → World → Prop} {Γ : Cx} {L L' : List Item} {ops : Array Oper} {rest : List Oper} {ty : TypeId} {pos : String} {after : Array Edge}
theorem zB {t e : TypeId} {x y : Operand} {g o k : Nat} {ts ps ts' : List Ty} {T : Ty} (n : Nat) (hp : PartTy T ps) (hsz : ∀ w, (sizeOf t).run κ.P w = .ok k w) (h : OkL κ ops Q rest Γ L') (hx : opTy Γ x = some (pAt g o) := by rfl) (hy : opTy Γ y = some T := by rfl) (hk : ps.length = k := by rfl) (hi : L[n]? = some (Item.blk g e ts) := by rfl)
  (ho : Ovr ts o ps ts' := by repeat (first | exact .nil _ | apply Ovr.put | apply Ovr.skip)) (hL : SetL (Item.blk g e ts') n L L' := by repeat (first | exact .z | apply SetL.s)) : OkL κ ops Q (⟨none, .store t x y, ty, pos, after, none⟩ :: rest) Γ L :=
 okL_stepU rfl (doesO_storeB n ts' L' hx hy hp (by rw [hk]; exact hsz) hi (Nat.ble_eq_true_of_le ho.eq.2) ho.eq.1 hL.eq h)
theorem zR {α : Type} {f : α → List Ty} {l : List α} {sz k : Nat} {v : Value} {e t' : TypeId} {m : Int} {x y : Operand} {ps : List Ty} {T : Ty} {y0 : α} (n o : Nat) (hidx : idx l m = some y0) (y1 : α) (hp : PartTy T ps) (hsz : ∀ w, (sizeOf t').run κ.P w = .ok k w) (h : OkL κ ops Q rest Γ L') (hi : L[n]? = some (rowL v e sz f l) := by rfl)
  (hx : opTy Γ x = some (Ty.rptr v (m.toNat * sz + o)) := by rfl) (hy : opTy Γ y = some T := by rfl) (hk : ps.length = k := by rfl) (hf1 : (f y1).length = sz := by rfl) (hf : f y1 = over (f y0) o ps := by rfl) (hfit : Nat.ble (o + ps.length) sz = true := by rfl) (hL : SetL (rowL v e sz f (l.set m.toNat y1)) n L L' := by repeat (first | exact .z | apply SetL.s)) :
  OkL κ ops Q (⟨none, .store t' x y, ty, pos, after, none⟩ :: rest) Γ L :=
 okL_stepU rfl (doesO_storeR n o y0 y1 (l.set m.toNat y1) L' hx hy hp (by rw [hk]; exact hsz) hi hidx hf1 hf hfit rfl hL.eq h)
theorem xD {x : Exit} (n : Nat) (h : OkX κ Q x Γ L') (hL : DelL n L L' := by repeat (first | exact .z | apply DelL.s)) : OkX κ Q x Γ L := by
 obtain ⟨it, hp⟩ := hL.perm
 exact okX_items [it] L' hp h
theorem zF {α : Type} {f : α → List Ty} {l m r : List α} {s x : Operand} {v z : Value} {e t : TypeId} {d sz bytes : Nat} (n : Nat) (hE : ElTy κ.P t e z sz bytes) (hr : app bytes l m = some r) (h : ∀ v', OkL κ ops Q rest ((d, Ty.own v') :: Γ) (L.set n (rowL v' e sz f r)))
  (hs : opTy Γ s = some (Ty.own v) := by rfl) (hi : L[n]? = some (rowL v e sz f l) := by rfl) (hx : opTy Γ x = some (tL sz f m) := by rfl) (hn : Nat.blt d κ.n = true := by rfl) : OkL κ ops Q (⟨some d, .call ⟨.builtin .append, #[s, x], #[t, t]⟩, ty, pos, after, none⟩ :: rest) Γ L :=
 okL_stepO d rfl hn (doesO_append hE n r (fun v' => L.set n (rowL v' e sz f r)) hr hs hi hx (fun _ => rfl) h)
theorem sl {Z : Item} {n : Nat} {l : List Oper} (h : OkL κ ops Q l Γ L') (hL : SetL Z n L L' := by repeat (first | exact .z | apply SetL.s)) : OkL κ ops Q l Γ (L.set n Z) := hL.eq ▸ h
theorem zA {d : Nat} {x : Operand} {T : Ty} (h : OkL κ ops Q rest ((d, T) :: Γ) L) (hx : opTy Γ x = some T := by rfl) (hn : Nat.blt d κ.n = true := by rfl) : OkL κ ops Q (⟨some d, .assign x, ty, pos, after, none⟩ :: rest) Γ L := okL_step d T rfl hn (does_assign hx) h
theorem zI {d : Nat} {x : Operand} {T : Ty} (h : OkL κ ops Q rest ((d, T) :: Γ) L) (hx : opTy Γ x = some T := by rfl) (hn : Nat.blt d κ.n = true := by rfl) : OkL κ ops Q (⟨some d, .move x, ty, pos, after, none⟩ :: rest) Γ L := okL_step d T rfl hn (does_move hx) h
end
section
variable {κ : Kx} {Γ : Cx} {L : List Item} {dst : Option Nat} {ty : TypeId} {pos : String} {after : Array Edge} {gd : Option (Nat × Bool)}
theorem fB {s : TypeId} {x : Operand} {f g o : Nat} {fs : Array Field} {fl : Field} {k : Nat} (o' : Nat) (hu : κ.P.underlying s = some (.struct fs)) (hk : ∀ w, (sizeOf fl.type).run κ.P w = .ok (k + 1) w) (hf : fs[f]? = some fl := by rfl) (hx : opTy Γ x = some (pAt g o) := by rfl) (ho : o' = o + fl.offset := by rfl) : Does κ ⟨dst, .fieldAddr s x f, ty, pos, after, gd⟩ Γ L (pAt g o') := does_fieldAddrP o' hu hf hk hx ho
theorem lC {t e : TypeId} {x : Operand} {g o : Nat} {ts : List Ty} {T : Ty} (hag : ∀ w, (isAgg t).run κ.P w = .ok false w) (n : Nat) (hx : opTy Γ x = some (pAt g o) := by rfl) (hi : L[n]? = some (Item.blk g e ts) := by rfl) (hT : ts[o]? = some T := by rfl) : Does κ ⟨dst, .load t x, ty, pos, after, gd⟩ Γ L T := does_loadB1 hag hx n hi hT
theorem iX {α : Type} {sz : Nat} {f : α → List Ty} {l : List α} {t e : TypeId} {x i : Operand} {k : IntKind} {n : Int} {y : α} (hu : κ.P.underlying t = some (.slice e)) (hsz : ∀ w, (sizeOf e).run κ.P w = .ok sz w) (hidx : idx l n = some y) (hx : opTy Γ x = some (tL sz f l) := by rfl) (hi : opTy Γ i = some (tK k n) := by rfl) : Does κ ⟨dst, .indexAddr t x i, ty, pos, after, gd⟩ Γ L (Ty.ptr (f y)) := does_index y hu hsz hidx hx hi
theorem lV {t : TypeId} {x : Operand} {T : Ty} {ts : List Ty} (hag : ∀ w, (isAgg t).run κ.P w = .ok false w) (hx : opTy Γ x = some (Ty.ptr (T :: ts)) := by rfl) : Does κ ⟨dst, .load t x, ty, pos, after, gd⟩ Γ L T := does_load1 hag hx
theorem cQ {fo : Operand} {xs : Array Operand} {tys : Array TypeId} {f : FuncId} {Bs : List Ty} {T : Ty} (hC : CallP κ.P κ.gl f Bs T) (hc : ∀ args w, (callFunc f args).run κ.P w = .ok (.enter f args) w) (hf : opTy Γ fo = some (Ty.val (.func (.func f) #[] #[])) := by rfl) (hx : xs.toList.map (opTy Γ) = Bs.map some := by rfl) : Does κ ⟨dst, .call ⟨.value fo, xs, tys⟩, ty, pos, after, gd⟩ Γ L T := does_call0 hC hf hc hx
theorem pU {c x y : Operand} {T : Ty} {b : Bool} (hb : b = true) (hc : opTy Γ c = some (tB b) := by rfl) (hx : opTy Γ x = some T := by rfl) : Does κ ⟨dst, .pick c x y, ty, pos, after, gd⟩ Γ L T := does_pick_t b hc hb hx
theorem pG {c x y : Operand} {T : Ty} {b : Bool} (hb : b = false) (hc : opTy Γ c = some (tB b) := by rfl) (hx : opTy Γ y = some T := by rfl) : Does κ ⟨dst, .pick c x y, ty, pos, after, gd⟩ Γ L T := does_pick_f b hc hb hx
theorem lM {α : Type} {sz : Nat} {f : α → List Ty} {l : List α} {t e : TypeId} {x : Operand} {tys : Array TypeId} (hu : κ.P.underlying t = some (.slice e)) (h0 : tys[0]? = some t := by rfl) (hx : opTy Γ x = some (tL sz f l) := by rfl) : Does κ ⟨dst, .call ⟨.builtin .len, #[x], tys⟩, ty, pos, after, gd⟩ Γ L (tI (l.length : Int)) := does_len h0 hu hx
end
end Go.Proofs.YtocfnpnnbmicmaaDoor.Tc
end
section
set_option linter.unusedVariables false
set_option linter.unusedSimpArgs false
namespace Go.Proofs.YtocfnpnnbmicmaaDoor.Tc
open Go Go.RowKit
theorem map_idx {α β : Type} {l : List α} (g : α → β) {m : Int} {p : α} (h : idx l m = some p) : idx (l.map g) m = some (g p) := by
 obtain ⟨h0, h1, h2⟩ := idx_some h
 unfold idx; rw [if_pos h0, List.getElem?_map, h2]; rfl
section
variable {κ : Kx} {Q : Post} {Γ : Cx} {L R : List Item} {ops : Array Oper} {rest : List Oper}
end
section
variable {κ : Kx} {Γ : Cx} {L : List Item} {dst : Option Nat} {ty : TypeId} {pos : String} {after : Array Edge} {gd : Option (Nat × Bool)}
end
end Go.Proofs.YtocfnpnnbmicmaaDoor.Tc
end
section
set_option linter.unusedVariables false
namespace Go.Proofs.YtocfnpnnbmicmaaDoor.Tc
open Go Go.RowKit
abbrev a_56 := @Tryd.isAgg56
abbrev v_119 := @Tryd.zeroValue119
abbrev k_39 := @Tryd.call39
abbrev k_41 := @Tryd.call41
abbrev k_42 := @Tryd.call42
abbrev k_43 := @Tryd.call43
abbrev k_44 := @Tryd.call44
abbrev k_83 := @Tryd.call83
abbrev u_119 := @Tryd.underlying119
abbrev z_38 := @Tryd.sizeOf38
abbrev z_56 := @Tryd.sizeOf56
abbrev z_117 := @Tryd.sizeOf117
abbrev a_38 := @Tryd.isAgg38
abbrev a_117 := @Tryd.isAgg117
abbrev v_56 := @Tryd.zeroValue56
abbrev k_84 := @Tryd.call84
abbrev k_107 := @Tryd.call107
abbrev k_108 := @Tryd.call108
abbrev k_109 := @Tryd.call109
abbrev k_129 := @Tryd.call129
abbrev k_130 := @Tryd.call130
abbrev k_131 := @Tryd.call131
section
variable {κ : Kx} {Q : Post} {Γ : Cx} {L : List Item} {ops : Array Oper} {rest : List Oper}
theorem Sat.matR0 {β : Type} {a : Act} {w : World} (e sz : Nat) (f : β → List Ty) (s : Sat κ Γ L a w) : Sat κ Γ (rowsL ([] : List Value) e sz f [] :: L) a w := by
 have hle : Le (foot L) w (foot (rowsL ([] : List Value) e sz f [] :: L)) w := Le.of_iff w fun b hb => by
  rcases (foot_cons _ _ b).1 hb with ⟨u, hu, _⟩ | q
  ·simp at hu
  ·exact q
 refine ⟨s.defers, s.size, ⟨fun it hi => ?_, List.pairwise_cons.2 ⟨fun it hi b ⟨u, hu, _⟩ => by simp at hu, s.holds.apart⟩, fun g t hg => (s.holds.glob g t hg).mono hle⟩, s.le.trans hle, s.env.le hle⟩
 rcases List.mem_cons.1 hi with rfl | hi
 ·exact ⟨rfl, fun i u ess hu => by simp at hu, List.Pairwise.nil⟩
 ·exact it.stable (s.holds.each it hi) (fun _ _ _ => rfl) hle
theorem okL_matR0 {β : Type} (e sz : Nat) (f : β → List Ty) (h : OkL κ ops Q rest Γ (rowsL ([] : List Value) e sz f [] :: L)) : OkL κ ops Q rest Γ L := fun a w s => h a w (s.matR0 e sz f)
theorem app_len {b : Nat} {β : Type} {us : List Value} {ls r : List (List β)} {l : List β} {u : Value} (hl : us.length = ls.length) (h : app b ls [l] = some r) : app b us [u] = some (us ++ [u]) := by
 unfold app at h ⊢
 rw [hl]
 split at h
 ·rename_i hc; exact if_pos hc
 ·cases h
theorem app_eqn {b : Nat} {β : Type} {ls r : List (List β)} {l : List β} (h : app b ls [l] = some r) : r = ls ++ [l] := by
 unfold app at h
 split at h
 ·exact (Option.some.inj h).symm
 ·cases h
theorem okL_pushR {β : Type} {e sz b : Nat} {f : β → List Ty} {us : List Value} {ls r : List (List β)} {l : List β} {u : Value} {R : List Item} (ha : app b ls [l] = some r) (hL : L.Perm (rowL u e sz f l :: rowsL us e sz f ls :: R)) (h : OkL κ ops Q rest Γ (rowsL (us ++ [u]) e sz f r :: R)) : OkL κ ops Q rest Γ L := fun a w s => by
 rw [app_eqn ha] at h
 have s1 := s.perm hL
 have e1 : us.length = ls.length := rows_len 1 rfl s1
 have he : ∀ {α : Type} (l : List α) (x : α), (l ++ [x]).eraseIdx l.length = l := fun l x => by
  apply List.ext_getElem?; intro j
  rw [List.getElem?_eraseIdx]
  by_cases hj : j < l.length
  ·rw [if_pos hj, List.getElem?_append_left hj]
  ·rw [if_neg hj, List.getElem?_eq_none (by simp; omega), List.getElem?_eq_none (by omega)]
 have hi : ∀ {α : Type} (l : List α) (x : α), idx (l ++ [x]) (l.length : Int) = some x := fun l x => by
  unfold idx; rw [if_pos (by omega)]; simp
 have hs : ∀ {α : Type} (l : List α) (x : α), (l ++ [x]).set l.length x = l ++ [x] := fun l x => by simp
 have := Sat.closeR (κ := κ) (Γ := Γ) (R := R) (us := us ++ [u]) (e := e) (sz := sz) (f := f) (ls := ls ++ [l]) (m := (ls.length : Int)) (y := l) (y' := l) (u := u) (u' := u)
  (hi _ _) (by rw [← e1]; exact hi _ _) (L := rowL u e sz f l :: rowsL us e sz f ls :: R) (by
   rw [Int.toNat_natCast, he, ← e1, he]) s1
 rw [Int.toNat_natCast, hs, ← e1, hs] at this
 exact h a w this
theorem okL_guardO {dst : Option Nat} {op : Op} {ty : TypeId} {pos : String} {after : Array Edge} {j : Nat} {want : Bool} (d : Nat) (dj : Nat) (b : Bool) (hj : (ops[j]?).bind (·.dst) = some dj) (hb : Γ.look dj = some (tB b)) (hw : b = want)
  (hd : dst = some d) (hn : Nat.blt d κ.n = true) (h : DoesO κ ⟨dst, op, ty, pos, after, some (j, want)⟩ Γ L (fun T L' => OkL κ ops Q rest ((d, T) :: Γ) L')) : OkL κ ops Q (⟨dst, op, ty, pos, after, some (j, want)⟩ :: rest) Γ L := fun a w s => by
 subst hd hw
 refine wpList_step fun K hK => ?_
 rw [if_pos (by rw [wanted_of s rfl dj hj hb]; simp)]
 exact h a w s K Q fun v w' T L' h1 h2 h3 h4 => hK _ _ (h4 _ _ (s.put d T v (Nat.lt_of_succ_le (Nat.le_of_ble_eq_true hn)) h1 h2 h3))
def fP (p : VFunc × Option Value) : List Ty := [tI p.1.Params, tI p.1.Regs, p.2.elim (tL 5 Block.ty p.1.Blocks) Ty.own]
abbrev pN (x : VFunc) : VFunc × Option Value := (x, none)
theorem set_self {α : Type} {l : List α} {n : Nat} {x : α} (h : l[n]? = some x) : l.set n x = l := by
 apply List.ext_getElem?; intro j
 rw [List.getElem?_set]
 split
 ·rename_i hj; subst hj; rw [h]; split <;> simp_all
 ·rfl
theorem rowP_eq (v : Value) (l : List VFunc) : rowL v 27 3 fP (l.map pN) = rowL v 27 3 VFunc.ty l := by
 unfold rowL; rw [List.map_map]; rfl
theorem okL_rowP {v : Value} {l : List VFunc} (n : Nat) (L' : List Item) (hi : L[n]? = some (rowL v 27 3 VFunc.ty l)) (hL : L' = L.set n (rowL v 27 3 fP (l.map pN))) (h : OkL κ ops Q rest Γ L') : OkL κ ops Q rest Γ L := by
 rw [hL, rowP_eq, set_self hi] at h; exact h
theorem idx_setS {α : Type} {l : List α} {m : Int} {y x : α} (h : idx l m = some y) : idx (l.set m.toNat x) m = some x := by
 obtain ⟨h0, h1, h2⟩ := idx_some h
 have : m.toNat < l.length := (List.getElem?_eq_some_iff.1 h2).1
 unfold idx; rw [if_pos h0, List.getElem?_set_self this]
theorem Sat.meltP {a : Act} {w : World} {v u : Value} {l : List VFunc} {bs : List Block} {m : Int} {y : VFunc} (hy : idx l m = some y) {R : List Item} (hL : L.Perm (rowL u 43 5 Block.ty bs :: rowL v 27 3 fP ((l.map pN).set m.toNat (y, some u)) :: R)) (s0 : Sat κ Γ L a w) :
  Sat κ Γ (rowL v 27 3 VFunc.ty (l.set m.toNat ⟨y.Params, y.Regs, bs⟩) :: R) a w := by
 have s := s0.perm hL
 obtain ⟨h0, _, h2⟩ := idx_some hy
 have hml : m.toNat < l.length := (List.getElem?_eq_some_iff.1 h2).1
 have hap := List.pairwise_cons.1 s.holds.apart
 have hap2 := List.pairwise_cons.1 hap.2
 have hle : Le (foot (rowL u 43 5 Block.ty bs :: rowL v 27 3 fP ((l.map pN).set m.toNat (y, some u)) :: R)) w (foot (rowL v 27 3 VFunc.ty (l.set m.toNat ⟨y.Params, y.Regs, bs⟩) :: R)) w := Le.of_iff w fun b hb => by
  rcases (foot_cons _ _ b).1 hb with q | q
  ·exact (foot_cons _ _ b).2 (.inr ((foot_cons _ _ b).2 (.inl q)))
  ·exact (foot_cons _ _ b).2 (.inr ((foot_cons _ _ b).2 (.inr q)))
 have hout : RowAt v 27 3 (((l.map pN).set m.toNat (y, some u)).map fP) (foot (rowL u 43 5 Block.ty bs :: rowL v 27 3 fP ((l.map pN).set m.toNat (y, some u)) :: R)) w := s.holds.each (rowL v 27 3 fP ((l.map pN).set m.toNat (y, some u))) (by simp)
 have hin : RowAt u 43 5 (bs.map Block.ty) (foot (rowL u 43 5 Block.ty bs :: rowL v 27 3 fP ((l.map pN).set m.toNat (y, some u)) :: R)) w := s.holds.each (rowL u 43 5 Block.ty bs) (by simp)
 have hrow : RowAt v 27 3 ((l.set m.toNat ⟨y.Params, y.Regs, bs⟩).map VFunc.ty) (foot (rowL v 27 3 VFunc.ty (l.set m.toNat ⟨y.Params, y.Regs, bs⟩) :: R)) w := by
  rcases hout with ⟨rfl, hz⟩ | ⟨g, cap, cur, rfl, hg, h1, h2', h3, h4⟩
  ·have : l = [] := by simpa using hz
   subst this; simp at hml
  ·refine .inr ⟨g, cap, cur, by simp, hg, by simpa using h1, h2', h3, fun i es hi => ?_⟩
   by_cases him : i = m.toNat
   ·subst him
    have he : es = [tI y.Params, tI y.Regs, tL 5 Block.ty bs] := by
     simp only [List.getElem?_map, List.getElem?_set_self hml, Option.map_some, Option.some.injEq] at hi
     exact hi.symm
    subst he
    obtain ⟨_, h6⟩ := h4 m.toNat (fP (y, some u)) (by simp [hml])
    refine ⟨rfl, fun j T hT => ?_⟩
    match j with
    | 0 => obtain ⟨u', hu, hu1, hu2⟩ := h6 0 _ rfl; cases hT; exact ⟨u', hu, hu1, hu2⟩
    | 1 => obtain ⟨u', hu, hu1, hu2⟩ := h6 1 _ rfl; cases hT; exact ⟨u', hu, hu1, hu2⟩
    | 2 =>
     cases hT
     obtain ⟨u', hu, hu1, hu2⟩ := h6 2 (Ty.own u) rfl
     have hu3 : u' = u := hu2.1
     subst hu3
     refine ⟨u', hu, hu1, row_slice (e := 43) hin hle fun b hb hf => ?_⟩
     obtain ⟨it, hit, hf⟩ := hf
     rcases List.mem_cons.1 hit with rfl | hit
     ·exact hap.1 (rowL (.slice (some ⟨g, 0, none⟩) (((l.map pN).set m.toNat (y, some u')).map fP).length cap) 27 3 fP ((l.map pN).set m.toNat (y, some u'))) (by simp) b hb (by simpa [Item.row] using hf)
     ·exact hap.1 it (List.mem_cons_of_mem _ hit) b hb hf
    | j + 3 => simp at hT
   ·simp only [List.getElem?_map, List.getElem?_set_ne (Ne.symm him), Option.map_eq_some_iff] at hi
    obtain ⟨x, hx, rfl⟩ := hi
    obtain ⟨_, h6⟩ := h4 i (fP (x, none)) (by simp [List.getElem?_set_ne (Ne.symm him), hx])
    refine ⟨rfl, fun j T hT => ?_⟩
    match j with
    | 0 => obtain ⟨u', hu, hu1, hu2⟩ := h6 0 _ rfl; cases hT; exact ⟨u', hu, hu1, hu2⟩
    | 1 => obtain ⟨u', hu, hu1, hu2⟩ := h6 1 _ rfl; cases hT; exact ⟨u', hu, hu1, hu2⟩
    | 2 => obtain ⟨u', hu, hu1, hu2⟩ := h6 2 _ rfl; cases hT; exact ⟨u', hu, hu1, (tL 5 Block.ty x.Blocks).mono hu2 hle⟩
    | j + 3 => simp [VFunc.ty] at hT
 refine ⟨s.defers, s.size, ⟨fun it hi => ?_, List.pairwise_cons.2 ⟨fun it hi b hb hb' => hap2.1 it hi b hb hb', hap2.2⟩, fun g t hg => (s.holds.glob g t hg).mono hle⟩, s.le.trans hle, s.env.le hle⟩
 rcases List.mem_cons.1 hi with rfl | hi
 ·exact hrow
 ·exact it.stable (s.holds.each it (List.mem_cons_of_mem _ (List.mem_cons_of_mem _ hi))) (fun _ _ _ => rfl) hle
theorem okL_publishP {v u : Value} {l : List VFunc} {bs : List Block} {m : Int} {y : VFunc} {R : List Item} (hy : idx l m = some y) (hL : L.Perm (rowL u 43 5 Block.ty bs :: rowL v 27 3 fP ((l.map pN).set m.toNat (y, some u)) :: R)) (h : OkL κ ops Q rest Γ (rowL v 27 3 VFunc.ty (l.set m.toNat ⟨y.Params, y.Regs, bs⟩) :: R)) : OkL κ ops Q rest Γ L := fun a w s => h a w (s.meltP hy hL)
end
end Go.Proofs.YtocfnpnnbmicmaaDoor.Tc
end
section
set_option linter.unusedVariables false
set_option maxRecDepth 8000
set_option maxHeartbeats 4000000
namespace Go.Proofs.YtocfnpnnbmicmaaDoor.Tc
open Go Go.RowKit
def keep_Pick  (a0 : Int) (a1 : Int) : Option Int :=
 (guardO (a1 != 0) (Option.bind (cnd (decide ((Int.tmod a0 a1) < 0)) (some (w64 ((Int.tmod a0 a1) + a1))) (some (Int.tmod a0 a1))) (fun s2 => (some s2))))
theorem c_keep_Pick  (a0 : Int) (a1 : Int) (r : Int) (h : keep_Pick  a0 a1 = some r) : CallP Tryd.prog glob 29 [(tI a0), (tI a1)] (tI r) := by
 refine call_of_code Tryd.func29 rfl Tryd.ntmps29 rfl (fun L w => ?_); change OkC _ _ _ [(0, (tI a0)), (1, (tI a1))] (L); unfold keep_Pick at h; refine sr (zA (nsr (zI (zI ?_)))); obtain ⟨hg1, h⟩ := gs h; refine zS (does_rem (ne0 hg1) rfl rfl) ?_; refine zA (nx ?_); obtain ⟨z4, h6, hz5⟩ := bs h; refine okC_meet (X := Int) (fun x => z4 = x) (fun x => [(0, (tI x))]) (fun x => L) ?_ ?_
 ·refine sr (zI (zS dL (nx ?_))); refine zC (fun hb7 => ?_) (fun hb7 => ?_)
  ·replace h6 := ct hb7 h6; exact kR (zI (zI (zS dA (zA (zN (xm (w64 ((Int.tmod a0 a1) + a1)) (smh h6)))))))
  replace h6 := cf hb7 h6; exact kK (xm (Int.tmod a0 a1) (smh h6))
 intro s2 hx; obtain rfl : s2 = z4 := hx.symm; replace h := hz5; refine sr (zI (zA (nx (kT ?_)))); obtain rfl := (smh h).symm; exact xq_ () Tryd.results29 rfl rfl
def ref32_Contains_l1 (K : Nat) (a0 : (List Int)) (a1 : Int) : Nat → Int → Option (Unit ⊕ Bool)
 | 0, _ => none
 | k + 1, s6 => (cnd (decide (s6 < ((a0).length : Int))) (Option.bind (idx a0 s6) (fun y9 => (cnd (y9 == a1) (out (some true)) (ref32_Contains_l1 K a0 a1 k (w64 (s6 + 1)))))) (inn ()))
def ref32_Contains (K : Nat) (a0 : (List Int)) (a1 : Int) : Option Bool :=
 (sq (ref32_Contains_l1 K a0 a1 K 0) (fun s1 => (some false)))
theorem c_ref32_Contains (K : Nat) (a0 : (List Int)) (a1 : Int) (r : Bool) (h : ref32_Contains K a0 a1 = some r) : CallP Tryd.prog glob 40 [(tL 1 lI a0), (tI a1)] (tB r) := by
 refine call_of_code Tryd.func40 rfl Tryd.ntmps40 rfl (fun L w => ?_); change OkC _ _ _ [(0, (tL 1 lI a0)), (1, (tI a1))] (L); unfold ref32_Contains at h; refine sr (zA (nx (kS (sr (zA (nx ?_)))))); obtain ⟨z3, h5, hz4⟩ := sqs h; refine okC_meetE (X := Unit) (fun x => z3 = .inl x) (fun x => []) (fun x => L) ?_ ?_
 ·refine kB ?_; refine okC_loop (X := Int) (fun k x => ref32_Contains_l1 K a0 a1 k x = some z3) (fun x => [(0, (tL 1 lI a0)), (1, (tI a1)), (5, (tI x))]) (fun x => L) K 0 h5 cva rfl (fun k s6 hI => ?_)
  cases k with
  | zero => exact (nz hI).elim
  | succ k =>
  have h := (ref32_Contains_l1.eq_2 ..).symm.trans hI; refine kS (sr (zI (zI (zS (lM u_31) (zS dL (nx ?_)))))); refine zC (fun hb8 => ?_) (fun hb8 => ?_)
  ·replace h := ct hb8 h; refine kK (xN (kS (kB (sr (zI (zI ?_)))))); obtain ⟨y9, hi10, h⟩ := bs h; refine zS (iX u_31 z_3 hi10) (zS (lV a_3) (zI (zS dE (nx ?_)))); refine zC (fun hb11 => ?_) (fun hb11 => ?_)
   ·replace h := ct hb11 h; refine sr (zA (nx (kT ?_))); refine okX_block_ret ?_; refine xR ?_; refine okX_again_ret ?_; refine okX_block_ret ?_; refine okX_meet_ret ?_; replace h := outh h hz4; refine xR ?_; obtain rfl := (smh h).symm; exact xq_ () Tryd.results40 rfl rfl
   replace h := cf hb11 h; exact kK (xB (xN (kR (zI (zS dA (zA (zN (xa (w64 (s6 + 1)) h))))))))
  replace h := cf hb8 h; exact kE (xT (xE (xH (xm () (innh h)))))
 intro s1 hx; have hx : z3 = .inl s1 := hx; subst hx; replace h := hz4; refine xN (sr (zA (nx (kT ?_)))); obtain rfl := (smh h).symm; exact xq_ () Tryd.results40 rfl rfl
def liveness_set_list_l2 (K : Nat) (a0 : (List Int)) (s6 : (Int × (List Int))) : Nat → (Int × (List Int)) → Option (List Int)
 | 0, _ => none
 | k + 1, s14 => (Option.bind (idx a0 s6.1) (fun y16 => (cnd ((bShr .u64 y16 (u64 s14.1)) != 0) (Option.bind (Option.bind (idx a0 s6.1) (fun y24 => (cnd ((bAnd .u64 (bShr .u64 y24 (u64 s14.1)) 1) == 1) (Option.bind (app 8 s14.2 ([(w64 ((w64 (64 * s6.1)) + s14.1))] : List Int)) (fun l27 => (some l27))) (some s14.2)))) (fun s19 => (liveness_set_list_l2 K a0 s6 k ((w64 (s14.1 + 1)), s19)))) (some s14.2))))
def liveness_set_list_l1 (K : Nat) (a0 : (List Int)) : Nat → (Int × (List Int)) → Option (List Int)
 | 0, _ => none
 | k + 1, s6 => (cnd (decide (s6.1 < ((a0).length : Int))) (Option.bind (liveness_set_list_l2 K a0 s6 K (0, s6.2)) (fun s9 => (liveness_set_list_l1 K a0 k ((w64 (s6.1 + 1)), s9)))) (some s6.2))
def liveness_set_list (K : Nat) (a0 : (List Int)) : Option (List Int) :=
 (Option.bind (liveness_set_list_l1 K a0 K (0, ([] : List Int))) (fun s1 => (some s1)))
theorem c_liveness_set_list (K : Nat) (a0 : (List Int)) (r : (List Int)) (h : liveness_set_list K a0 = some r) : CallOk Tryd.prog glob 65 [(tL 1 lU a0)] [] Value (fun x : Value => ((Ty.own x), [rowL x 3 1 lI r])) := by
 refine call_of_code Tryd.func65 rfl Tryd.ntmps65 rfl (fun L w => ?_); change OkC _ _ _ [(0, (tL 1 lU a0))] (L); unfold liveness_set_list at h; refine sr (zA (nsr (zA (nx (kS (sr (zI ?_))))))); refine zS (lM u_93) (zI (nx ?_)); refine okC_nilrow (sz := 1) lI 3 3 rfl ?_; obtain ⟨z3, h5, hz4⟩ := bs h; refine okC_meetE (X := ((List Int) × Value)) (fun x => z3 = x.1) (fun x => [(3, (Ty.own x.2))]) (fun x => rowL x.2 3 1 lI x.1 :: L) ?_ ?_
 ·refine kB ?_; refine okC_loop (X := ((Int × (List Int)) × Value)) (fun k x => liveness_set_list_l1 K a0 k x.1 = some z3) (fun x => [(0, (tL 1 lU a0)), (3, (Ty.own x.2)), (7, (tI ((a0).length : Int))), (8, (tI x.1.1))]) (fun x => rowL x.2 3 1 lI x.1.2 :: L) K ((0, ([] : List Int)), sN) h5 cva rfl (fun k x hI => ?_); obtain ⟨s6, w7⟩ := x
  cases k with
  | zero => exact (nz hI).elim
  | succ k =>
  have h := (liveness_set_list_l1.eq_2 ..).symm.trans hI; refine sr (zS dL (nx (kS ?_))); refine zC (fun hb8 => ?_) (fun hb8 => ?_)
  ·replace h := ct hb8 h; refine kK (xN (kS (kB (sr (zI (zA (nsr ?_))))))); refine zA (nx ?_); obtain ⟨z11, h13, hz12⟩ := bs h; refine okC_meetE (X := ((List Int) × Value)) (fun x => z11 = x.1) (fun x => [(0, (tL 1 lU a0)), (3, (Ty.own x.2)), (7, (tI ((a0).length : Int))), (8, (tI s6.1))]) (fun x => rowL x.2 3 1 lI x.1 :: L) ?_ ?_
   ·refine kB ?_; refine okC_loop (X := ((Int × (List Int)) × Value)) (fun k x => liveness_set_list_l2 K a0 s6 k x.1 = some z11) (fun x => [(0, (tL 1 lU a0)), (3, (Ty.own x.2)), (4, (tI s6.1)), (5, (tI x.1.1)), (7, (tI ((a0).length : Int))), (8, (tI s6.1))]) (fun x => rowL x.2 3 1 lI x.1.2 :: L) K ((0, s6.2), w7) h13 cva rfl (fun k x hI => ?_); obtain ⟨s14, w15⟩ := x
    cases k with
    | zero => exact (nz hI).elim
    | succ k =>
    have h := (liveness_set_list_l2.eq_2 ..).symm.trans hI; refine kS (sr (zI (zI ?_))); obtain ⟨y16, hi17, h⟩ := bs h; refine zS (iX u_93 z_137 hi17) (zS (lV a_137) (zI ?_)); refine zS (does_convert u_3 u_138 rfl) ?_; refine zS (does_shr (wrap_u64_nonneg _) rfl rfl) ?_; refine zS dN (nx ?_); refine zC (fun hb18 => ?_) (fun hb18 => ?_)
    ·replace h := ct hb18 h; refine kK (xN ?_); obtain ⟨z21, h23, hz22⟩ := bs h; refine okC_meet (X := ((List Int) × Value)) (fun x => z21 = x.1) (fun x => [(0, (tL 1 lU a0)), (3, (Ty.own x.2)), (4, (tI s6.1)), (5, (tI s14.1)), (7, (tI ((a0).length : Int))), (8, (tI s6.1))]) (fun x => rowL x.2 3 1 lI x.1 :: L) ?_ ?_
     ·refine kB (sr (zI (zI ?_))); obtain ⟨y24, hi25, h23⟩ := bs h23; refine zS (iX u_93 z_137 hi25) (zS (lV a_137) (zI ?_)); refine zS (does_convert u_3 u_138 rfl) ?_; refine zS (does_shr (wrap_u64_nonneg _) rfl rfl) ?_; refine zS (does_and rfl rfl) ?_; refine zS dE (nx ?_); refine zC (fun hb26 => ?_) (fun hb26 => ?_)
      ·replace h23 := ct hb26 h23; refine kR (zI (zI (zS dU (zI (zS dA ?_))))); refine zS (bS (f := lI) ([(w64 ((w64 (64 * s6.1)) + s14.1))] : List Int) [(tI (w64 ((w64 (64 * s6.1)) + s14.1)))] el31 rfl rfl rfl (fc [(tI (w64 ((w64 (64 * s6.1)) + s14.1)))] 0 rfl (pq_ (one_i _)) rfl rfl (fn_ rfl)) rfl (fun _ => rfl)) ?_; obtain ⟨l27, ha28, h23⟩ := bs h23; refine zF 0 el31 ha28 (fun v29 => sl ?_); exact zA (zN (xB (xm (l27, v29) (smh h23))))
      replace h23 := cf hb26 h23; exact kK (xB (xm (s14.2, w15) (smh h23)))
     intro x hx; obtain ⟨s19, w20⟩ := x; obtain rfl : s19 = z21 := hx.symm; replace h := hz22; exact kR (zI (zS dA (zA (zN (xa (((w64 (s14.1 + 1)), s19), w20) h)))))
    replace h := cf hb18 h; exact kE (xT (xE (xH (xm (s14.2, w15) (smh h)))))
   intro x hx; obtain ⟨s9, w10⟩ := x; obtain rfl : s9 = z11 := hx.symm; replace h := hz12; exact xB (xN (kR (zS dA (zI (zN (xa (((w64 (s6.1 + 1)), s9), w10) h))))))
  replace h := cf hb8 h; exact kE (xT (xE (xH (xm (s6.2, w7) (smh h)))))
 intro x hx; obtain ⟨s1, w2⟩ := x; obtain rfl : s1 = z3 := hx.symm; replace h := hz4; refine xN (sr (zI (zA (nx (kT ?_))))); obtain rfl := (smh h).symm; exact xq_ w2 Tryd.results65 rfl rfl
theorem d_liveness_set_list (K : Nat) (a0 : (List Int)) (r : (List Int)) (h : liveness_set_list K a0 = some r) : CallP Tryd.prog glob 65 [(tL 1 lU a0)] (tL 1 lI r) := callP_of_own (c_liveness_set_list K a0 r h)
def ref22_SameInts_l1 (K : Nat) (a0 : (List Int)) (a1 : (List Int)) : Nat → Int → Option (Unit ⊕ Bool)
 | 0, _ => none
 | k + 1, s7 => (cnd (decide (s7 < ((a0).length : Int))) (Option.bind (idx a0 s7) (fun y10 => (Option.bind (idx a1 s7) (fun y12 => (cnd (y10 != y12) (out (some false)) (ref22_SameInts_l1 K a0 a1 k (w64 (s7 + 1)))))))) (inn ()))
def ref22_SameInts (K : Nat) (a0 : (List Int)) (a1 : (List Int)) : Option Bool :=
 (cnd (((a0).length : Int) != ((a1).length : Int)) (some false) (sq (ref22_SameInts_l1 K a0 a1 K 0) (fun s2 => (some true))))
theorem c_ref22_SameInts (K : Nat) (a0 : (List Int)) (a1 : (List Int)) (r : Bool) (h : ref22_SameInts K a0 a1 = some r) : CallP Tryd.prog glob 26 [(tL 1 lI a0), (tL 1 lI a1)] (tB r) := by
 refine call_of_code Tryd.func26 rfl Tryd.ntmps26 rfl (fun L w => ?_); change OkC _ _ _ [(0, (tL 1 lI a0)), (1, (tL 1 lI a1))] (L); unfold ref22_SameInts at h; refine sr (zA (nx (kS (sr (zI (zS (lM u_31) (zI ?_))))))); refine zS (lM u_31) (zS dN (nx ?_)); refine zC (fun hb1 => ?_) (fun hb1 => ?_)
 ·replace h := ct hb1 h; refine sr (zA (nx (kT (xR ?_)))); obtain rfl := (smh h).symm; exact xq_ () Tryd.results26 rfl rfl
 replace h := cf hb1 h; refine kK (xN (kS (sr (zA (nx ?_))))); obtain ⟨z4, h6, hz5⟩ := sqs h; refine okC_meetE (X := Unit) (fun x => z4 = .inl x) (fun x => []) (fun x => L) ?_ ?_
 ·refine kB ?_; refine okC_loop (X := Int) (fun k x => ref22_SameInts_l1 K a0 a1 k x = some z4) (fun x => [(0, (tL 1 lI a0)), (1, (tL 1 lI a1)), (5, (tI x))]) (fun x => L) K 0 h6 cva rfl (fun k s7 hI => ?_)
  cases k with
  | zero => exact (nz hI).elim
  | succ k =>
  have h := (ref22_SameInts_l1.eq_2 ..).symm.trans hI; refine kS (sr (zI (zI (zS (lM u_31) (zS dL (nx ?_)))))); refine zC (fun hb9 => ?_) (fun hb9 => ?_)
  ·replace h := ct hb9 h; refine kK (xN (kS (kB (kS ?_)))); refine okC_cov [(0, (tL 1 lI a0)), (1, (tL 1 lI a1)), (5, (tI s7))] cva ?_; obtain ⟨y10, hi11, h⟩ := bs h; obtain ⟨y12, hi13, h⟩ := bs h; refine drL 8 _ [] (dm rfl (dm rfl (dp (iX u_31 z_3 hi11) (dp (lV a_3) (dm rfl (dm rfl (dp (iX u_31 z_3 hi13) (dp (lV a_3) (dn))))))))) ?_; refine ch_end ?_; refine zS dN (nx ?_); refine zC (fun hb14 => ?_) (fun hb14 => ?_)
   ·replace h := ct hb14 h; refine sr (zA (nx (kT ?_))); refine okX_block_ret ?_; refine xR ?_; refine okX_again_ret ?_; refine okX_block_ret ?_; refine okX_meet_ret ?_; replace h := outh h hz5; refine xR ?_; obtain rfl := (smh h).symm; exact xq_ () Tryd.results26 rfl rfl
   replace h := cf hb14 h; exact kK (xB (xN (kR (zI (zS dA (zA (zN (xa (w64 (s7 + 1)) h))))))))
  replace h := cf hb9 h; exact kE (xT (xE (xH (xm () (innh h)))))
 intro s2 hx; have hx : z4 = .inl s2 := hx; subst hx; replace h := hz5; refine xN (sr (zA (nx (kT ?_)))); obtain rfl := (smh h).symm; exact xq_ () Tryd.results26 rfl rfl
def keep_Word  (a0 : Int) (a1 : Int) : Option Int :=
 (Option.bind (keep_Pick a0 24) (fun r1 => (cnd (decide (r1 < 10)) (Option.bind (idx ([0, 1, (-1), 2, (-9223372036854775808), 9223372036854775807, 4294967296, (-2147483648), 63, 64] : List Int) r1) (fun y4 => (some y4))) (cnd (decide (r1 < 22)) (Option.bind (keep_Pick (w64 (Int.tdiv a0 24)) 17) (fun r7 => (some (w64 (r7 - 6))))) (some a1)))))
theorem c_keep_Word  (a0 : Int) (a1 : Int) (r : Int) (h : keep_Word  a0 a1 = some r) : CallP Tryd.prog glob 75 [(tI a0), (tI a1)] (tI r) := by
 refine call_of_code Tryd.func75 rfl Tryd.ntmps75 rfl (fun L w => ?_); change OkC _ _ _ [(0, (tI a0)), (1, (tI a1))] (L); unfold keep_Word at h; refine sr (zA (nsr ?_)); refine zS (bS (f := lI) ([0, 1, (-1), 2, (-9223372036854775808), 9223372036854775807, 4294967296, (-2147483648), 63, 64] : List Int) [tZ, (tI 1), (tI (-1)), (tI 2), (tI (-9223372036854775808)), (tI 9223372036854775807), (tI 4294967296), (tI (-2147483648)), (tI 63), (tI 64)] el53 rfl rfl rfl (fc [tZ] 0 rfl (pq_ (one_i _)) rfl rfl (fc [(tI 1)] 1 rfl (pq_ (one_i _)) rfl rfl (fc [(tI (-1))] 2 rfl (pq_ (one_i _)) rfl rfl (fc [(tI 2)] 3 rfl (pq_ (one_i _)) rfl rfl (fc [(tI (-9223372036854775808))] 4 rfl (pq_ (one_i _)) rfl rfl (fc [(tI 9223372036854775807)] 5 rfl (pq_ (one_i _)) rfl rfl (fc [(tI 4294967296)] 6 rfl (pq_ (one_i _)) rfl rfl (fc [(tI (-2147483648))] 7 rfl (pq_ (one_i _)) rfl rfl (fc [(tI 63)] 8 rfl (pq_ (one_i _)) rfl rfl (fc [(tI 64)] 9 rfl (pq_ (one_i _)) rfl rfl (fn_ rfl))))))))))) rfl (fun _ => rfl)) ?_; refine zA (nsr (zI ?_)); obtain ⟨r1, hc2, h⟩ := bs h; refine zS (cQ (c_keep_Pick a0 24 r1 hc2) k_29) (zA (nx (kS (kB (sr (zI (zS dL ?_))))))); refine zA (nx ?_); refine zC (fun hb3 => ?_) (fun hb3 => ?_)
 ·replace h := ct hb3 h; refine sr (zI (zI ?_)); obtain ⟨y4, hi5, h⟩ := bs h; refine zS (iX u_53 z_2 hi5) (zS (lV a_2) (zA (nx (kT ?_)))); refine okX_block_ret ?_; refine xR ?_; obtain rfl := (smh h).symm; exact xq_ () Tryd.results75 rfl rfl
 replace h := cf hb3 h; refine sr (zI (zS dL (zA (nx ?_)))); refine zC (fun hb6 => ?_) (fun hb6 => ?_)
 ·replace h := ct hb6 h; refine sr (zI ?_); refine zS (does_quo (by decide) rfl rfl) ?_; obtain ⟨r7, hc8, h⟩ := bs h; refine zS (cQ (c_keep_Pick (w64 (Int.tdiv a0 24)) 17 r7 hc8) k_29) (zS dS (zA (nx (kT ?_)))); refine okX_block_ret ?_; refine xR ?_; obtain rfl := (smh h).symm; exact xq_ () Tryd.results75 rfl rfl
 replace h := cf hb6 h; refine kK (xB (xN (sr (zI (zA (nx (kT ?_))))))); obtain rfl := (smh h).symm; exact xq_ () Tryd.results75 rfl rfl
def ref32_SameInts_l1 (K : Nat) (a0 : (List Int)) (a1 : (List Int)) : Nat → Int → Option (Unit ⊕ Bool)
 | 0, _ => none
 | k + 1, s7 => (cnd (decide (s7 < ((a0).length : Int))) (Option.bind (idx a0 s7) (fun y10 => (Option.bind (idx a1 s7) (fun y12 => (cnd (y10 != y12) (out (some false)) (ref32_SameInts_l1 K a0 a1 k (w64 (s7 + 1)))))))) (inn ()))
def ref32_SameInts (K : Nat) (a0 : (List Int)) (a1 : (List Int)) : Option Bool :=
 (cnd (((a0).length : Int) != ((a1).length : Int)) (some false) (sq (ref32_SameInts_l1 K a0 a1 K 0) (fun s2 => (some true))))
theorem c_ref32_SameInts (K : Nat) (a0 : (List Int)) (a1 : (List Int)) (r : Bool) (h : ref32_SameInts K a0 a1 = some r) : CallP Tryd.prog glob 69 [(tL 1 lI a0), (tL 1 lI a1)] (tB r) := by
 refine call_of_code Tryd.func69 rfl Tryd.ntmps69 rfl (fun L w => ?_); change OkC _ _ _ [(0, (tL 1 lI a0)), (1, (tL 1 lI a1))] (L); unfold ref32_SameInts at h; refine sr (zA (nx (kS (sr (zI (zS (lM u_31) (zI ?_))))))); refine zS (lM u_31) (zS dN (nx ?_)); refine zC (fun hb1 => ?_) (fun hb1 => ?_)
 ·replace h := ct hb1 h; refine sr (zA (nx (kT (xR ?_)))); obtain rfl := (smh h).symm; exact xq_ () Tryd.results69 rfl rfl
 replace h := cf hb1 h; refine kK (xN (kS (sr (zA (nx ?_))))); obtain ⟨z4, h6, hz5⟩ := sqs h; refine okC_meetE (X := Unit) (fun x => z4 = .inl x) (fun x => []) (fun x => L) ?_ ?_
 ·refine kB ?_; refine okC_loop (X := Int) (fun k x => ref32_SameInts_l1 K a0 a1 k x = some z4) (fun x => [(0, (tL 1 lI a0)), (1, (tL 1 lI a1)), (5, (tI x))]) (fun x => L) K 0 h6 cva rfl (fun k s7 hI => ?_)
  cases k with
  | zero => exact (nz hI).elim
  | succ k =>
  have h := (ref32_SameInts_l1.eq_2 ..).symm.trans hI; refine kS (sr (zI (zI (zS (lM u_31) (zS dL (nx ?_)))))); refine zC (fun hb9 => ?_) (fun hb9 => ?_)
  ·replace h := ct hb9 h; refine kK (xN (kS (kB (kS ?_)))); refine okC_cov [(0, (tL 1 lI a0)), (1, (tL 1 lI a1)), (5, (tI s7))] cva ?_; obtain ⟨y10, hi11, h⟩ := bs h; obtain ⟨y12, hi13, h⟩ := bs h; refine drL 8 _ [] (dm rfl (dm rfl (dp (iX u_31 z_3 hi11) (dp (lV a_3) (dm rfl (dm rfl (dp (iX u_31 z_3 hi13) (dp (lV a_3) (dn))))))))) ?_; refine ch_end ?_; refine zS dN (nx ?_); refine zC (fun hb14 => ?_) (fun hb14 => ?_)
   ·replace h := ct hb14 h; refine sr (zA (nx (kT ?_))); refine okX_block_ret ?_; refine xR ?_; refine okX_again_ret ?_; refine okX_block_ret ?_; refine okX_meet_ret ?_; replace h := outh h hz5; refine xR ?_; obtain rfl := (smh h).symm; exact xq_ () Tryd.results69 rfl rfl
   replace h := cf hb14 h; exact kK (xB (xN (kR (zI (zS dA (zA (zN (xa (w64 (s7 + 1)) h))))))))
  replace h := cf hb9 h; exact kE (xT (xE (xH (xm () (innh h)))))
 intro s2 hx; have hx : z4 = .inl s2 := hx; subst hx; replace h := hz5; refine xN (sr (zA (nx (kT ?_)))); obtain rfl := (smh h).symm; exact xq_ () Tryd.results69 rfl rfl
def ref32_SameLists_l1 (K : Nat) (a0 : (List (List Int))) (a1 : (List (List Int))) : Nat → Int → Option (Unit ⊕ Bool)
 | 0, _ => none
 | k + 1, s7 => (cnd (decide (s7 < ((a0).length : Int))) (Option.bind (idx a0 s7) (fun y10 => (Option.bind (idx a1 s7) (fun y12 => (Option.bind (ref32_SameInts K y10 y12) (fun r14 => (cnd (!r14) (out (some false)) (ref32_SameLists_l1 K a0 a1 k (w64 (s7 + 1)))))))))) (inn ()))
def ref32_SameLists (K : Nat) (a0 : (List (List Int))) (a1 : (List (List Int))) : Option Bool :=
 (cnd (((a0).length : Int) != ((a1).length : Int)) (some false) (sq (ref32_SameLists_l1 K a0 a1 K 0) (fun s2 => (some true))))
theorem c_ref32_SameLists (K : Nat) (a0 : (List (List Int))) (a1 : (List (List Int))) (r : Bool) (h : ref32_SameLists K a0 a1 = some r) : CallP Tryd.prog glob 25 [(tL 1 lIs a0), (tL 1 lIs a1)] (tB r) := by
 refine call_of_code Tryd.func25 rfl Tryd.ntmps25 rfl (fun L w => ?_); change OkC _ _ _ [(0, (tL 1 lIs a0)), (1, (tL 1 lIs a1))] (L); unfold ref32_SameLists at h; refine sr (zA (nx (kS (sr (zI (zS (lM u_22) (zI ?_))))))); refine zS (lM u_22) (zS dN (nx ?_)); refine zC (fun hb1 => ?_) (fun hb1 => ?_)
 ·replace h := ct hb1 h; refine sr (zA (nx (kT (xR ?_)))); obtain rfl := (smh h).symm; exact xq_ () Tryd.results25 rfl rfl
 replace h := cf hb1 h; refine kK (xN (kS (sr (zA (nx ?_))))); obtain ⟨z4, h6, hz5⟩ := sqs h; refine okC_meetE (X := Unit) (fun x => z4 = .inl x) (fun x => []) (fun x => L) ?_ ?_
 ·refine kB ?_; refine okC_loop (X := Int) (fun k x => ref32_SameLists_l1 K a0 a1 k x = some z4) (fun x => [(0, (tL 1 lIs a0)), (1, (tL 1 lIs a1)), (5, (tI x))]) (fun x => L) K 0 h6 cva rfl (fun k s7 hI => ?_)
  cases k with
  | zero => exact (nz hI).elim
  | succ k =>
  have h := (ref32_SameLists_l1.eq_2 ..).symm.trans hI; refine kS (sr (zI (zI (zS (lM u_22) (zS dL (nx ?_)))))); refine zC (fun hb9 => ?_) (fun hb9 => ?_)
  ·replace h := ct hb9 h; refine kK (xN (kS (kB (kS ?_)))); refine okC_cov [(0, (tL 1 lIs a0)), (1, (tL 1 lIs a1)), (5, (tI s7))] cva ?_; obtain ⟨y10, hi11, h⟩ := bs h; obtain ⟨y12, hi13, h⟩ := bs h; refine drL 8 _ [] (dm rfl (dm rfl (dp (iX u_22 z_31 hi11) (dp (lV a_31) (dm rfl (dm rfl (dp (iX u_22 z_31 hi13) (dp (lV a_31) (dn))))))))) ?_; refine ch_end ?_; obtain ⟨r14, hc15, h⟩ := bs h; refine zS (cQ (c_ref32_SameInts K y10 y12 r14 hc15) k_69) (zS dO (nx ?_)); refine zC (fun hb16 => ?_) (fun hb16 => ?_)
   ·replace h := ct hb16 h; refine sr (zA (nx (kT ?_))); refine okX_block_ret ?_; refine xR ?_; refine okX_again_ret ?_; refine okX_block_ret ?_; refine okX_meet_ret ?_; replace h := outh h hz5; refine xR ?_; obtain rfl := (smh h).symm; exact xq_ () Tryd.results25 rfl rfl
   replace h := cf hb16 h; exact kK (xB (xN (kR (zI (zS dA (zA (zN (xa (w64 (s7 + 1)) h))))))))
  replace h := cf hb9 h; exact kE (xT (xE (xH (xm () (innh h)))))
 intro s2 hx; have hx : z4 = .inl s2 := hx; subst hx; replace h := hz5; refine xN (sr (zA (nx (kT ?_)))); obtain rfl := (smh h).symm; exact xq_ () Tryd.results25 rfl rfl
def keep_Args  (a0 : Int) (a1 : Int) (a2 : Int) : Option (List Int) :=
 (Option.bind (keep_Word a0 a2) (fun r1 => (Option.bind (keep_Word a1 a2) (fun r3 => (some ([r1, r3] : List Int))))))
theorem c_keep_Args  (a0 : Int) (a1 : Int) (a2 : Int) (r : (List Int)) (h : keep_Args  a0 a1 a2 = some r) : CallP Tryd.prog glob 41 [(tI a0), (tI a1), (tI a2)] (tL 1 lI r) := by
 refine call_of_code Tryd.func41 rfl Tryd.ntmps41 rfl (fun L w => ?_); change OkC _ _ _ [(0, (tI a0)), (1, (tI a1)), (2, (tI a2))] (L); unfold keep_Args at h; refine sr (zA (nsr (zI (zI ?_)))); obtain ⟨r1, hc2, h⟩ := bs h; refine zS (cQ (c_keep_Word a0 a2 r1 hc2) k_75) (zI (zI ?_)); obtain ⟨r3, hc4, h⟩ := bs h; refine zS (cQ (c_keep_Word a1 a2 r3 hc4) k_75) ?_; refine zS (bS (f := lI) ([r1, r3] : List Int) [(tI r1), (tI r3)] el53 rfl rfl rfl (fc [(tI r1)] 0 rfl (pq_ (one_i _)) rfl rfl (fc [(tI r3)] 1 rfl (pq_ (one_i _)) rfl rfl (fn_ rfl))) rfl (fun _ => rfl)) ?_; refine zA (nx (kT ?_)); obtain rfl := (smh h).symm; exact xq_ () Tryd.results41 rfl rfl
def liveness_empty  (a0 : Int) : Option (List Int) :=
 (Option.bind (mk 8 (w64 (Int.tdiv (w64 (a0 + 63)) 64)) 0) (fun l1 => (some l1)))
theorem c_liveness_empty  (a0 : Int) (r : (List Int)) (h : liveness_empty  a0 = some r) : CallOk Tryd.prog glob 70 [(tI a0)] [] Value (fun x : Value => ((Ty.own x), [rowL x 137 1 lU r])) := by
 refine call_of_code Tryd.func70 rfl Tryd.ntmps70 rfl (fun L w => ?_); change OkC _ _ _ [(0, (tI a0))] (L); unfold liveness_empty at h; refine sr (zA (nsr (zI (zS dA ?_)))); refine zS (does_quo (by decide) rfl rfl) ?_; obtain ⟨l1, hm2, h⟩ := bs h; refine zO (doesO_make (f := lU) el93 0 l1 hm2 rfl rfl (pq_ (one_val rfl)) (fun v3 => ?_)); refine zA (nx (kT ?_)); obtain rfl := (smh h).symm; exact xq_ v3 Tryd.results70 rfl rfl
def liveness_set_remove  (a0 : (List Int)) (a1 : Int) : Option (List Int) :=
 (Option.bind (idx a0 (w64 (Int.tdiv a1 64))) (fun y1 => (Option.bind (idx a0 (w64 (Int.tdiv a1 64))) (fun y3 => (some (a0.set (w64 (Int.tdiv a1 64)).toNat (bAndNot .u64 y1 (bShl .u64 1 (u64 (Int.tmod a1 64))))))))))
theorem c_liveness_set_remove  (a0 : (List Int)) (a1 : Int) (v0 : Value) (r : (List Int)) (h : liveness_set_remove  a0 a1 = some r) : CallOk Tryd.prog glob 71 [(Ty.own v0), (tI a1)] [rowL v0 137 1 lU a0] Unit (fun _ : Unit => ((Ty.tup []), [rowL v0 137 1 lU r])) := by
 refine call_of_code Tryd.func71 rfl Tryd.ntmps71 rfl (fun L w => ?_); change OkC _ _ _ [(0, (Ty.own v0)), (1, (tI a1))] (rowL v0 137 1 lU a0 :: L); unfold liveness_set_remove at h; refine kR (zI (zI ?_)); refine zS (does_quo (by decide) rfl rfl) ?_; obtain ⟨y1, hi2, h⟩ := bs h; refine zS (iR el93 0 y1 hi2 rfl rfl rfl) ?_; refine zS (lR 0 y1 0 a_137 hi2 rfl rfl rfl) ?_; refine zI ?_; refine zS (does_rem (by decide) rfl rfl) ?_; refine zS (does_convert u_3 u_138 rfl) ?_; refine zS (does_shl (wrap_u64_nonneg _) rfl rfl) ?_; refine zS (does_andNot rfl rfl) ?_; obtain ⟨y3, hi4, h⟩ := bs h; refine zS (iR el93 0 y3 hi4 rfl rfl rfl) ?_; refine zR 0 0 hi4 (bAndNot .u64 y1 (bShl .u64 1 (u64 (Int.tmod a1 64)))) (pq_ (one_val rfl)) z_137 ?_; refine zN ?_; obtain rfl := (smh h).symm; exact okX_end0 () Tryd.results71 rfl rfl
def liveness_set_add  (a0 : (List Int)) (a1 : Int) : Option (List Int) :=
 (Option.bind (idx a0 (w64 (Int.tdiv a1 64))) (fun y1 => (Option.bind (idx a0 (w64 (Int.tdiv a1 64))) (fun y3 => (some (a0.set (w64 (Int.tdiv a1 64)).toNat (bOr .u64 y1 (bShl .u64 1 (u64 (Int.tmod a1 64))))))))))
theorem c_liveness_set_add  (a0 : (List Int)) (a1 : Int) (v0 : Value) (r : (List Int)) (h : liveness_set_add  a0 a1 = some r) : CallOk Tryd.prog glob 72 [(Ty.own v0), (tI a1)] [rowL v0 137 1 lU a0] Unit (fun _ : Unit => ((Ty.tup []), [rowL v0 137 1 lU r])) := by
 refine call_of_code Tryd.func72 rfl Tryd.ntmps72 rfl (fun L w => ?_); change OkC _ _ _ [(0, (Ty.own v0)), (1, (tI a1))] (rowL v0 137 1 lU a0 :: L); unfold liveness_set_add at h; refine kR (zI (zI ?_)); refine zS (does_quo (by decide) rfl rfl) ?_; obtain ⟨y1, hi2, h⟩ := bs h; refine zS (iR el93 0 y1 hi2 rfl rfl rfl) ?_; refine zS (lR 0 y1 0 a_137 hi2 rfl rfl rfl) ?_; refine zI ?_; refine zS (does_rem (by decide) rfl rfl) ?_; refine zS (does_convert u_3 u_138 rfl) ?_; refine zS (does_shl (wrap_u64_nonneg _) rfl rfl) ?_; refine zS (does_or rfl rfl) ?_; obtain ⟨y3, hi4, h⟩ := bs h; refine zS (iR el93 0 y3 hi4 rfl rfl rfl) ?_; refine zR 0 0 hi4 (bOr .u64 y1 (bShl .u64 1 (u64 (Int.tmod a1 64)))) (pq_ (one_val rfl)) z_137 ?_; refine zN ?_; obtain rfl := (smh h).symm; exact okX_end0 () Tryd.results72 rfl rfl
def liveness_set_union_l1 (K : Nat) (a0 : (List Int)) (a1 : (List Int)) : Nat → (Bool × Int × (List Int)) → Option (Bool × (List Int))
 | 0, _ => none
 | k + 1, s6 => (cnd (decide (s6.2.1 < ((a0).length : Int))) (Option.bind (Option.bind (idx a1 s6.2.1) (fun y14 => (Option.bind (idx s6.2.2 s6.2.1) (fun y16 => (cnd ((bAndNot .u64 y14 y16) != 0) (Option.bind (idx s6.2.2 s6.2.1) (fun y19 => (Option.bind (idx a1 s6.2.1) (fun y21 => (Option.bind (idx s6.2.2 s6.2.1) (fun y23 => (some (true, (s6.2.2.set s6.2.1.toNat (bOr .u64 y19 y21)))))))))) (some (s6.1, s6.2.2))))))) (fun s9 => (liveness_set_union_l1 K a0 a1 k (s9.1, (w64 (s6.2.1 + 1)), s9.2)))) (some (s6.1, s6.2.2)))
def liveness_set_union (K : Nat) (a0 : (List Int)) (a1 : (List Int)) : Option (Bool × (List Int)) :=
 (Option.bind (liveness_set_union_l1 K a0 a1 K (false, 0, a0)) (fun s1 => (some (s1.1, s1.2))))
theorem c_liveness_set_union (K : Nat) (a0 : (List Int)) (a1 : (List Int)) (v0 : Value) (r : Bool × (List Int)) (h : liveness_set_union K a0 a1 = some r) : CallOk Tryd.prog glob 73 [(Ty.own v0), (tL 1 lU a1)] [rowL v0 137 1 lU a0] Unit (fun _ : Unit => ((tB r.1), [rowL v0 137 1 lU r.2])) := by
 refine call_of_code Tryd.func73 rfl Tryd.ntmps73 rfl (fun L w => ?_); change OkC _ _ _ [(0, (Ty.own v0)), (1, (tL 1 lU a1))] (rowL v0 137 1 lU a0 :: L); unfold liveness_set_union at h; refine sr (zA (nsr (zA (nx (kS (sr (zI ?_))))))); refine zS (does_lenR rfl u_93 0 rfl rfl) ?_; refine zI (nx ?_); obtain ⟨z3, h5, hz4⟩ := bs h; refine okC_meetE (X := (Bool × (List Int))) (fun x => z3 = x) (fun x => [(5, (tB x.1))]) (fun x => rowL v0 137 1 lU x.2 :: L) ?_ ?_
 ·refine kB ?_; refine okC_loop (X := (Bool × Int × (List Int))) (fun k x => liveness_set_union_l1 K a0 a1 k x = some z3) (fun x => [(0, (Ty.own v0)), (1, (tL 1 lU a1)), (5, (tB x.1)), (8, (tI ((a0).length : Int))), (9, (tI x.2.1))]) (fun x => rowL v0 137 1 lU x.2.2 :: L) K (false, 0, a0) h5 cva rfl (fun k s6 hI => ?_)
  cases k with
  | zero => exact (nz hI).elim
  | succ k =>
  have h := (liveness_set_union_l1.eq_2 ..).symm.trans hI; refine sr (zS dL (nx (kS ?_))); refine zC (fun hb8 => ?_) (fun hb8 => ?_)
  ·replace h := ct hb8 h; refine kK (xN ?_); obtain ⟨z11, h13, hz12⟩ := bs h; refine okC_meet (X := (Bool × (List Int))) (fun x => z11 = x) (fun x => [(0, (Ty.own v0)), (1, (tL 1 lU a1)), (5, (tB x.1)), (8, (tI ((a0).length : Int))), (9, (tI s6.2.1))]) (fun x => rowL v0 137 1 lU x.2 :: L) ?_ ?_
   ·refine kB (sr (zI (zA (nx (kS ?_))))); refine okC_cov [(0, (Ty.own v0)), (1, (tL 1 lU a1)), (5, (tB s6.1)), (6, (tI s6.2.1)), (8, (tI ((a0).length : Int))), (9, (tI s6.2.1))] cva ?_; obtain ⟨y14, hi15, h13⟩ := bs h13; obtain ⟨y16, hi17, h13⟩ := bs h13; refine drL 8 _ [] (dm rfl (dm rfl (dp (iX u_93 z_137 hi15) (dp (lV a_137) (dm rfl (dm rfl (dp (iR el93 0 y16 hi17 rfl rfl rfl) (dp (lR 0 y16 0 a_137 hi17 rfl rfl rfl) (dn))))))))) ?_; refine ch_end ?_; refine zS (does_andNot rfl rfl) ?_; refine zS dN (nx ?_); refine zC (fun hb18 => ?_) (fun hb18 => ?_)
    ·replace h13 := ct hb18 h13; refine sr (zA (nx ?_)); refine okC_cov [(0, (Ty.own v0)), (1, (tL 1 lU a1)), (5, (tB true)), (6, (tI s6.2.1)), (8, (tI ((a0).length : Int))), (9, (tI s6.2.1))] cva ?_; obtain ⟨y19, hi20, h13⟩ := bs h13; obtain ⟨y21, hi22, h13⟩ := bs h13; refine drL 8 _ [] (dm rfl (dm rfl (dp (iR el93 0 y19 hi20 rfl rfl rfl) (dp (lR 0 y19 0 a_137 hi20 rfl rfl rfl) (dm rfl (dm rfl (dp (iX u_93 z_137 hi22) (dp (lV a_137) (dn))))))))) ?_; refine ch_end ?_; refine zS (does_or rfl rfl) ?_; obtain ⟨y23, hi24, h13⟩ := bs h13; refine zS (iR el93 0 y23 hi24 rfl rfl rfl) ?_; refine zR 0 0 hi24 (bOr .u64 y19 y21) (pq_ (one_val rfl)) z_137 ?_; exact zN (xB (xm (true, (s6.2.2.set s6.2.1.toNat (bOr .u64 y19 y21))) (smh h13)))
    replace h13 := cf hb18 h13; exact kK (xB (xm (s6.1, s6.2.2) (smh h13)))
   intro s9 hx; obtain rfl : s9 = z11 := hx.symm; replace h := hz12; exact kR (zS dA (zI (zN (xa (s9.1, (w64 (s6.2.1 + 1)), s9.2) h))))
  replace h := cf hb8 h; exact kE (xT (xE (xH (xm (s6.1, s6.2.2) (smh h)))))
 intro s1 hx; obtain rfl : s1 = z3 := hx.symm; replace h := hz4; refine xN (sr (zI (zA (nx (kT ?_))))); obtain rfl := (smh h).symm; exact xq_ () Tryd.results73 rfl rfl
def keep2_Digits_Next  (a0 : Fullingkeep2Digits) (a1 : Int) : Option (Int × Fullingkeep2Digits) :=
 (Option.bind (keep_Pick a0.N a1) (fun r1 => (guardO (a1 != 0) (some (r1, (⟨(w64 (Int.tdiv (w64 (a0.N - r1)) a1))⟩ : Fullingkeep2Digits))))))
theorem c_keep2_Digits_Next  (a0 : Fullingkeep2Digits) (a1 : Int) (g0 : Nat) (r : Int × Fullingkeep2Digits) (h : keep2_Digits_Next  a0 a1 = some r) : CallOk Tryd.prog glob 74 [(pAt g0 0), (tI a1)] [Item.blk g0 103 [(tI a0.N)]] Unit (fun _ : Unit => ((tI r.1), [Item.blk g0 103 [(tI r.2.N)]])) := by
 refine call_of_code Tryd.func74 rfl Tryd.ntmps74 rfl (fun L w => ?_); change OkC _ _ _ [(0, (pAt g0 0)), (1, (tI a1))] (Item.blk g0 103 [(tI a0.N)] :: L); unfold keep2_Digits_Next at h; refine sr (zA (nsr (zI (zS dK (zS (fB 0 u_103 z_3) (zS (lC a_3 0) (zI ?_))))))); obtain ⟨r1, hc2, h⟩ := bs h; refine zS (cQ (c_keep_Pick a0.N a1 r1 hc2) k_29) (zA (nsr (zI (zI (zS dK (zS (fB 0 u_103 z_3) (zS (lC a_3 0) ?_))))))); refine zI (zS dS (zI ?_)); obtain ⟨hg3, h⟩ := gs h; refine zS (does_quo (ne0 hg3) rfl rfl) ?_; refine zS dK (zS (fB 0 u_103 z_3) (zB 0 (pq_ (one_i _)) z_3 ?_)); refine nsr (zI (zA (nx (kT ?_)))); obtain rfl := (smh h).symm; exact xq_ () Tryd.results74 rfl rfl
def vcode_Valid_1  (a0 : Int) (a1 : VFunc) : Option Bool :=
 (some ((decide (a0 ≥ 0)) && (decide (a0 < ((a1.Blocks).length : Int)))))
theorem c_vcode_Valid_1  (a0 : Int) (a1 : VFunc) (g1 : Nat) (r : Bool) (h : vcode_Valid_1  a0 a1 = some r) : CallOk Tryd.prog glob 101 [(tI a0), (pAt g1 0)] [Item.blk g1 27 (S27 a1)] Unit (fun _ : Unit => ((tB r), [Item.blk g1 27 (S27 a1)])) := by
 refine call_of_code Tryd.func101 rfl Tryd.ntmps101 rfl (fun L w => ?_); change OkC _ _ _ [(0, (tI a0)), (1, (pAt g1 0))] (Item.blk g1 27 (S27 a1) :: L); unfold vcode_Valid_1 at h; refine sr (zA (nsr (zI (zS dG (zI ?_))))); refine zT (z := ((decide (a0 ≥ 0)) && (decide (a0 < ((a1.Blocks).length : Int))))) 6 12 ?_ ?_
 ·refine zP (decide (a0 ≥ 0)) (fun hb1 => ?_) (fun hb1 => ?_)
  ·refine zG hb1 dM ?_; refine zG hb1 (fB 2 u_27 z_25) ?_; refine zG hb1 (lC a_25 0) ?_; refine zG hb1 (lM u_25) ?_; refine zG hb1 dL ?_; exact zS (pU hb1) (zN (xm (decide (a0 < ((a1.Blocks).length : Int))) (and_t hb1)))
  (iterate 5 refine zK hb1 ?_); exact zS (pG hb1) (zN (xm false (and_f hb1)))
 refine zA (nx (kT ?_)); obtain rfl := (smh h).symm; exact xq_ () Tryd.results101 rfl rfl
def vcode_Valid_2  (a0 : Int) (a1 : VFunc) : Option Bool :=
 (some ((decide (a0 ≥ 0)) && (decide (a0 < a1.Regs))))
theorem c_vcode_Valid_2  (a0 : Int) (a1 : VFunc) (g1 : Nat) (r : Bool) (h : vcode_Valid_2  a0 a1 = some r) : CallOk Tryd.prog glob 102 [(tI a0), (pAt g1 0)] [Item.blk g1 27 (S27 a1)] Unit (fun _ : Unit => ((tB r), [Item.blk g1 27 (S27 a1)])) := by
 refine call_of_code Tryd.func102 rfl Tryd.ntmps102 rfl (fun L w => ?_); change OkC _ _ _ [(0, (tI a0)), (1, (pAt g1 0))] (Item.blk g1 27 (S27 a1) :: L); unfold vcode_Valid_2 at h; refine sr (zA (nsr (zI (zS dG (zI ?_))))); refine zT (z := ((decide (a0 ≥ 0)) && (decide (a0 < a1.Regs)))) 5 11 ?_ ?_
 ·refine zP (decide (a0 ≥ 0)) (fun hb1 => ?_) (fun hb1 => ?_)
  ·refine zG hb1 dM ?_; refine zG hb1 (fB 1 u_27 z_3) ?_; refine zG hb1 (lC a_3 0) ?_; refine zG hb1 dL ?_; exact zS (pU hb1) (zN (xm (decide (a0 < a1.Regs)) (and_t hb1)))
  (iterate 4 refine zK hb1 ?_); exact zS (pG hb1) (zN (xm false (and_f hb1)))
 refine zA (nx (kT ?_)); obtain rfl := (smh h).symm; exact xq_ () Tryd.results102 rfl rfl
def vcode_validInstr_1  (a0 : Int) (a1 : VFunc) : Option Bool :=
 (some ((decide (a0 ≥ 0)) && (decide (a0 < a1.Regs))))
theorem c_vcode_validInstr_1  (a0 : Int) (a1 : VFunc) (g1 : Nat) (r : Bool) (h : vcode_validInstr_1  a0 a1 = some r) : CallOk Tryd.prog glob 126 [(tI a0), (pAt g1 0)] [Item.blk g1 27 (S27 a1)] Unit (fun _ : Unit => ((tB r), [Item.blk g1 27 (S27 a1)])) := by
 refine call_of_code Tryd.func126 rfl Tryd.ntmps126 rfl (fun L w => ?_); change OkC _ _ _ [(0, (tI a0)), (1, (pAt g1 0))] (Item.blk g1 27 (S27 a1) :: L); unfold vcode_validInstr_1 at h; refine sr (zA (nsr (zI (zS dG (zI ?_))))); refine zT (z := ((decide (a0 ≥ 0)) && (decide (a0 < a1.Regs)))) 5 11 ?_ ?_
 ·refine zP (decide (a0 ≥ 0)) (fun hb1 => ?_) (fun hb1 => ?_)
  ·refine zG hb1 dM ?_; refine zG hb1 (fB 1 u_27 z_3) ?_; refine zG hb1 (lC a_3 0) ?_; refine zG hb1 dL ?_; exact zS (pU hb1) (zN (xm (decide (a0 < a1.Regs)) (and_t hb1)))
  (iterate 4 refine zK hb1 ?_); exact zS (pG hb1) (zN (xm false (and_f hb1)))
 refine zA (nx (kT ?_)); obtain rfl := (smh h).symm; exact xq_ () Tryd.results126 rfl rfl
def vcode_allowed  (a0 : Int) : Option Bool :=
 (Option.bind (cnd (a0 == 3) (some (a0 == 3)) (cnd (a0 == 6) (some (a0 == 6)) (cnd (a0 == 9) (some (a0 == 9)) (cnd (a0 == 10) (some (a0 == 10)) (cnd (a0 == 11) (some (a0 == 11)) (cnd (a0 == 12) (some (a0 == 12)) (cnd (a0 == 13) (some (a0 == 13)) (cnd (a0 == 33) (some (a0 == 33)) (cnd (a0 == 34) (some (a0 == 34)) (cnd (a0 == 35) (some (a0 == 35)) (some (a0 == 38)))))))))))) (fun s1 => (cnd s1 (some true) (some ((decide (a0 ≥ 15)) && (decide (a0 ≤ 32)))))))
theorem c_vcode_allowed  (a0 : Int) (r : Bool) (h : vcode_allowed  a0 = some r) : CallP Tryd.prog glob 119 [(tI a0)] (tB r) := by
 refine call_of_code Tryd.func119 rfl Tryd.ntmps119 rfl (fun L w => ?_); change OkC _ _ _ [(0, (tI a0))] (L); unfold vcode_allowed at h; refine sr (zA (nx (kS (sr (zI (nx (kB ?_))))))); obtain ⟨z3, h5, hz4⟩ := bs h; refine okC_meet (X := Bool) (fun x => z3 = x) (fun x => [(0, (tI a0)), (4, (tB x))]) (fun x => L) ?_ ?_
 ·refine sr (zS dE (zA (nx ?_))); refine zC (fun hb6 => ?_) (fun hb6 => ?_)
  ·replace h5 := ct hb6 h5; exact kK (xm (a0 == 3) (smh h5))
  replace h5 := cf hb6 h5; refine sr (zS dE (zA (nx ?_))); refine zC (fun hb7 => ?_) (fun hb7 => ?_)
  ·replace h5 := ct hb7 h5; exact kK (xm (a0 == 6) (smh h5))
  replace h5 := cf hb7 h5; refine sr (zS dE (zA (nx ?_))); refine zC (fun hb8 => ?_) (fun hb8 => ?_)
  ·replace h5 := ct hb8 h5; exact kK (xm (a0 == 9) (smh h5))
  replace h5 := cf hb8 h5; refine sr (zS dE (zA (nx ?_))); refine zC (fun hb9 => ?_) (fun hb9 => ?_)
  ·replace h5 := ct hb9 h5; exact kK (xm (a0 == 10) (smh h5))
  replace h5 := cf hb9 h5; refine sr (zS dE (zA (nx ?_))); refine zC (fun hb10 => ?_) (fun hb10 => ?_)
  ·replace h5 := ct hb10 h5; exact kK (xm (a0 == 11) (smh h5))
  replace h5 := cf hb10 h5; refine sr (zS dE (zA (nx ?_))); refine zC (fun hb11 => ?_) (fun hb11 => ?_)
  ·replace h5 := ct hb11 h5; exact kK (xm (a0 == 12) (smh h5))
  replace h5 := cf hb11 h5; refine sr (zS dE (zA (nx ?_))); refine zC (fun hb12 => ?_) (fun hb12 => ?_)
  ·replace h5 := ct hb12 h5; exact kK (xm (a0 == 13) (smh h5))
  replace h5 := cf hb12 h5; refine sr (zS dE (zA (nx ?_))); refine zC (fun hb13 => ?_) (fun hb13 => ?_)
  ·replace h5 := ct hb13 h5; exact kK (xm (a0 == 33) (smh h5))
  replace h5 := cf hb13 h5; refine sr (zS dE (zA (nx ?_))); refine zC (fun hb14 => ?_) (fun hb14 => ?_)
  ·replace h5 := ct hb14 h5; exact kK (xm (a0 == 34) (smh h5))
  replace h5 := cf hb14 h5; refine sr (zS dE (zA (nx ?_))); refine zC (fun hb15 => ?_) (fun hb15 => ?_)
  ·replace h5 := ct hb15 h5; exact kK (xm (a0 == 35) (smh h5))
  replace h5 := cf hb15 h5; exact kR (zS dE (zA (zN (xm (a0 == 38) (smh h5)))))
 intro s1 hx; obtain rfl : s1 = z3 := hx.symm; replace h := hz4; refine zC (fun hb16 => ?_) (fun hb16 => ?_)
 ·replace h := ct hb16 h; refine sr (zA (nx (kT ?_))); refine okX_block_ret ?_; refine xR ?_; obtain rfl := (smh h).symm; exact xq_ () Tryd.results119 rfl rfl
 replace h := cf hb16 h; refine kK (xB (xN (sr (zI (zS dG (zI ?_)))))); refine zT (z := ((decide (a0 ≥ 15)) && (decide (a0 ≤ 32)))) 3 21 ?_ ?_
 ·refine zP (decide (a0 ≥ 15)) (fun hb17 => ?_) (fun hb17 => ?_)
  ·refine zG hb17 dM ?_; refine zG hb17 dQ ?_; exact zS (pU hb17) (zN (xm (decide (a0 ≤ 32)) (and_t hb17)))
  (iterate 2 refine zK hb17 ?_); exact zS (pG hb17) (zN (xm false (and_f hb17)))
 refine zA (nx (kT ?_)); obtain rfl := (smh h).symm; exact xq_ () Tryd.results119 rfl rfl
def machine_Info  (a0 : Int) : Option (OpInfo × Bool) :=
 (cnd ((decide (a0 < 1)) || (decide (a0 > 37))) (some ((⟨⟨#[]⟩, 0, false, false, false, false, 0⟩ : OpInfo), false)) (Option.bind (idx tableL (w64 (a0 - 1))) (fun y4 => (some (y4, true)))))
theorem c_machine_Info  (a0 : Int) (r : OpInfo × Bool) (h : machine_Info  a0 = some r) : CallP Tryd.prog glob 120 [(tI a0)] (Ty.tup [(Ty.agg (S113 r.1)), (tB r.2)]) := by
 refine call_of_code Tryd.func120 rfl Tryd.ntmps120 rfl (fun L w => ?_); change OkC _ _ _ [(0, (tI a0))] (L); unfold machine_Info at h; refine sr ?_; refine zO (oA [(tS ⟨#[]⟩), tZ, (tB false), (tB false), (tB false), (tB false), tZ] v_113 (part_of (sub_agg [(.string ⟨#[]⟩), sZ, (.bool false), (.bool false), (.bool false), (.bool false), sZ] rfl) (pA _)) (fun g1 => ?_)); refine zA (nx (kS (sr (zI (zS dL (zI ?_)))))); refine zT (z := ((decide (a0 < 1)) || (decide (a0 > 37)))) 3 9 ?_ ?_
 ·refine zP (decide (a0 < 1)) (fun hb2 => ?_) (fun hb2 => ?_)
  ·(iterate 2 refine zK hb2 ?_); exact zS (pU hb2) (zN (xm true (or_t hb2)))
  refine zG hb2 dM ?_; refine zG hb2 dT ?_; exact zS (pG hb2) (zN (xm (decide (a0 > 37)) (or_f hb2)))
 refine nx ?_; refine zC (fun hb3 => ?_) (fun hb3 => ?_)
 ·replace h := ct hb3 h; refine sr ?_; refine zS (does_build [(tS ⟨#[]⟩), tZ, (tB false), (tB false), (tB false), (tB false), tZ] v_113 u_113 (places113 _ u_113) rfl (fn_ rfl)) ?_; refine zB 0 (pA _) z_113 ?_; refine zA (nx (kT (xR ?_))); obtain rfl := (smh h).symm; exact okX_retCT () Tryd.results120 rfl rfl 0 rfl a_113 z_113 rfl rfl [Item.blk g1 113 [(tS ⟨#[]⟩), tZ, (tB false), (tB false), (tB false), (tB false), tZ]] (pm 0 rfl (pr _))
 replace h := cf hb3 h; refine kK (xN (sr ?_)); refine zS (does_loadG a_162 (List.Mem.head _)) ?_; refine zI (zS dS ?_); obtain ⟨y4, hi5, h⟩ := bs h; refine zS (iX u_162 z_113 hi5) ?_; refine zS (does_loadA (S113 y4) a_113 z_113 rfl rfl rfl) ?_; refine zB 0 (pA _) z_113 ?_; refine zA (nx (kT ?_)); obtain rfl := (smh h).symm; exact okX_retCT () Tryd.results120 rfl rfl 0 rfl a_113 z_113 rfl rfl [Item.blk g1 113 (S113 y4)] (pm 0 rfl (pr _))
def keep_Fuel  (a0 : Int) : Option Int :=
 (Option.bind (keep_Pick a0 12) (fun r1 => (some r1)))
theorem c_keep_Fuel  (a0 : Int) (r : Int) (h : keep_Fuel  a0 = some r) : CallP Tryd.prog glob 43 [(tI a0)] (tI r) := by
 refine call_of_code Tryd.func43 rfl Tryd.ntmps43 rfl (fun L w => ?_); change OkC _ _ _ [(0, (tI a0))] (L); unfold keep_Fuel at h; refine sr (zA (nsr (zI ?_))); obtain ⟨r1, hc2, h⟩ := bs h; refine zS (cQ (c_keep_Pick a0 12 r1 hc2) k_29) (zA (nx (kT ?_))); obtain rfl := (smh h).symm; exact xq_ () Tryd.results43 rfl rfl
def ref29_SameOutcome_l1 (K : Nat) (a0 : Outcome) (a1 : Outcome) : Nat → Int → Option (Unit ⊕ Bool)
 | 0, _ => none
 | k + 1, s12 => (cnd (decide (s12 < ((a0.Out).length : Int))) (Option.bind (idx a0.Out s12) (fun y15 => (Option.bind (idx a1.Out s12) (fun y17 => (cnd (y15 != y17) (out (some false)) (ref29_SameOutcome_l1 K a0 a1 k (w64 (s12 + 1)))))))) (inn ()))
def ref29_SameOutcome (K : Nat) (a0 : Outcome) (a1 : Outcome) : Option Bool :=
 (cnd ((((a0.Kind != a1.Kind) || (a0.Code != a1.Code)) || (a0.Value != a1.Value)) || (((a0.Out).length : Int) != ((a1.Out).length : Int))) (some false) (sq (ref29_SameOutcome_l1 K a0 a1 K 0) (fun s7 => (some true))))
theorem c_ref29_SameOutcome (K : Nat) (a0 : Outcome) (a1 : Outcome) (r : Bool) (h : ref29_SameOutcome K a0 a1 = some r) : CallP Tryd.prog glob 44 [(Ty.agg (S56 a0)), (Ty.agg (S56 a1))] (tB r) := by
 refine call_of_code Tryd.func44 rfl Tryd.ntmps44 rfl (fun L w => ?_); change OkC _ _ _ [(0, (Ty.agg (S56 a0))), (1, (Ty.agg (S56 a1)))] (L); unfold ref29_SameOutcome at h; refine sr ?_; refine zO (oB (S56 a0) rfl (pA _) (fun g1 => ?_)); refine zO (oB (S56 a1) rfl (pA _) (fun g2 => ?_)); refine zA (nx (kS (sr (zS (fB 0 u_56 z_3) (zS (lC a_3 1) (zS (fB 0 u_56 z_3) (zS (lC a_3 0) ?_))))))); refine zS dN (zI ?_); refine zT (z := ((a0.Kind != a1.Kind) || (a0.Code != a1.Code))) 6 17 ?_ ?_
 ·refine zP (a0.Kind != a1.Kind) (fun hb3 => ?_) (fun hb3 => ?_)
  ·(iterate 5 refine zK hb3 ?_); exact zS (pU hb3) (zN (xm true (or_t hb3)))
  refine zG hb3 (fB 1 u_56 z_3) ?_; refine zG hb3 (lC a_3 1) ?_; refine zG hb3 (fB 1 u_56 z_3) ?_; refine zG hb3 (lC a_3 0) ?_; refine zG hb3 dN ?_; exact zS (pG hb3) (zN (xm (a0.Code != a1.Code) (or_f hb3)))
 refine zI ?_; refine zT (z := (((a0.Kind != a1.Kind) || (a0.Code != a1.Code)) || (a0.Value != a1.Value))) 6 24 ?_ ?_
 ·refine zP ((a0.Kind != a1.Kind) || (a0.Code != a1.Code)) (fun hb4 => ?_) (fun hb4 => ?_)
  ·(iterate 5 refine zK hb4 ?_); exact zS (pU hb4) (zN (xm true (or_t hb4)))
  refine zG hb4 (fB 3 u_56 z_2) ?_; refine zG hb4 (lC a_2 1) ?_; refine zG hb4 (fB 3 u_56 z_2) ?_; refine zG hb4 (lC a_2 0) ?_; refine zG hb4 dN ?_; exact zS (pG hb4) (zN (xm (a0.Value != a1.Value) (or_f hb4)))
 refine zI ?_; refine zT (z := ((((a0.Kind != a1.Kind) || (a0.Code != a1.Code)) || (a0.Value != a1.Value)) || (((a0.Out).length : Int) != ((a1.Out).length : Int)))) 8 33 ?_ ?_
 ·refine zP (((a0.Kind != a1.Kind) || (a0.Code != a1.Code)) || (a0.Value != a1.Value)) (fun hb5 => ?_) (fun hb5 => ?_)
  ·(iterate 7 refine zK hb5 ?_); exact zS (pU hb5) (zN (xm true (or_t hb5)))
  refine zG hb5 (fB 2 u_56 z_53) ?_; refine zG hb5 (lC a_53 1) ?_; refine zG hb5 (lM u_53) ?_; refine zG hb5 (fB 2 u_56 z_53) ?_; refine zG hb5 (lC a_53 0) ?_; refine zG hb5 (lM u_53) ?_; refine zG hb5 dN ?_; exact zS (pG hb5) (zN (xm (((a0.Out).length : Int) != ((a1.Out).length : Int)) (or_f hb5)))
 refine nx ?_; refine zC (fun hb6 => ?_) (fun hb6 => ?_)
 ·replace h := ct hb6 h; refine sr (zA (nx (kT (xR ?_)))); obtain rfl := (smh h).symm; refine xD 0 ?_; exact xD 0 (xq_ () Tryd.results44 rfl rfl)
 replace h := cf hb6 h; refine kK (xN (kS (sr (zA (nx ?_))))); obtain ⟨z9, h11, hz10⟩ := sqs h; refine okC_meetE (X := Unit) (fun x => z9 = .inl x) (fun x => []) (fun x => Item.blk g2 56 (S56 a1) :: Item.blk g1 56 (S56 a0) :: L) ?_ ?_
 ·refine kB ?_; refine okC_loop (X := Int) (fun k x => ref29_SameOutcome_l1 K a0 a1 k x = some z9) (fun x => [(2, (pAt g1 0)), (3, (pAt g2 0)), (5, (tI x))]) (fun x => Item.blk g2 56 (S56 a1) :: Item.blk g1 56 (S56 a0) :: L) K 0 h11 cva rfl (fun k s12 hI => ?_)
  cases k with
  | zero => exact (nz hI).elim
  | succ k =>
  have h := (ref29_SameOutcome_l1.eq_2 ..).symm.trans hI; refine kS (sr (zI (zS (fB 2 u_56 z_53) (zS (lC a_53 1) (zS (lM u_53) (zS dL (nx ?_))))))); refine zC (fun hb14 => ?_) (fun hb14 => ?_)
  ·replace h := ct hb14 h; refine kK (xN (kS (kB (kS ?_)))); refine okC_cov [(2, (pAt g1 0)), (3, (pAt g2 0)), (5, (tI s12))] cva ?_; obtain ⟨y15, hi16, h⟩ := bs h; obtain ⟨y17, hi18, h⟩ := bs h; refine drL 10 _ [] (dp (fB 2 u_56 z_53) (dp (lC a_53 1) (dm rfl (dp (iX u_53 z_2 hi16) (dp (lV a_2) (dp (fB 2 u_56 z_53) (dp (lC a_53 0) (dm rfl (dp (iX u_53 z_2 hi18) (dp (lV a_2) (dn))))))))))) ?_; refine ch_end ?_; refine zS dN (nx ?_); refine zC (fun hb19 => ?_) (fun hb19 => ?_)
   ·replace h := ct hb19 h; refine sr (zA (nx (kT ?_))); refine okX_block_ret ?_; refine xR ?_; refine okX_again_ret ?_; refine okX_block_ret ?_; refine okX_meet_ret ?_; replace h := outh h hz10; refine xR ?_; obtain rfl := (smh h).symm; refine xD 0 ?_; exact xD 0 (xq_ () Tryd.results44 rfl rfl)
   replace h := cf hb19 h; exact kK (xB (xN (kR (zI (zS dA (zA (zN (xa (w64 (s12 + 1)) h))))))))
  replace h := cf hb14 h; exact kE (xT (xE (xH (xm () (innh h)))))
 intro s7 hx; have hx : z9 = .inl s7 := hx; subst hx; replace h := hz10; refine xN (sr (zA (nx (kT ?_)))); obtain rfl := (smh h).symm; refine xD 0 ?_; exact xD 0 (xq_ () Tryd.results44 rfl rfl)
def law33_example_1  (a0 : Int) (a1 : Int) (a2 : Int) (a3 : Int) : Option VInstr :=
 (some (⟨(⟨a0, a1, a2, 0, a3⟩ : Instr), []⟩ : VInstr))
theorem c_law33_example_1  (a0 : Int) (a1 : Int) (a2 : Int) (a3 : Int) (r : VInstr) (h : law33_example_1  a0 a1 a2 a3 = some r) : CallP Tryd.prog glob 66 [(tI a0), (tI a1), (tI a2), (tI a3)] (Ty.agg (S48 r)) := by
 refine call_of_code Tryd.func66 rfl Tryd.ntmps66 rfl (fun L w => ?_); change OkC _ _ _ [(0, (tI a0)), (1, (tI a1)), (2, (tI a2)), (3, (tI a3))] (L); unfold law33_example_1 at h; refine sr ?_; refine zO (oA [tZ, tZ, tZ, tZ, tZ, tN] v_48 (part_of (sub_agg [sZ, sZ, sZ, sZ, sZ, sN] rfl) (pA _)) (fun g1 => ?_)); refine nsr (zI (zI (zI (zI ?_)))); refine zS (does_build [(tI a0), (tI a1), (tI a2), tZ, (tI a3)] v_46 u_46 (places46 _ u_46) rfl (fc [(tI a0)] 0 rfl (pq_ (one_i _)) rfl rfl (fc [(tI a1)] 1 rfl (pq_ (one_i _)) rfl rfl (fc [(tI a2)] 2 rfl (pq_ (one_i _)) rfl rfl (fc [(tI a3)] 4 rfl (pq_ (one_i _)) rfl rfl (fn_ rfl)))))) ?_; refine zS (does_build [(tI a0), (tI a1), (tI a2), tZ, (tI a3), tN] v_48 u_48 (places48 _ u_48) rfl (fc [(tI a0), (tI a1), (tI a2), tZ, (tI a3)] 0 rfl (pA _) rfl rfl (fn_ rfl))) ?_; refine zB 0 (pA _) z_48 ?_; refine nx (kT ?_); obtain rfl := (smh h).symm; refine okX_blksub 0 [(tI a0), (tI a1), (tI a2), tZ, (tI a3), (tL 1 lI [])] (Item.blk g1 48 [(tI a0), (tI a1), (tI a2), tZ, (tI a3), (tL 1 lI [])] :: L) rfl (.cons (sub_refl _) (.cons (sub_refl _) (.cons (sub_refl _) (.cons (sub_refl _) (.cons (sub_refl _) (.cons (sub_nil _) SubL.nil)))))) rfl ?_; exact okX_retC () Tryd.results66 rfl 0 rfl a_48 z_48 rfl rfl [Item.blk g1 48 [(tI a0), (tI a1), (tI a2), tZ, (tI a3), (tL 1 lI [])]] (pm 0 rfl (pr _))
def vcode_form  (a0 : Int) : Option Int :=
 (cnd (a0 == 38) (some 5) (Option.bind (machine_Info a0) (fun r2 => (some r2.1.Form))))
theorem c_vcode_form  (a0 : Int) (r : Int) (h : vcode_form  a0 = some r) : CallP Tryd.prog glob 127 [(tI a0)] (tI r) := by
 refine call_of_code Tryd.func127 rfl Tryd.ntmps127 rfl (fun L w => ?_); change OkC _ _ _ [(0, (tI a0))] (L); unfold vcode_form at h; refine sr (zA (nx (kS (sr (zI (zS dE (nx ?_))))))); refine zC (fun hb1 => ?_) (fun hb1 => ?_)
 ·replace h := ct hb1 h; refine sr (zA (nx (kT (xR ?_)))); obtain rfl := (smh h).symm; exact xq_ () Tryd.results127 rfl rfl
 replace h := cf hb1 h; refine kK (xN (sr (zI ?_))); obtain ⟨r2, hc3, h⟩ := bs h; refine zS (cQ (c_machine_Info a0 r2 hc3) k_120) (zI ?_); refine zS dX ?_; refine zS dX ?_; refine zO (oA [(tS ⟨#[]⟩), tZ, (tB false), (tB false), (tB false), (tB false), tZ] v_113 (part_of (sub_agg [(.string ⟨#[]⟩), sZ, (.bool false), (.bool false), (.bool false), (.bool false), sZ] rfl) (pA _)) (fun g4 => ?_)); refine zB 0 (pA _) z_113 ?_; refine zA (nsr (zS (fB 1 u_113 z_3) (zS (lC a_3 0) (zA (nx (kT ?_)))))); obtain rfl := (smh h).symm; exact xD 0 (xq_ () Tryd.results127 rfl rfl)
def ref32_allowed  (a0 : Int) : Option Bool :=
 (Option.bind (cnd (a0 == 3) (some (a0 == 3)) (cnd (a0 == 6) (some (a0 == 6)) (cnd (a0 == 9) (some (a0 == 9)) (cnd (a0 == 10) (some (a0 == 10)) (cnd (a0 == 11) (some (a0 == 11)) (cnd (a0 == 12) (some (a0 == 12)) (cnd (a0 == 13) (some (a0 == 13)) (cnd (a0 == 33) (some (a0 == 33)) (cnd (a0 == 34) (some (a0 == 34)) (cnd (a0 == 35) (some (a0 == 35)) (some (a0 == 38)))))))))))) (fun s1 => (cnd s1 (some true) (some ((decide (a0 ≥ 15)) && (decide (a0 ≤ 32)))))))
theorem c_ref32_allowed  (a0 : Int) (r : Bool) (h : ref32_allowed  a0 = some r) : CallP Tryd.prog glob 81 [(tI a0)] (tB r) := by
 refine call_of_code Tryd.func81 rfl Tryd.ntmps81 rfl (fun L w => ?_); change OkC _ _ _ [(0, (tI a0))] (L); unfold ref32_allowed at h; refine sr (zA (nx (kS (sr (zI (nx (kB ?_))))))); obtain ⟨z3, h5, hz4⟩ := bs h; refine okC_meet (X := Bool) (fun x => z3 = x) (fun x => [(0, (tI a0)), (4, (tB x))]) (fun x => L) ?_ ?_
 ·refine sr (zS dE (zA (nx ?_))); refine zC (fun hb6 => ?_) (fun hb6 => ?_)
  ·replace h5 := ct hb6 h5; exact kK (xm (a0 == 3) (smh h5))
  replace h5 := cf hb6 h5; refine sr (zS dE (zA (nx ?_))); refine zC (fun hb7 => ?_) (fun hb7 => ?_)
  ·replace h5 := ct hb7 h5; exact kK (xm (a0 == 6) (smh h5))
  replace h5 := cf hb7 h5; refine sr (zS dE (zA (nx ?_))); refine zC (fun hb8 => ?_) (fun hb8 => ?_)
  ·replace h5 := ct hb8 h5; exact kK (xm (a0 == 9) (smh h5))
  replace h5 := cf hb8 h5; refine sr (zS dE (zA (nx ?_))); refine zC (fun hb9 => ?_) (fun hb9 => ?_)
  ·replace h5 := ct hb9 h5; exact kK (xm (a0 == 10) (smh h5))
  replace h5 := cf hb9 h5; refine sr (zS dE (zA (nx ?_))); refine zC (fun hb10 => ?_) (fun hb10 => ?_)
  ·replace h5 := ct hb10 h5; exact kK (xm (a0 == 11) (smh h5))
  replace h5 := cf hb10 h5; refine sr (zS dE (zA (nx ?_))); refine zC (fun hb11 => ?_) (fun hb11 => ?_)
  ·replace h5 := ct hb11 h5; exact kK (xm (a0 == 12) (smh h5))
  replace h5 := cf hb11 h5; refine sr (zS dE (zA (nx ?_))); refine zC (fun hb12 => ?_) (fun hb12 => ?_)
  ·replace h5 := ct hb12 h5; exact kK (xm (a0 == 13) (smh h5))
  replace h5 := cf hb12 h5; refine sr (zS dE (zA (nx ?_))); refine zC (fun hb13 => ?_) (fun hb13 => ?_)
  ·replace h5 := ct hb13 h5; exact kK (xm (a0 == 33) (smh h5))
  replace h5 := cf hb13 h5; refine sr (zS dE (zA (nx ?_))); refine zC (fun hb14 => ?_) (fun hb14 => ?_)
  ·replace h5 := ct hb14 h5; exact kK (xm (a0 == 34) (smh h5))
  replace h5 := cf hb14 h5; refine sr (zS dE (zA (nx ?_))); refine zC (fun hb15 => ?_) (fun hb15 => ?_)
  ·replace h5 := ct hb15 h5; exact kK (xm (a0 == 35) (smh h5))
  replace h5 := cf hb15 h5; exact kR (zS dE (zA (zN (xm (a0 == 38) (smh h5)))))
 intro s1 hx; obtain rfl : s1 = z3 := hx.symm; replace h := hz4; refine zC (fun hb16 => ?_) (fun hb16 => ?_)
 ·replace h := ct hb16 h; refine sr (zA (nx (kT ?_))); refine okX_block_ret ?_; refine xR ?_; obtain rfl := (smh h).symm; exact xq_ () Tryd.results81 rfl rfl
 replace h := cf hb16 h; refine kK (xB (xN (sr (zI (zS dG (zI ?_)))))); refine zT (z := ((decide (a0 ≥ 15)) && (decide (a0 ≤ 32)))) 3 21 ?_ ?_
 ·refine zP (decide (a0 ≥ 15)) (fun hb17 => ?_) (fun hb17 => ?_)
  ·refine zG hb17 dM ?_; refine zG hb17 dQ ?_; exact zS (pU hb17) (zN (xm (decide (a0 ≤ 32)) (and_t hb17)))
  (iterate 2 refine zK hb17 ?_); exact zS (pG hb17) (zN (xm false (and_f hb17)))
 refine zA (nx (kT ?_)); obtain rfl := (smh h).symm; exact xq_ () Tryd.results81 rfl rfl
def ref32_validEnd  (a0 : Block) (a1 : VFunc) : Option Bool :=
 (Option.bind (cnd (decide (a0.Target ≥ 0)) (cnd (decide (a0.Else ≥ 0)) (cnd (decide (a0.Reg ≥ 0)) (some ((decide (a0.Target < ((a1.Blocks).length : Int))), (decide (a0.Else < ((a1.Blocks).length : Int))), (decide (a0.Reg < a1.Regs)))) (some ((decide (a0.Target < ((a1.Blocks).length : Int))), (decide (a0.Else < ((a1.Blocks).length : Int))), false))) (cnd (decide (a0.Reg ≥ 0)) (some ((decide (a0.Target < ((a1.Blocks).length : Int))), false, (decide (a0.Reg < a1.Regs)))) (some ((decide (a0.Target < ((a1.Blocks).length : Int))), false, false)))) (cnd (decide (a0.Else ≥ 0)) (cnd (decide (a0.Reg ≥ 0)) (some (false, (decide (a0.Else < ((a1.Blocks).length : Int))), (decide (a0.Reg < a1.Regs)))) (some (false, (decide (a0.Else < ((a1.Blocks).length : Int))), false))) (cnd (decide (a0.Reg ≥ 0)) (some (false, false, (decide (a0.Reg < a1.Regs)))) (some (false, false, false))))) (fun s3 => (cnd (a0.End == 1) (some ((s3.1 && (a0.Else == 0)) && (a0.Reg == 0))) (cnd (a0.End == 2) (some ((s3.1 && s3.2.1) && s3.2.2)) (cnd (a0.End == 3) (some ((s3.2.2 && (a0.Target == 0)) && (a0.Else == 0))) (cnd (a0.End == 4) (some ((((decide (a0.Target ≥ 1)) && (decide (a0.Target < 33554432))) && (a0.Else == 0)) && (a0.Reg == 0))) (some false)))))))
theorem c_ref32_validEnd  (a0 : Block) (a1 : VFunc) (r : Bool) (h : ref32_validEnd  a0 a1 = some r) : CallP Tryd.prog glob 105 [(Ty.agg (S43 a0)), (Ty.agg (S27 a1))] (tB r) := by
 refine call_of_code Tryd.func105 rfl Tryd.ntmps105 rfl (fun L w => ?_); change OkC _ _ _ [(0, (Ty.agg (S43 a0))), (1, (Ty.agg (S27 a1)))] (L); unfold ref32_validEnd at h; refine sr ?_; refine zO (oB (S43 a0) rfl (pA _) (fun g1 => ?_)); refine zO (oB (S27 a1) rfl (pA _) (fun g2 => ?_)); refine zA (nsr (zS (fB 2 u_27 z_25) (zS (lC a_25 0) (zS (lM u_25) (zA (nx ?_)))))); obtain ⟨z5, h7, hz6⟩ := bs h; refine okC_meet (X := (Bool × Bool × Bool)) (fun x => z5 = x) (fun x => [(2, (pAt g1 0)), (6, (tB x.1)), (7, (tB x.2.1)), (8, (tB x.2.2))]) (fun x => Item.blk g2 27 (S27 a1) :: Item.blk g1 43 (S43 a0) :: L) ?_ ?_
 ·refine okC_cov [(2, (pAt g1 0)), (3, (pAt g2 0)), (5, (tI ((a1.Blocks).length : Int)))] cva ?_; refine okC_split (decide (a0.Target ≥ 0)) (fun hb8 => ?_) (fun hb8 => ?_)
  ·replace h7 := ct hb8 h7; refine okC_split (decide (a0.Else ≥ 0)) (fun hb9 => ?_) (fun hb9 => ?_)
   ·replace h7 := ct hb9 h7; refine okC_split (decide (a0.Reg ≥ 0)) (fun hb10 => ?_) (fun hb10 => ?_)
    ·replace h7 := ct hb10 h7; refine drL 30 _ [] (dp (fB 3 u_43 z_3) (dp (lC a_3 1) (dp dG (dm rfl (dn1 (draw_on 15 (decide (a0.Target ≥ 0)) rfl rfl rfl hb8 (fB 3 u_43 z_3)) (dn1 (draw_on 15 (decide (a0.Target ≥ 0)) rfl rfl rfl hb8 (lC a_3 1)) (dn1 (draw_on 15 (decide (a0.Target ≥ 0)) rfl rfl rfl hb8 dM) (dn1 (draw_on 15 (decide (a0.Target ≥ 0)) rfl rfl rfl hb8 dL) (dp (pU hb8) (dp (fB 4 u_43 z_3) (dp (lC a_3 1) (dp dG (dm rfl (dn1 (draw_on 24 (decide (a0.Else ≥ 0)) rfl rfl rfl hb9 (fB 4 u_43 z_3)) (dn1 (draw_on 24 (decide (a0.Else ≥ 0)) rfl rfl rfl hb9 (lC a_3 1)) (dn1 (draw_on 24 (decide (a0.Else ≥ 0)) rfl rfl rfl hb9 dM) (dn1 (draw_on 24 (decide (a0.Else ≥ 0)) rfl rfl rfl hb9 dL) (dp (pU hb9) (dp (fB 2 u_43 z_3) (dp (lC a_3 1) (dp dG (dm rfl (dn1 (draw_on 33 (decide (a0.Reg ≥ 0)) rfl rfl rfl hb10 (fB 2 u_43 z_3)) (dn1 (draw_on 33 (decide (a0.Reg ≥ 0)) rfl rfl rfl hb10 (lC a_3 1)) (dn1 (draw_on 33 (decide (a0.Reg ≥ 0)) rfl rfl rfl hb10 (fB 1 u_27 z_3)) (dn1 (draw_on 33 (decide (a0.Reg ≥ 0)) rfl rfl rfl hb10 (lC a_3 0)) (dn1 (draw_on 33 (decide (a0.Reg ≥ 0)) rfl rfl rfl hb10 dL) (dp (pU hb10) (dp (aS rfl) (dp (aS rfl) (dn))))))))))))))))))))))))))))))) ?_; refine ch_end ?_; exact zA (zN (xm ((decide (a0.Target < ((a1.Blocks).length : Int))), (decide (a0.Else < ((a1.Blocks).length : Int))), (decide (a0.Reg < a1.Regs))) (smh h7)))
    replace h7 := cf hb10 h7; refine drL 30 _ [] (dp (fB 3 u_43 z_3) (dp (lC a_3 1) (dp dG (dm rfl (dn1 (draw_on 15 (decide (a0.Target ≥ 0)) rfl rfl rfl hb8 (fB 3 u_43 z_3)) (dn1 (draw_on 15 (decide (a0.Target ≥ 0)) rfl rfl rfl hb8 (lC a_3 1)) (dn1 (draw_on 15 (decide (a0.Target ≥ 0)) rfl rfl rfl hb8 dM) (dn1 (draw_on 15 (decide (a0.Target ≥ 0)) rfl rfl rfl hb8 dL) (dp (pU hb8) (dp (fB 4 u_43 z_3) (dp (lC a_3 1) (dp dG (dm rfl (dn1 (draw_on 24 (decide (a0.Else ≥ 0)) rfl rfl rfl hb9 (fB 4 u_43 z_3)) (dn1 (draw_on 24 (decide (a0.Else ≥ 0)) rfl rfl rfl hb9 (lC a_3 1)) (dn1 (draw_on 24 (decide (a0.Else ≥ 0)) rfl rfl rfl hb9 dM) (dn1 (draw_on 24 (decide (a0.Else ≥ 0)) rfl rfl rfl hb9 dL) (dp (pU hb9) (dp (fB 2 u_43 z_3) (dp (lC a_3 1) (dp dG (dm rfl (dn1 (draw_off 33 (decide (a0.Reg ≥ 0)) rfl rfl rfl hb10) (dn1 (draw_off 33 (decide (a0.Reg ≥ 0)) rfl rfl rfl hb10) (dn1 (draw_off 33 (decide (a0.Reg ≥ 0)) rfl rfl rfl hb10) (dn1 (draw_off 33 (decide (a0.Reg ≥ 0)) rfl rfl rfl hb10) (dn1 (draw_off 33 (decide (a0.Reg ≥ 0)) rfl rfl rfl hb10) (dp (pG hb10) (dp (aS rfl) (dp (aS rfl) (dn))))))))))))))))))))))))))))))) ?_; refine ch_end ?_; exact zA (zN (xm ((decide (a0.Target < ((a1.Blocks).length : Int))), (decide (a0.Else < ((a1.Blocks).length : Int))), false) (smh h7)))
   replace h7 := cf hb9 h7; refine okC_split (decide (a0.Reg ≥ 0)) (fun hb11 => ?_) (fun hb11 => ?_)
   ·replace h7 := ct hb11 h7; refine drL 30 _ [] (dp (fB 3 u_43 z_3) (dp (lC a_3 1) (dp dG (dm rfl (dn1 (draw_on 15 (decide (a0.Target ≥ 0)) rfl rfl rfl hb8 (fB 3 u_43 z_3)) (dn1 (draw_on 15 (decide (a0.Target ≥ 0)) rfl rfl rfl hb8 (lC a_3 1)) (dn1 (draw_on 15 (decide (a0.Target ≥ 0)) rfl rfl rfl hb8 dM) (dn1 (draw_on 15 (decide (a0.Target ≥ 0)) rfl rfl rfl hb8 dL) (dp (pU hb8) (dp (fB 4 u_43 z_3) (dp (lC a_3 1) (dp dG (dm rfl (dn1 (draw_off 24 (decide (a0.Else ≥ 0)) rfl rfl rfl hb9) (dn1 (draw_off 24 (decide (a0.Else ≥ 0)) rfl rfl rfl hb9) (dn1 (draw_off 24 (decide (a0.Else ≥ 0)) rfl rfl rfl hb9) (dn1 (draw_off 24 (decide (a0.Else ≥ 0)) rfl rfl rfl hb9) (dp (pG hb9) (dp (fB 2 u_43 z_3) (dp (lC a_3 1) (dp dG (dm rfl (dn1 (draw_on 33 (decide (a0.Reg ≥ 0)) rfl rfl rfl hb11 (fB 2 u_43 z_3)) (dn1 (draw_on 33 (decide (a0.Reg ≥ 0)) rfl rfl rfl hb11 (lC a_3 1)) (dn1 (draw_on 33 (decide (a0.Reg ≥ 0)) rfl rfl rfl hb11 (fB 1 u_27 z_3)) (dn1 (draw_on 33 (decide (a0.Reg ≥ 0)) rfl rfl rfl hb11 (lC a_3 0)) (dn1 (draw_on 33 (decide (a0.Reg ≥ 0)) rfl rfl rfl hb11 dL) (dp (pU hb11) (dp (aS rfl) (dp (aS rfl) (dn))))))))))))))))))))))))))))))) ?_; refine ch_end ?_; exact zA (zN (xm ((decide (a0.Target < ((a1.Blocks).length : Int))), false, (decide (a0.Reg < a1.Regs))) (smh h7)))
   replace h7 := cf hb11 h7; refine drL 30 _ [] (dp (fB 3 u_43 z_3) (dp (lC a_3 1) (dp dG (dm rfl (dn1 (draw_on 15 (decide (a0.Target ≥ 0)) rfl rfl rfl hb8 (fB 3 u_43 z_3)) (dn1 (draw_on 15 (decide (a0.Target ≥ 0)) rfl rfl rfl hb8 (lC a_3 1)) (dn1 (draw_on 15 (decide (a0.Target ≥ 0)) rfl rfl rfl hb8 dM) (dn1 (draw_on 15 (decide (a0.Target ≥ 0)) rfl rfl rfl hb8 dL) (dp (pU hb8) (dp (fB 4 u_43 z_3) (dp (lC a_3 1) (dp dG (dm rfl (dn1 (draw_off 24 (decide (a0.Else ≥ 0)) rfl rfl rfl hb9) (dn1 (draw_off 24 (decide (a0.Else ≥ 0)) rfl rfl rfl hb9) (dn1 (draw_off 24 (decide (a0.Else ≥ 0)) rfl rfl rfl hb9) (dn1 (draw_off 24 (decide (a0.Else ≥ 0)) rfl rfl rfl hb9) (dp (pG hb9) (dp (fB 2 u_43 z_3) (dp (lC a_3 1) (dp dG (dm rfl (dn1 (draw_off 33 (decide (a0.Reg ≥ 0)) rfl rfl rfl hb11) (dn1 (draw_off 33 (decide (a0.Reg ≥ 0)) rfl rfl rfl hb11) (dn1 (draw_off 33 (decide (a0.Reg ≥ 0)) rfl rfl rfl hb11) (dn1 (draw_off 33 (decide (a0.Reg ≥ 0)) rfl rfl rfl hb11) (dn1 (draw_off 33 (decide (a0.Reg ≥ 0)) rfl rfl rfl hb11) (dp (pG hb11) (dp (aS rfl) (dp (aS rfl) (dn))))))))))))))))))))))))))))))) ?_; refine ch_end ?_; exact zA (zN (xm ((decide (a0.Target < ((a1.Blocks).length : Int))), false, false) (smh h7)))
  replace h7 := cf hb8 h7; refine okC_split (decide (a0.Else ≥ 0)) (fun hb12 => ?_) (fun hb12 => ?_)
  ·replace h7 := ct hb12 h7; refine okC_split (decide (a0.Reg ≥ 0)) (fun hb13 => ?_) (fun hb13 => ?_)
   ·replace h7 := ct hb13 h7; refine drL 30 _ [] (dp (fB 3 u_43 z_3) (dp (lC a_3 1) (dp dG (dm rfl (dn1 (draw_off 15 (decide (a0.Target ≥ 0)) rfl rfl rfl hb8) (dn1 (draw_off 15 (decide (a0.Target ≥ 0)) rfl rfl rfl hb8) (dn1 (draw_off 15 (decide (a0.Target ≥ 0)) rfl rfl rfl hb8) (dn1 (draw_off 15 (decide (a0.Target ≥ 0)) rfl rfl rfl hb8) (dp (pG hb8) (dp (fB 4 u_43 z_3) (dp (lC a_3 1) (dp dG (dm rfl (dn1 (draw_on 24 (decide (a0.Else ≥ 0)) rfl rfl rfl hb12 (fB 4 u_43 z_3)) (dn1 (draw_on 24 (decide (a0.Else ≥ 0)) rfl rfl rfl hb12 (lC a_3 1)) (dn1 (draw_on 24 (decide (a0.Else ≥ 0)) rfl rfl rfl hb12 dM) (dn1 (draw_on 24 (decide (a0.Else ≥ 0)) rfl rfl rfl hb12 dL) (dp (pU hb12) (dp (fB 2 u_43 z_3) (dp (lC a_3 1) (dp dG (dm rfl (dn1 (draw_on 33 (decide (a0.Reg ≥ 0)) rfl rfl rfl hb13 (fB 2 u_43 z_3)) (dn1 (draw_on 33 (decide (a0.Reg ≥ 0)) rfl rfl rfl hb13 (lC a_3 1)) (dn1 (draw_on 33 (decide (a0.Reg ≥ 0)) rfl rfl rfl hb13 (fB 1 u_27 z_3)) (dn1 (draw_on 33 (decide (a0.Reg ≥ 0)) rfl rfl rfl hb13 (lC a_3 0)) (dn1 (draw_on 33 (decide (a0.Reg ≥ 0)) rfl rfl rfl hb13 dL) (dp (pU hb13) (dp (aS rfl) (dp (aS rfl) (dn))))))))))))))))))))))))))))))) ?_; refine ch_end ?_; exact zA (zN (xm (false, (decide (a0.Else < ((a1.Blocks).length : Int))), (decide (a0.Reg < a1.Regs))) (smh h7)))
   replace h7 := cf hb13 h7; refine drL 30 _ [] (dp (fB 3 u_43 z_3) (dp (lC a_3 1) (dp dG (dm rfl (dn1 (draw_off 15 (decide (a0.Target ≥ 0)) rfl rfl rfl hb8) (dn1 (draw_off 15 (decide (a0.Target ≥ 0)) rfl rfl rfl hb8) (dn1 (draw_off 15 (decide (a0.Target ≥ 0)) rfl rfl rfl hb8) (dn1 (draw_off 15 (decide (a0.Target ≥ 0)) rfl rfl rfl hb8) (dp (pG hb8) (dp (fB 4 u_43 z_3) (dp (lC a_3 1) (dp dG (dm rfl (dn1 (draw_on 24 (decide (a0.Else ≥ 0)) rfl rfl rfl hb12 (fB 4 u_43 z_3)) (dn1 (draw_on 24 (decide (a0.Else ≥ 0)) rfl rfl rfl hb12 (lC a_3 1)) (dn1 (draw_on 24 (decide (a0.Else ≥ 0)) rfl rfl rfl hb12 dM) (dn1 (draw_on 24 (decide (a0.Else ≥ 0)) rfl rfl rfl hb12 dL) (dp (pU hb12) (dp (fB 2 u_43 z_3) (dp (lC a_3 1) (dp dG (dm rfl (dn1 (draw_off 33 (decide (a0.Reg ≥ 0)) rfl rfl rfl hb13) (dn1 (draw_off 33 (decide (a0.Reg ≥ 0)) rfl rfl rfl hb13) (dn1 (draw_off 33 (decide (a0.Reg ≥ 0)) rfl rfl rfl hb13) (dn1 (draw_off 33 (decide (a0.Reg ≥ 0)) rfl rfl rfl hb13) (dn1 (draw_off 33 (decide (a0.Reg ≥ 0)) rfl rfl rfl hb13) (dp (pG hb13) (dp (aS rfl) (dp (aS rfl) (dn))))))))))))))))))))))))))))))) ?_; refine ch_end ?_; exact zA (zN (xm (false, (decide (a0.Else < ((a1.Blocks).length : Int))), false) (smh h7)))
  replace h7 := cf hb12 h7; refine okC_split (decide (a0.Reg ≥ 0)) (fun hb14 => ?_) (fun hb14 => ?_)
  ·replace h7 := ct hb14 h7; refine drL 30 _ [] (dp (fB 3 u_43 z_3) (dp (lC a_3 1) (dp dG (dm rfl (dn1 (draw_off 15 (decide (a0.Target ≥ 0)) rfl rfl rfl hb8) (dn1 (draw_off 15 (decide (a0.Target ≥ 0)) rfl rfl rfl hb8) (dn1 (draw_off 15 (decide (a0.Target ≥ 0)) rfl rfl rfl hb8) (dn1 (draw_off 15 (decide (a0.Target ≥ 0)) rfl rfl rfl hb8) (dp (pG hb8) (dp (fB 4 u_43 z_3) (dp (lC a_3 1) (dp dG (dm rfl (dn1 (draw_off 24 (decide (a0.Else ≥ 0)) rfl rfl rfl hb12) (dn1 (draw_off 24 (decide (a0.Else ≥ 0)) rfl rfl rfl hb12) (dn1 (draw_off 24 (decide (a0.Else ≥ 0)) rfl rfl rfl hb12) (dn1 (draw_off 24 (decide (a0.Else ≥ 0)) rfl rfl rfl hb12) (dp (pG hb12) (dp (fB 2 u_43 z_3) (dp (lC a_3 1) (dp dG (dm rfl (dn1 (draw_on 33 (decide (a0.Reg ≥ 0)) rfl rfl rfl hb14 (fB 2 u_43 z_3)) (dn1 (draw_on 33 (decide (a0.Reg ≥ 0)) rfl rfl rfl hb14 (lC a_3 1)) (dn1 (draw_on 33 (decide (a0.Reg ≥ 0)) rfl rfl rfl hb14 (fB 1 u_27 z_3)) (dn1 (draw_on 33 (decide (a0.Reg ≥ 0)) rfl rfl rfl hb14 (lC a_3 0)) (dn1 (draw_on 33 (decide (a0.Reg ≥ 0)) rfl rfl rfl hb14 dL) (dp (pU hb14) (dp (aS rfl) (dp (aS rfl) (dn))))))))))))))))))))))))))))))) ?_; refine ch_end ?_; exact zA (zN (xm (false, false, (decide (a0.Reg < a1.Regs))) (smh h7)))
  replace h7 := cf hb14 h7; refine drL 30 _ [] (dp (fB 3 u_43 z_3) (dp (lC a_3 1) (dp dG (dm rfl (dn1 (draw_off 15 (decide (a0.Target ≥ 0)) rfl rfl rfl hb8) (dn1 (draw_off 15 (decide (a0.Target ≥ 0)) rfl rfl rfl hb8) (dn1 (draw_off 15 (decide (a0.Target ≥ 0)) rfl rfl rfl hb8) (dn1 (draw_off 15 (decide (a0.Target ≥ 0)) rfl rfl rfl hb8) (dp (pG hb8) (dp (fB 4 u_43 z_3) (dp (lC a_3 1) (dp dG (dm rfl (dn1 (draw_off 24 (decide (a0.Else ≥ 0)) rfl rfl rfl hb12) (dn1 (draw_off 24 (decide (a0.Else ≥ 0)) rfl rfl rfl hb12) (dn1 (draw_off 24 (decide (a0.Else ≥ 0)) rfl rfl rfl hb12) (dn1 (draw_off 24 (decide (a0.Else ≥ 0)) rfl rfl rfl hb12) (dp (pG hb12) (dp (fB 2 u_43 z_3) (dp (lC a_3 1) (dp dG (dm rfl (dn1 (draw_off 33 (decide (a0.Reg ≥ 0)) rfl rfl rfl hb14) (dn1 (draw_off 33 (decide (a0.Reg ≥ 0)) rfl rfl rfl hb14) (dn1 (draw_off 33 (decide (a0.Reg ≥ 0)) rfl rfl rfl hb14) (dn1 (draw_off 33 (decide (a0.Reg ≥ 0)) rfl rfl rfl hb14) (dn1 (draw_off 33 (decide (a0.Reg ≥ 0)) rfl rfl rfl hb14) (dp (pG hb14) (dp (aS rfl) (dp (aS rfl) (dn))))))))))))))))))))))))))))))) ?_; refine ch_end ?_; exact zA (zN (xm (false, false, false) (smh h7)))
 intro s3 hx; obtain rfl : s3 = z5 := hx.symm; replace h := hz6; refine kS (sr (zS (fB 1 u_43 z_3) (zS (lC a_3 1) (nx (kB (sr (zS dE ?_))))))); refine zA (nx ?_); refine zC (fun hb15 => ?_) (fun hb15 => ?_)
 ·replace h := ct hb15 h; refine sr (zI (zI ?_)); refine zT (z := (s3.1 && (a0.Else == 0))) 4 49 ?_ ?_
  ·refine zP s3.1 (fun hb16 => ?_) (fun hb16 => ?_)
   ·refine zG hb16 (fB 4 u_43 z_3) ?_; refine zG hb16 (lC a_3 1) ?_; refine zG hb16 dE ?_; exact zS (pU hb16) (zN (xm (a0.Else == 0) (and_t hb16)))
   (iterate 3 refine zK hb16 ?_); exact zS (pG hb16) (zN (xm false (and_f hb16)))
  refine zI ?_; refine zT (z := ((s3.1 && (a0.Else == 0)) && (a0.Reg == 0))) 4 54 ?_ ?_
  ·refine zP (s3.1 && (a0.Else == 0)) (fun hb17 => ?_) (fun hb17 => ?_)
   ·refine zG hb17 (fB 2 u_43 z_3) ?_; refine zG hb17 (lC a_3 1) ?_; refine zG hb17 dE ?_; exact zS (pU hb17) (zN (xm (a0.Reg == 0) (and_t hb17)))
   (iterate 3 refine zK hb17 ?_); exact zS (pG hb17) (zN (xm false (and_f hb17)))
  refine zA (nx (kT ?_)); refine okX_block_ret ?_; refine xR ?_; obtain rfl := (smh h).symm; refine xD 0 ?_; exact xD 0 (xq_ () Tryd.results105 rfl rfl)
 replace h := cf hb15 h; refine sr (zS dE (zA (nx ?_))); refine zC (fun hb20 => ?_) (fun hb20 => ?_)
 ·replace h := ct hb20 h; refine sr (zI (zI ?_)); refine zT (z := (s3.1 && s3.2.1)) 2 60 ?_ ?_
  ·refine zP s3.1 (fun hb21 => ?_) (fun hb21 => ?_)
   ·refine zG hb21 dM ?_; exact zS (pU hb21) (zN (xm s3.2.1 (and_t hb21)))
   refine zK hb21 ?_; exact zS (pG hb21) (zN (xm false (and_f hb21)))
  refine zI ?_; refine zT (z := ((s3.1 && s3.2.1) && s3.2.2)) 2 63 ?_ ?_
  ·refine zP (s3.1 && s3.2.1) (fun hb22 => ?_) (fun hb22 => ?_)
   ·refine zG hb22 dM ?_; exact zS (pU hb22) (zN (xm s3.2.2 (and_t hb22)))
   refine zK hb22 ?_; exact zS (pG hb22) (zN (xm false (and_f hb22)))
  refine zA (nx (kT ?_)); refine okX_block_ret ?_; refine xR ?_; obtain rfl := (smh h).symm; refine xD 0 ?_; exact xD 0 (xq_ () Tryd.results105 rfl rfl)
 replace h := cf hb20 h; refine sr (zS dE (zA (nx ?_))); refine zC (fun hb25 => ?_) (fun hb25 => ?_)
 ·replace h := ct hb25 h; refine sr (zI (zI ?_)); refine zT (z := (s3.2.2 && (a0.Target == 0))) 4 71 ?_ ?_
  ·refine zP s3.2.2 (fun hb26 => ?_) (fun hb26 => ?_)
   ·refine zG hb26 (fB 3 u_43 z_3) ?_; refine zG hb26 (lC a_3 1) ?_; refine zG hb26 dE ?_; exact zS (pU hb26) (zN (xm (a0.Target == 0) (and_t hb26)))
   (iterate 3 refine zK hb26 ?_); exact zS (pG hb26) (zN (xm false (and_f hb26)))
  refine zI ?_; refine zT (z := ((s3.2.2 && (a0.Target == 0)) && (a0.Else == 0))) 4 76 ?_ ?_
  ·refine zP (s3.2.2 && (a0.Target == 0)) (fun hb27 => ?_) (fun hb27 => ?_)
   ·refine zG hb27 (fB 4 u_43 z_3) ?_; refine zG hb27 (lC a_3 1) ?_; refine zG hb27 dE ?_; exact zS (pU hb27) (zN (xm (a0.Else == 0) (and_t hb27)))
   (iterate 3 refine zK hb27 ?_); exact zS (pG hb27) (zN (xm false (and_f hb27)))
  refine zA (nx (kT ?_)); refine okX_block_ret ?_; refine xR ?_; obtain rfl := (smh h).symm; refine xD 0 ?_; exact xD 0 (xq_ () Tryd.results105 rfl rfl)
 replace h := cf hb25 h; refine sr (zS dE (zA (nx ?_))); refine zC (fun hb30 => ?_) (fun hb30 => ?_)
 ·replace h := ct hb30 h; refine sr (zS (fB 3 u_43 z_3) (zS (lC a_3 1) (zS dG (zI ?_)))); refine zT (z := ((decide (a0.Target ≥ 1)) && (decide (a0.Target < 33554432)))) 4 86 ?_ ?_
  ·refine zP (decide (a0.Target ≥ 1)) (fun hb31 => ?_) (fun hb31 => ?_)
   ·refine zG hb31 (fB 3 u_43 z_3) ?_; refine zG hb31 (lC a_3 1) ?_; refine zG hb31 dL ?_; exact zS (pU hb31) (zN (xm (decide (a0.Target < 33554432)) (and_t hb31)))
   (iterate 3 refine zK hb31 ?_); exact zS (pG hb31) (zN (xm false (and_f hb31)))
  refine zI ?_; refine zT (z := (((decide (a0.Target ≥ 1)) && (decide (a0.Target < 33554432))) && (a0.Else == 0))) 4 91 ?_ ?_
  ·refine zP ((decide (a0.Target ≥ 1)) && (decide (a0.Target < 33554432))) (fun hb32 => ?_) (fun hb32 => ?_)
   ·refine zG hb32 (fB 4 u_43 z_3) ?_; refine zG hb32 (lC a_3 1) ?_; refine zG hb32 dE ?_; exact zS (pU hb32) (zN (xm (a0.Else == 0) (and_t hb32)))
   (iterate 3 refine zK hb32 ?_); exact zS (pG hb32) (zN (xm false (and_f hb32)))
  refine zI ?_; refine zT (z := ((((decide (a0.Target ≥ 1)) && (decide (a0.Target < 33554432))) && (a0.Else == 0)) && (a0.Reg == 0))) 4 96 ?_ ?_
  ·refine zP (((decide (a0.Target ≥ 1)) && (decide (a0.Target < 33554432))) && (a0.Else == 0)) (fun hb33 => ?_) (fun hb33 => ?_)
   ·refine zG hb33 (fB 2 u_43 z_3) ?_; refine zG hb33 (lC a_3 1) ?_; refine zG hb33 dE ?_; exact zS (pU hb33) (zN (xm (a0.Reg == 0) (and_t hb33)))
   (iterate 3 refine zK hb33 ?_); exact zS (pG hb33) (zN (xm false (and_f hb33)))
  refine zA (nx (kT ?_)); refine okX_block_ret ?_; refine xR ?_; obtain rfl := (smh h).symm; refine xD 0 ?_; exact xD 0 (xq_ () Tryd.results105 rfl rfl)
 replace h := cf hb30 h; refine kK (xB (xN (sr (zA (nx (kT ?_)))))); obtain rfl := (smh h).symm; refine xD 0 ?_; exact xD 0 (xq_ () Tryd.results105 rfl rfl)
def ref29_IsBinary  (a0 : Int) : Option Bool :=
 (some ((decide (a0 ≥ 17)) && (decide (a0 ≤ 32))))
theorem c_ref29_IsBinary  (a0 : Int) (r : Bool) (h : ref29_IsBinary  a0 = some r) : CallP Tryd.prog glob 124 [(tI a0)] (tB r) := by
 refine call_of_code Tryd.func124 rfl Tryd.ntmps124 rfl (fun L w => ?_); change OkC _ _ _ [(0, (tI a0))] (L); unfold ref29_IsBinary at h; refine sr (zA (nsr (zI (zS dG (zI ?_))))); refine zT (z := ((decide (a0 ≥ 17)) && (decide (a0 ≤ 32)))) 3 8 ?_ ?_
 ·refine zP (decide (a0 ≥ 17)) (fun hb1 => ?_) (fun hb1 => ?_)
  ·refine zG hb1 dM ?_; refine zG hb1 dQ ?_; exact zS (pU hb1) (zN (xm (decide (a0 ≤ 32)) (and_t hb1)))
  (iterate 2 refine zK hb1 ?_); exact zS (pG hb1) (zN (xm false (and_f hb1)))
 refine zA (nx (kT ?_)); obtain rfl := (smh h).symm; exact xq_ () Tryd.results124 rfl rfl
def ref32_validOperand  (a0 : Bool) (a1 : Int) (a2 : Int) : Option Bool :=
 (cnd a0 (some ((decide (a1 ≥ 0)) && (decide (a1 < a2)))) (some (a1 == 0)))
theorem c_ref32_validOperand  (a0 : Bool) (a1 : Int) (a2 : Int) (r : Bool) (h : ref32_validOperand  a0 a1 a2 = some r) : CallP Tryd.prog glob 128 [(tB a0), (tI a1), (tI a2)] (tB r) := by
 refine call_of_code Tryd.func128 rfl Tryd.ntmps128 rfl (fun L w => ?_); change OkC _ _ _ [(0, (tB a0)), (1, (tI a1)), (2, (tI a2))] (L); unfold ref32_validOperand at h; refine sr (zA (nx (kS (sr (zI (nx ?_)))))); refine zC (fun hb1 => ?_) (fun hb1 => ?_)
 ·replace h := ct hb1 h; refine sr (zI (zS dG (zI ?_))); refine zT (z := ((decide (a1 ≥ 0)) && (decide (a1 < a2)))) 4 14 ?_ ?_
  ·refine zP (decide (a1 ≥ 0)) (fun hb2 => ?_) (fun hb2 => ?_)
   ·refine zG hb2 dM ?_; refine zG hb2 dM ?_; refine zG hb2 dL ?_; exact zS (pU hb2) (zN (xm (decide (a1 < a2)) (and_t hb2)))
   (iterate 3 refine zK hb2 ?_); exact zS (pG hb2) (zN (xm false (and_f hb2)))
  refine zA (nx (kT (xR ?_))); obtain rfl := (smh h).symm; exact xq_ () Tryd.results128 rfl rfl
 replace h := cf hb1 h; refine kK (xN (sr (zI (zS dE (zA (nx (kT ?_))))))); obtain rfl := (smh h).symm; exact xq_ () Tryd.results128 rfl rfl
def ref29_Unary  (a0 : Int) (a1 : Int) : Option Int :=
 (cnd (a0 == 15) (some (w64 (0 - a1))) (some (w64 ((-1) - a1))))
theorem c_ref29_Unary  (a0 : Int) (a1 : Int) (r : Int) (h : ref29_Unary  a0 a1 = some r) : CallP Tryd.prog glob 129 [(tI a0), (tI a1)] (tI r) := by
 refine call_of_code Tryd.func129 rfl Tryd.ntmps129 rfl (fun L w => ?_); change OkC _ _ _ [(0, (tI a0)), (1, (tI a1))] (L); unfold ref29_Unary at h; refine sr (zA (nx (kS (sr (zI (zS dE (nx ?_))))))); refine zC (fun hb1 => ?_) (fun hb1 => ?_)
 ·replace h := ct hb1 h; refine sr (zI (zS dS (zA (nx (kT (xR ?_)))))); obtain rfl := (smh h).symm; exact xq_ () Tryd.results129 rfl rfl
 replace h := cf hb1 h; refine kK (xN (sr (zI (zS dS (zA (nx (kT ?_))))))); obtain rfl := (smh h).symm; exact xq_ () Tryd.results129 rfl rfl
def ref29_one  (a0 : Bool) : Option Int :=
 (cnd a0 (some 1) (some 0))
theorem c_ref29_one  (a0 : Bool) (r : Int) (h : ref29_one  a0 = some r) : CallP Tryd.prog glob 132 [(tB a0)] (tI r) := by
 refine call_of_code Tryd.func132 rfl Tryd.ntmps132 rfl (fun L w => ?_); change OkC _ _ _ [(0, (tB a0))] (L); unfold ref29_one at h; refine sr (zA (nx (kS (sr (zI (nx ?_)))))); refine zC (fun hb1 => ?_) (fun hb1 => ?_)
 ·replace h := ct hb1 h; refine sr (zA (nx (kT (xR ?_)))); obtain rfl := (smh h).symm; exact xq_ () Tryd.results132 rfl rfl
 replace h := cf hb1 h; refine kK (xN (sr (zA (nx (kT ?_))))); obtain rfl := (smh h).symm; exact xq_ () Tryd.results132 rfl rfl
def law33_example  : Option VFunc :=
 (Option.bind (law33_example_1 13 0 0 0) (fun r2 => (Option.bind (law33_example_1 38 1 0 0) (fun r4 => (Option.bind (law33_example_1 3 0 0 0) (fun r6 => (Option.bind (law33_example_1 17 0 1 0) (fun r8 => (Option.bind (law33_example_1 33 1 0 (-1)) (fun r10 => (Option.bind (law33_example_1 13 2 0 5) (fun r12 => (some (⟨1, 3, ([(⟨([r2, r4] : List VInstr), 1, 0, 1, 0⟩ : Block), (⟨([r6, r8, r10, r12] : List VInstr), 2, 1, 1, 2⟩ : Block), (⟨[], 3, 0, 0, 0⟩ : Block)] : List Block)⟩ : VFunc))))))))))))))
theorem c_law33_example  (r : VFunc) (h : law33_example  = some r) : CallP Tryd.prog glob 23 [] (Ty.agg (S27 r)) := by
 refine call_of_code Tryd.func23 rfl Tryd.ntmps23 rfl (fun L w => ?_); change OkC _ _ _ [] (L); unfold law33_example at h; refine sr ?_; refine zO (oA [tZ, tZ, tN] v_27 (part_of (sub_agg [sZ, sZ, sN] rfl) (pA _)) (fun g1 => ?_)); refine nsr (zA (nsr (zI ?_))); obtain ⟨r2, hc3, h⟩ := bs h; refine zS (cQ (c_law33_example_1 13 0 0 0 r2 hc3) k_66) (zI ?_); obtain ⟨r4, hc5, h⟩ := bs h; refine zS (cQ (c_law33_example_1 38 1 0 0 r4 hc5) k_66) ?_; refine zS (bS (f := VInstr.ty) ([r2, r4] : List VInstr) [(tI r2.Instr.Op), (tI r2.Instr.A), (tI r2.Instr.B), (tI r2.Instr.C), (tI r2.Instr.N), (tL 1 lI r2.Args), (tI r4.Instr.Op), (tI r4.Instr.A), (tI r4.Instr.B), (tI r4.Instr.C), (tI r4.Instr.N), (tL 1 lI r4.Args)] el41 rfl rfl rfl (fc (S48 r2) 0 rfl (pA _) rfl rfl (fc (S48 r4) 6 rfl (pA _) rfl rfl (fn_ rfl))) rfl (fun _ => rfl)) ?_; refine zS (does_build [(tL 6 VInstr.ty ([r2, r4] : List VInstr)), (tI 1), tZ, (tI 1), tZ] v_43 u_43 (places43 _ u_43) rfl (fc [(tL 6 VInstr.ty ([r2, r4] : List VInstr))] 0 rfl (pq_ (one_slice _ _)) rfl rfl (fc [(tI 1)] 1 rfl (pq_ (one_i _)) rfl rfl (fc [(tI 1)] 3 rfl (pq_ (one_i _)) rfl rfl (fn_ rfl))))) ?_; refine zI ?_; obtain ⟨r6, hc7, h⟩ := bs h; refine zS (cQ (c_law33_example_1 3 0 0 0 r6 hc7) k_66) (zI ?_); obtain ⟨r8, hc9, h⟩ := bs h; refine zS (cQ (c_law33_example_1 17 0 1 0 r8 hc9) k_66) (zI ?_); obtain ⟨r10, hc11, h⟩ := bs h; refine zS (cQ (c_law33_example_1 33 1 0 (-1) r10 hc11) k_66) (zI ?_); obtain ⟨r12, hc13, h⟩ := bs h; refine zS (cQ (c_law33_example_1 13 2 0 5 r12 hc13) k_66) ?_; refine zS (bS (f := VInstr.ty) ([r6, r8, r10, r12] : List VInstr) [(tI r6.Instr.Op), (tI r6.Instr.A), (tI r6.Instr.B), (tI r6.Instr.C), (tI r6.Instr.N), (tL 1 lI r6.Args), (tI r8.Instr.Op), (tI r8.Instr.A), (tI r8.Instr.B), (tI r8.Instr.C), (tI r8.Instr.N), (tL 1 lI r8.Args), (tI r10.Instr.Op), (tI r10.Instr.A), (tI r10.Instr.B), (tI r10.Instr.C), (tI r10.Instr.N), (tL 1 lI r10.Args), (tI r12.Instr.Op), (tI r12.Instr.A), (tI r12.Instr.B), (tI r12.Instr.C), (tI r12.Instr.N), (tL 1 lI r12.Args)] el41 rfl rfl rfl (fc (S48 r6) 0 rfl (pA _) rfl rfl (fc (S48 r8) 6 rfl (pA _) rfl rfl (fc (S48 r10) 12 rfl (pA _) rfl rfl (fc (S48 r12) 18 rfl (pA _) rfl rfl (fn_ rfl))))) rfl (fun _ => rfl)) ?_; refine zS (does_build [(tL 6 VInstr.ty ([r6, r8, r10, r12] : List VInstr)), (tI 2), (tI 1), (tI 1), (tI 2)] v_43 u_43 (places43 _ u_43) rfl (fc [(tL 6 VInstr.ty ([r6, r8, r10, r12] : List VInstr))] 0 rfl (pq_ (one_slice _ _)) rfl rfl (fc [(tI 2)] 1 rfl (pq_ (one_i _)) rfl rfl (fc [(tI 1)] 2 rfl (pq_ (one_i _)) rfl rfl (fc [(tI 1)] 3 rfl (pq_ (one_i _)) rfl rfl (fc [(tI 2)] 4 rfl (pq_ (one_i _)) rfl rfl (fn_ rfl))))))) ?_; refine zS (does_build [tN, (tI 3), tZ, tZ, tZ] v_43 u_43 (places43 _ u_43) rfl (fc [(tI 3)] 1 rfl (pq_ (one_i _)) rfl rfl (fn_ rfl))) ?_; refine zS (bS (f := Block.ty) ([(⟨([r2, r4] : List VInstr), 1, 0, 1, 0⟩ : Block), (⟨([r6, r8, r10, r12] : List VInstr), 2, 1, 1, 2⟩ : Block), (⟨[], 3, 0, 0, 0⟩ : Block)] : List Block) [(tL 6 VInstr.ty ([r2, r4] : List VInstr)), (tI 1), tZ, (tI 1), tZ, (tL 6 VInstr.ty ([r6, r8, r10, r12] : List VInstr)), (tI 2), (tI 1), (tI 1), (tI 2), (tL 6 VInstr.ty []), (tI 3), tZ, tZ, tZ] el25 rfl rfl rfl (fc [(tL 6 VInstr.ty ([r2, r4] : List VInstr)), (tI 1), tZ, (tI 1), tZ] 0 rfl (pA _) rfl rfl (fc [(tL 6 VInstr.ty ([r6, r8, r10, r12] : List VInstr)), (tI 2), (tI 1), (tI 1), (tI 2)] 5 rfl (pA _) rfl rfl (fc [(tL 6 VInstr.ty []), (tI 3), tZ, tZ, tZ] 10 rfl (part_sub (pA _) (.cons (sub_nil _) (.cons (sub_refl _) (.cons (sub_refl _) (.cons (sub_refl _) (.cons (sub_refl _) SubL.nil)))))) rfl rfl (fn_ rfl)))) rfl (fun _ => rfl)) ?_; refine zS (does_build [(tI 1), (tI 3), (tL 5 Block.ty ([(⟨([r2, r4] : List VInstr), 1, 0, 1, 0⟩ : Block), (⟨([r6, r8, r10, r12] : List VInstr), 2, 1, 1, 2⟩ : Block), (⟨[], 3, 0, 0, 0⟩ : Block)] : List Block))] v_27 u_27 (places27 _ u_27) rfl (fc [(tI 1)] 0 rfl (pq_ (one_i _)) rfl rfl (fc [(tI 3)] 1 rfl (pq_ (one_i _)) rfl rfl (fc [(tL 5 Block.ty ([(⟨([r2, r4] : List VInstr), 1, 0, 1, 0⟩ : Block), (⟨([r6, r8, r10, r12] : List VInstr), 2, 1, 1, 2⟩ : Block), (⟨[], 3, 0, 0, 0⟩ : Block)] : List Block))] 2 rfl (pq_ (one_slice _ _)) rfl rfl (fn_ rfl))))) ?_; refine zB 0 (pA _) z_27 ?_; refine nx (kT ?_); obtain rfl := (smh h).symm; exact okX_retC () Tryd.results23 rfl 0 rfl a_27 z_27 rfl rfl [Item.blk g1 27 [(tI 1), (tI 3), (tL 5 Block.ty ([(⟨([r2, r4] : List VInstr), 1, 0, 1, 0⟩ : Block), (⟨([r6, r8, r10, r12] : List VInstr), 2, 1, 1, 2⟩ : Block), (⟨[], 3, 0, 0, 0⟩ : Block)] : List Block))]] (pm 0 rfl (pr _))
def ref29_Binary  (a0 : Int) (a1 : Int) (a2 : Int) : Option Int :=
 (cnd (a0 == 17) (some (w64 (a1 + a2))) (cnd (a0 == 18) (some (w64 (a1 - a2))) (cnd (a0 == 19) (some (w64 (a1 * a2))) (cnd (a0 == 20) (cnd (a2 == 0) (some 0) (cnd (a2 == (-1)) (some (w64 (0 - a1))) (guardO (a2 != 0) (some (w64 (Int.tdiv a1 a2)))))) (cnd (a0 == 21) (cnd ((a2 == 0) || (a2 == (-1))) (some 0) (guardO (a2 != 0) (some (Int.tmod a1 a2)))) (cnd (a0 == 22) (some (bAnd .i64 a1 a2)) (cnd (a0 == 23) (some (bOr .i64 a1 a2)) (cnd (a0 == 24) (some (bXor .i64 a1 a2)) (cnd (a0 == 25) (some (w64 (bShl .u64 (u64 a1) (u64 (bAnd .i64 a2 63))))) (cnd (a0 == 26) (some (w64 (bShr .u64 (u64 a1) (u64 (bAnd .i64 a2 63))))) (cnd (a0 == 27) (some (bShr .i64 a1 (u64 (bAnd .i64 a2 63)))) (cnd (a0 == 28) (Option.bind (ref29_one (a1 == a2)) (fun r20 => (some r20))) (cnd (a0 == 29) (Option.bind (ref29_one (a1 != a2)) (fun r23 => (some r23))) (cnd (a0 == 30) (Option.bind (ref29_one (decide (a1 < a2))) (fun r26 => (some r26))) (cnd (a0 == 31) (Option.bind (ref29_one (decide (a1 ≤ a2))) (fun r29 => (some r29))) (Option.bind (ref29_one (decide ((u64 a1) < (u64 a2)))) (fun r31 => (some r31))))))))))))))))))
theorem c_ref29_Binary  (a0 : Int) (a1 : Int) (a2 : Int) (r : Int) (h : ref29_Binary  a0 a1 a2 = some r) : CallP Tryd.prog glob 131 [(tI a0), (tI a1), (tI a2)] (tI r) := by
 refine call_of_code Tryd.func131 rfl Tryd.ntmps131 rfl (fun L w => ?_); change OkC _ _ _ [(0, (tI a0)), (1, (tI a1)), (2, (tI a2))] (L); unfold ref29_Binary at h; refine sr (zA (nsr (zI ?_))); refine zS (does_and rfl rfl) ?_; refine zS (does_convert u_2 u_138 rfl) ?_; refine zA (nx (kS (sr (zI (nx (kB (sr ?_))))))); refine zS dE (zA (nx ?_)); refine zC (fun hb1 => ?_) (fun hb1 => ?_)
 ·replace h := ct hb1 h; refine sr (zI (zI (zS dA (zA (nx (kT ?_)))))); refine okX_block_ret ?_; refine xR ?_; obtain rfl := (smh h).symm; exact xq_ () Tryd.results131 rfl rfl
 replace h := cf hb1 h; refine sr (zS dE (zA (nx ?_))); refine zC (fun hb2 => ?_) (fun hb2 => ?_)
 ·replace h := ct hb2 h; refine sr (zI (zI (zS dS (zA (nx (kT ?_)))))); refine okX_block_ret ?_; refine xR ?_; obtain rfl := (smh h).symm; exact xq_ () Tryd.results131 rfl rfl
 replace h := cf hb2 h; refine sr (zS dE (zA (nx ?_))); refine zC (fun hb3 => ?_) (fun hb3 => ?_)
 ·replace h := ct hb3 h; refine sr (zI (zI (zS dU (zA (nx (kT ?_)))))); refine okX_block_ret ?_; refine xR ?_; obtain rfl := (smh h).symm; exact xq_ () Tryd.results131 rfl rfl
 replace h := cf hb3 h; refine sr (zS dE (zA (nx ?_))); refine zC (fun hb4 => ?_) (fun hb4 => ?_)
 ·replace h := ct hb4 h; refine kS (sr (zI (zS dE (nx ?_)))); refine zC (fun hb5 => ?_) (fun hb5 => ?_)
  ·replace h := ct hb5 h; refine sr (zA (nx (kT (xR ?_)))); refine okX_block_ret ?_; refine xR ?_; obtain rfl := (smh h).symm; exact xq_ () Tryd.results131 rfl rfl
  replace h := cf hb5 h; refine kK (xN (kS (sr (zI (zS dE (nx ?_)))))); refine zC (fun hb6 => ?_) (fun hb6 => ?_)
  ·replace h := ct hb6 h; refine sr (zI (zS dS (zA (nx (kT (xR ?_)))))); refine okX_block_ret ?_; refine xR ?_; obtain rfl := (smh h).symm; exact xq_ () Tryd.results131 rfl rfl
  replace h := cf hb6 h; refine kK (xN (sr (zI (zI ?_)))); obtain ⟨hg7, h⟩ := gs h; refine zS (does_quo (ne0 hg7) rfl rfl) ?_; refine zA (nx (kT ?_)); refine okX_block_ret ?_; refine xR ?_; obtain rfl := (smh h).symm; exact xq_ () Tryd.results131 rfl rfl
 replace h := cf hb4 h; refine sr (zS dE (zA (nx ?_))); refine zC (fun hb8 => ?_) (fun hb8 => ?_)
 ·replace h := ct hb8 h; refine kS (sr (zI (zS dE (zI ?_)))); refine zT (z := ((a2 == 0) || (a2 == (-1)))) 3 45 ?_ ?_
  ·refine zP (a2 == 0) (fun hb9 => ?_) (fun hb9 => ?_)
   ·(iterate 2 refine zK hb9 ?_); exact zS (pU hb9) (zN (xm true (or_t hb9)))
   refine zG hb9 dM ?_; refine zG hb9 dE ?_; exact zS (pG hb9) (zN (xm (a2 == (-1)) (or_f hb9)))
  refine nx ?_; refine zC (fun hb10 => ?_) (fun hb10 => ?_)
  ·replace h := ct hb10 h; refine sr (zA (nx (kT (xR ?_)))); refine okX_block_ret ?_; refine xR ?_; obtain rfl := (smh h).symm; exact xq_ () Tryd.results131 rfl rfl
  replace h := cf hb10 h; refine kK (xN (sr (zI (zI ?_)))); obtain ⟨hg11, h⟩ := gs h; refine zS (does_rem (ne0 hg11) rfl rfl) ?_; refine zA (nx (kT ?_)); refine okX_block_ret ?_; refine xR ?_; obtain rfl := (smh h).symm; exact xq_ () Tryd.results131 rfl rfl
 replace h := cf hb8 h; refine sr (zS dE (zA (nx ?_))); refine zC (fun hb13 => ?_) (fun hb13 => ?_)
 ·replace h := ct hb13 h; refine sr (zI (zI ?_)); refine zS (does_and rfl rfl) ?_; refine zA (nx (kT ?_)); refine okX_block_ret ?_; refine xR ?_; obtain rfl := (smh h).symm; exact xq_ () Tryd.results131 rfl rfl
 replace h := cf hb13 h; refine sr (zS dE (zA (nx ?_))); refine zC (fun hb14 => ?_) (fun hb14 => ?_)
 ·replace h := ct hb14 h; refine sr (zI (zI ?_)); refine zS (does_or rfl rfl) ?_; refine zA (nx (kT ?_)); refine okX_block_ret ?_; refine xR ?_; obtain rfl := (smh h).symm; exact xq_ () Tryd.results131 rfl rfl
 replace h := cf hb14 h; refine sr (zS dE (zA (nx ?_))); refine zC (fun hb15 => ?_) (fun hb15 => ?_)
 ·replace h := ct hb15 h; refine sr (zI (zI ?_)); refine zS (does_xor rfl rfl) ?_; refine zA (nx (kT ?_)); refine okX_block_ret ?_; refine xR ?_; obtain rfl := (smh h).symm; exact xq_ () Tryd.results131 rfl rfl
 replace h := cf hb15 h; refine sr (zS dE (zA (nx ?_))); refine zC (fun hb16 => ?_) (fun hb16 => ?_)
 ·replace h := ct hb16 h; refine sr (zI ?_); refine zS (does_convert u_2 u_137 rfl) ?_; refine zI ?_; refine zS (does_shl (wrap_u64_nonneg _) rfl rfl) ?_; refine zS (does_convert u_137 u_2 rfl) ?_; refine zA (nx (kT ?_)); refine okX_block_ret ?_; refine xR ?_; obtain rfl := (smh h).symm; exact xq_ () Tryd.results131 rfl rfl
 replace h := cf hb16 h; refine sr (zS dE (zA (nx ?_))); refine zC (fun hb17 => ?_) (fun hb17 => ?_)
 ·replace h := ct hb17 h; refine sr (zI ?_); refine zS (does_convert u_2 u_137 rfl) ?_; refine zI ?_; refine zS (does_shr (wrap_u64_nonneg _) rfl rfl) ?_; refine zS (does_convert u_137 u_2 rfl) ?_; refine zA (nx (kT ?_)); refine okX_block_ret ?_; refine xR ?_; obtain rfl := (smh h).symm; exact xq_ () Tryd.results131 rfl rfl
 replace h := cf hb17 h; refine sr (zS dE (zA (nx ?_))); refine zC (fun hb18 => ?_) (fun hb18 => ?_)
 ·replace h := ct hb18 h; refine sr (zI (zI ?_)); refine zS (does_shr (wrap_u64_nonneg _) rfl rfl) ?_; refine zA (nx (kT ?_)); refine okX_block_ret ?_; refine xR ?_; obtain rfl := (smh h).symm; exact xq_ () Tryd.results131 rfl rfl
 replace h := cf hb18 h; refine sr (zS dE (zA (nx ?_))); refine zC (fun hb19 => ?_) (fun hb19 => ?_)
 ·replace h := ct hb19 h; refine sr (zI (zI (zS dE ?_))); obtain ⟨r20, hc21, h⟩ := bs h; refine zS (cQ (c_ref29_one (a1 == a2) r20 hc21) k_132) (zA (nx (kT ?_))); refine okX_block_ret ?_; refine xR ?_; obtain rfl := (smh h).symm; exact xq_ () Tryd.results131 rfl rfl
 replace h := cf hb19 h; refine sr (zS dE (zA (nx ?_))); refine zC (fun hb22 => ?_) (fun hb22 => ?_)
 ·replace h := ct hb22 h; refine sr (zI (zI (zS dN ?_))); obtain ⟨r23, hc24, h⟩ := bs h; refine zS (cQ (c_ref29_one (a1 != a2) r23 hc24) k_132) (zA (nx (kT ?_))); refine okX_block_ret ?_; refine xR ?_; obtain rfl := (smh h).symm; exact xq_ () Tryd.results131 rfl rfl
 replace h := cf hb22 h; refine sr (zS dE (zA (nx ?_))); refine zC (fun hb25 => ?_) (fun hb25 => ?_)
 ·replace h := ct hb25 h; refine sr (zI (zI (zS dL ?_))); obtain ⟨r26, hc27, h⟩ := bs h; refine zS (cQ (c_ref29_one (decide (a1 < a2)) r26 hc27) k_132) (zA (nx (kT ?_))); refine okX_block_ret ?_; refine xR ?_; obtain rfl := (smh h).symm; exact xq_ () Tryd.results131 rfl rfl
 replace h := cf hb25 h; refine sr (zS dE (zA (nx ?_))); refine zC (fun hb28 => ?_) (fun hb28 => ?_)
 ·replace h := ct hb28 h; refine sr (zI (zI (zS dQ ?_))); obtain ⟨r29, hc30, h⟩ := bs h; refine zS (cQ (c_ref29_one (decide (a1 ≤ a2)) r29 hc30) k_132) (zA (nx (kT ?_))); refine okX_block_ret ?_; refine xR ?_; obtain rfl := (smh h).symm; exact xq_ () Tryd.results131 rfl rfl
 replace h := cf hb28 h; refine kK (xB (xN (sr (zI ?_)))); refine zS (does_convert u_2 u_137 rfl) ?_; refine zI ?_; refine zS (does_convert u_2 u_137 rfl) ?_; refine zS dL ?_; obtain ⟨r31, hc32, h⟩ := bs h; refine zS (cQ (c_ref29_one (decide ((u64 a1) < (u64 a2))) r31 hc32) k_132) (zA (nx (kT ?_))); obtain rfl := (smh h).symm; exact xq_ () Tryd.results131 rfl rfl
def ref29_form  (a0 : Int) : Option Int :=
 (Option.bind (cnd (a0 == 1) (some (a0 == 1)) (cnd (a0 == 2) (some (a0 == 2)) (some (a0 == 3)))) (fun s1 => (cnd s1 (some 1) (Option.bind (cnd (a0 == 4) (some (a0 == 4)) (some (a0 == 5))) (fun s9 => (cnd s9 (some 8) (Option.bind (cnd (a0 == 6) (some (a0 == 6)) (cnd (a0 == 7) (some (a0 == 7)) (cnd (a0 == 8) (some (a0 == 8)) (cnd (a0 == 13) (some (a0 == 13)) (cnd (a0 == 33) (some (a0 == 33)) (cnd (a0 == 36) (some (a0 == 36)) (some (a0 == 37)))))))) (fun s16 => (cnd s16 (some 5) (Option.bind (cnd (a0 == 9) (some (a0 == 9)) (cnd (a0 == 15) (some (a0 == 15)) (some (a0 == 16)))) (fun s28 => (cnd s28 (some 2) (Option.bind (cnd (a0 == 11) (some (a0 == 11)) (some (a0 == 12))) (fun s36 => (cnd s36 (some 4) (cnd (a0 == 14) (some 6) (Option.bind (cnd (a0 == 34) (some (a0 == 34)) (some (a0 == 35))) (fun s44 => (cnd s44 (some 7) (Option.bind (cnd (a0 == 10) (some true) (Option.bind (ref29_IsBinary a0) (fun r55 => (some r55)))) (fun z52 => (cnd z52 (some 3) (some 0)))))))))))))))))))))))
theorem c_ref29_form  (a0 : Int) (r : Int) (h : ref29_form  a0 = some r) : CallP Tryd.prog glob 122 [(tI a0)] (tI r) := by
 refine call_of_code Tryd.func122 rfl Tryd.ntmps122 rfl (fun L w => ?_); change OkC _ _ _ [(0, (tI a0))] (L); unfold ref29_form at h; refine sr (zA (nx (kS (sr (zI (nx (kB ?_))))))); obtain ⟨z3, h5, hz4⟩ := bs h; refine okC_meet (X := Bool) (fun x => z3 = x) (fun x => [(0, (tI a0)), (3, (tI a0)), (4, (tB x))]) (fun x => L) ?_ ?_
 ·refine sr (zS dE (zA (nx ?_))); refine zC (fun hb6 => ?_) (fun hb6 => ?_)
  ·replace h5 := ct hb6 h5; exact kK (xm (a0 == 1) (smh h5))
  replace h5 := cf hb6 h5; refine sr (zS dE (zA (nx ?_))); refine zC (fun hb7 => ?_) (fun hb7 => ?_)
  ·replace h5 := ct hb7 h5; exact kK (xm (a0 == 2) (smh h5))
  replace h5 := cf hb7 h5; exact kR (zS dE (zA (zN (xm (a0 == 3) (smh h5)))))
 intro s1 hx; obtain rfl : s1 = z3 := hx.symm; replace h := hz4; refine zC (fun hb8 => ?_) (fun hb8 => ?_)
 ·replace h := ct hb8 h; refine sr (zA (nx (kT ?_))); refine okX_block_ret ?_; refine xR ?_; obtain rfl := (smh h).symm; exact xq_ () Tryd.results122 rfl rfl
 replace h := cf hb8 h; obtain ⟨z11, h13, hz12⟩ := bs h; refine okC_meet (X := Bool) (fun x => z11 = x) (fun x => [(0, (tI a0)), (3, (tI a0)), (8, (tB x))]) (fun x => L) ?_ ?_
 ·refine sr (zS dE (zA (nx ?_))); refine zC (fun hb14 => ?_) (fun hb14 => ?_)
  ·replace h13 := ct hb14 h13; exact kK (xm (a0 == 4) (smh h13))
  replace h13 := cf hb14 h13; exact kR (zS dE (zA (zN (xm (a0 == 5) (smh h13)))))
 intro s9 hx; obtain rfl : s9 = z11 := hx.symm; replace h := hz12; refine zC (fun hb15 => ?_) (fun hb15 => ?_)
 ·replace h := ct hb15 h; refine sr (zA (nx (kT ?_))); refine okX_block_ret ?_; refine xR ?_; obtain rfl := (smh h).symm; exact xq_ () Tryd.results122 rfl rfl
 replace h := cf hb15 h; obtain ⟨z18, h20, hz19⟩ := bs h; refine okC_meet (X := Bool) (fun x => z18 = x) (fun x => [(0, (tI a0)), (3, (tI a0)), (11, (tB x))]) (fun x => L) ?_ ?_
 ·refine sr (zS dE (zA (nx ?_))); refine zC (fun hb21 => ?_) (fun hb21 => ?_)
  ·replace h20 := ct hb21 h20; exact kK (xm (a0 == 6) (smh h20))
  replace h20 := cf hb21 h20; refine sr (zS dE (zA (nx ?_))); refine zC (fun hb22 => ?_) (fun hb22 => ?_)
  ·replace h20 := ct hb22 h20; exact kK (xm (a0 == 7) (smh h20))
  replace h20 := cf hb22 h20; refine sr (zS dE (zA (nx ?_))); refine zC (fun hb23 => ?_) (fun hb23 => ?_)
  ·replace h20 := ct hb23 h20; exact kK (xm (a0 == 8) (smh h20))
  replace h20 := cf hb23 h20; refine sr (zS dE (zA (nx ?_))); refine zC (fun hb24 => ?_) (fun hb24 => ?_)
  ·replace h20 := ct hb24 h20; exact kK (xm (a0 == 13) (smh h20))
  replace h20 := cf hb24 h20; refine sr (zS dE (zA (nx ?_))); refine zC (fun hb25 => ?_) (fun hb25 => ?_)
  ·replace h20 := ct hb25 h20; exact kK (xm (a0 == 33) (smh h20))
  replace h20 := cf hb25 h20; refine sr (zS dE (zA (nx ?_))); refine zC (fun hb26 => ?_) (fun hb26 => ?_)
  ·replace h20 := ct hb26 h20; exact kK (xm (a0 == 36) (smh h20))
  replace h20 := cf hb26 h20; exact kR (zS dE (zA (zN (xm (a0 == 37) (smh h20)))))
 intro s16 hx; obtain rfl : s16 = z18 := hx.symm; replace h := hz19; refine zC (fun hb27 => ?_) (fun hb27 => ?_)
 ·replace h := ct hb27 h; refine sr (zA (nx (kT ?_))); refine okX_block_ret ?_; refine xR ?_; obtain rfl := (smh h).symm; exact xq_ () Tryd.results122 rfl rfl
 replace h := cf hb27 h; obtain ⟨z30, h32, hz31⟩ := bs h; refine okC_meet (X := Bool) (fun x => z30 = x) (fun x => [(0, (tI a0)), (3, (tI a0)), (19, (tB x))]) (fun x => L) ?_ ?_
 ·refine sr (zS dE (zA (nx ?_))); refine zC (fun hb33 => ?_) (fun hb33 => ?_)
  ·replace h32 := ct hb33 h32; exact kK (xm (a0 == 9) (smh h32))
  replace h32 := cf hb33 h32; refine sr (zS dE (zA (nx ?_))); refine zC (fun hb34 => ?_) (fun hb34 => ?_)
  ·replace h32 := ct hb34 h32; exact kK (xm (a0 == 15) (smh h32))
  replace h32 := cf hb34 h32; exact kR (zS dE (zA (zN (xm (a0 == 16) (smh h32)))))
 intro s28 hx; obtain rfl : s28 = z30 := hx.symm; replace h := hz31; refine zC (fun hb35 => ?_) (fun hb35 => ?_)
 ·replace h := ct hb35 h; refine sr (zA (nx (kT ?_))); refine okX_block_ret ?_; refine xR ?_; obtain rfl := (smh h).symm; exact xq_ () Tryd.results122 rfl rfl
 replace h := cf hb35 h; obtain ⟨z38, h40, hz39⟩ := bs h; refine okC_meet (X := Bool) (fun x => z38 = x) (fun x => [(0, (tI a0)), (3, (tI a0)), (23, (tB x))]) (fun x => L) ?_ ?_
 ·refine sr (zS dE (zA (nx ?_))); refine zC (fun hb41 => ?_) (fun hb41 => ?_)
  ·replace h40 := ct hb41 h40; exact kK (xm (a0 == 11) (smh h40))
  replace h40 := cf hb41 h40; exact kR (zS dE (zA (zN (xm (a0 == 12) (smh h40)))))
 intro s36 hx; obtain rfl : s36 = z38 := hx.symm; replace h := hz39; refine zC (fun hb42 => ?_) (fun hb42 => ?_)
 ·replace h := ct hb42 h; refine sr (zA (nx (kT ?_))); refine okX_block_ret ?_; refine xR ?_; obtain rfl := (smh h).symm; exact xq_ () Tryd.results122 rfl rfl
 replace h := cf hb42 h; refine sr (zS dE (zA (nx ?_))); refine zC (fun hb43 => ?_) (fun hb43 => ?_)
 ·replace h := ct hb43 h; refine sr (zA (nx (kT ?_))); refine okX_block_ret ?_; refine xR ?_; obtain rfl := (smh h).symm; exact xq_ () Tryd.results122 rfl rfl
 replace h := cf hb43 h; obtain ⟨z46, h48, hz47⟩ := bs h; refine okC_meet (X := Bool) (fun x => z46 = x) (fun x => [(0, (tI a0)), (28, (tB x))]) (fun x => L) ?_ ?_
 ·refine sr (zS dE (zA (nx ?_))); refine zC (fun hb49 => ?_) (fun hb49 => ?_)
  ·replace h48 := ct hb49 h48; exact kK (xm (a0 == 34) (smh h48))
  replace h48 := cf hb49 h48; exact kR (zS dE (zA (zN (xm (a0 == 35) (smh h48)))))
 intro s44 hx; obtain rfl : s44 = z46 := hx.symm; replace h := hz47; refine zC (fun hb50 => ?_) (fun hb50 => ?_)
 ·replace h := ct hb50 h; refine sr (zA (nx (kT ?_))); refine okX_block_ret ?_; refine xR ?_; obtain rfl := (smh h).symm; exact xq_ () Tryd.results122 rfl rfl
 replace h := cf hb50 h; refine kK (xB (xN (kS (sr (zI (zS dE (zI ?_))))))); obtain ⟨z52, h54, hz53⟩ := bs h; refine zV (z := z52) 3 36 ?_ ?_
 ·refine zP (a0 == 10) (fun hb51 => ?_) (fun hb51 => ?_)
  ·replace h54 := ct hb51 h54; (iterate 2 refine zK hb51 ?_); exact zS (pU hb51) (zN (xm true (smh h54)))
  replace h54 := cf hb51 h54; refine zG hb51 dM ?_; obtain ⟨r55, hc56, h54⟩ := bs h54; refine zG hb51 (cQ (c_ref29_IsBinary a0 r55 hc56) k_124) ?_; exact zS (pG hb51) (zN (xm r55 (smh h54)))
 replace h := hz53; refine nx ?_; refine zC (fun hb57 => ?_) (fun hb57 => ?_)
 ·replace h := ct hb57 h; refine sr (zA (nx (kT (xR ?_)))); obtain rfl := (smh h).symm; exact xq_ () Tryd.results122 rfl rfl
 replace h := cf hb57 h; refine kK (xN (sr (zA (nx (kT ?_))))); obtain rfl := (smh h).symm; exact xq_ () Tryd.results122 rfl rfl
def ref29_names  : Option (List ByteArray) :=
 (some ([(⟨#[]⟩ : ByteArray), (⟨#[110, 111, 112]⟩ : ByteArray), (⟨#[114, 101, 116]⟩ : ByteArray), (⟨#[116, 105, 99, 107]⟩ : ByteArray), (⟨#[116, 114, 97, 112]⟩ : ByteArray), (⟨#[106, 109, 112]⟩ : ByteArray), (⟨#[99, 97, 108, 108]⟩ : ByteArray), (⟨#[106, 122]⟩ : ByteArray), (⟨#[106, 110, 122]⟩ : ByteArray), (⟨#[111, 117, 116]⟩ : ByteArray), (⟨#[109, 111, 118]⟩ : ByteArray), (⟨#[99, 109, 111, 118, 122]⟩ : ByteArray), (⟨#[99, 109, 111, 118, 110, 122]⟩ : ByteArray), (⟨#[108, 100, 105]⟩ : ByteArray), (⟨#[108, 100, 99]⟩ : ByteArray), (⟨#[110, 101, 103]⟩ : ByteArray), (⟨#[110, 111, 116]⟩ : ByteArray), (⟨#[97, 100, 100]⟩ : ByteArray), (⟨#[115, 117, 98]⟩ : ByteArray), (⟨#[109, 117, 108]⟩ : ByteArray), (⟨#[100, 105, 118]⟩ : ByteArray), (⟨#[114, 101, 109]⟩ : ByteArray), (⟨#[97, 110, 100]⟩ : ByteArray), (⟨#[111, 114]⟩ : ByteArray), (⟨#[120, 111, 114]⟩ : ByteArray), (⟨#[115, 104, 108]⟩ : ByteArray), (⟨#[115, 104, 114]⟩ : ByteArray), (⟨#[115, 97, 114]⟩ : ByteArray), (⟨#[101, 113]⟩ : ByteArray), (⟨#[110, 101]⟩ : ByteArray), (⟨#[108, 116]⟩ : ByteArray), (⟨#[108, 101]⟩ : ByteArray), (⟨#[108, 116, 117]⟩ : ByteArray), (⟨#[97, 100, 100, 105]⟩ : ByteArray), (⟨#[108, 100]⟩ : ByteArray), (⟨#[115, 116]⟩ : ByteArray), (⟨#[108, 100, 115]⟩ : ByteArray), (⟨#[115, 116, 115]⟩ : ByteArray)] : List ByteArray))
theorem c_ref29_names  (r : (List ByteArray)) (h : ref29_names  = some r) : CallP Tryd.prog glob 123 [] (tL 1 lS r) := by
 refine call_of_code Tryd.func123 rfl Tryd.ntmps123 rfl (fun L w => ?_); change OkC _ _ _ [] (L); unfold ref29_names at h; refine sr (zA (nsr ?_)); refine zS (bS (f := lS) ([(⟨#[]⟩ : ByteArray), (⟨#[110, 111, 112]⟩ : ByteArray), (⟨#[114, 101, 116]⟩ : ByteArray), (⟨#[116, 105, 99, 107]⟩ : ByteArray), (⟨#[116, 114, 97, 112]⟩ : ByteArray), (⟨#[106, 109, 112]⟩ : ByteArray), (⟨#[99, 97, 108, 108]⟩ : ByteArray), (⟨#[106, 122]⟩ : ByteArray), (⟨#[106, 110, 122]⟩ : ByteArray), (⟨#[111, 117, 116]⟩ : ByteArray), (⟨#[109, 111, 118]⟩ : ByteArray), (⟨#[99, 109, 111, 118, 122]⟩ : ByteArray), (⟨#[99, 109, 111, 118, 110, 122]⟩ : ByteArray), (⟨#[108, 100, 105]⟩ : ByteArray), (⟨#[108, 100, 99]⟩ : ByteArray), (⟨#[110, 101, 103]⟩ : ByteArray), (⟨#[110, 111, 116]⟩ : ByteArray), (⟨#[97, 100, 100]⟩ : ByteArray), (⟨#[115, 117, 98]⟩ : ByteArray), (⟨#[109, 117, 108]⟩ : ByteArray), (⟨#[100, 105, 118]⟩ : ByteArray), (⟨#[114, 101, 109]⟩ : ByteArray), (⟨#[97, 110, 100]⟩ : ByteArray), (⟨#[111, 114]⟩ : ByteArray), (⟨#[120, 111, 114]⟩ : ByteArray), (⟨#[115, 104, 108]⟩ : ByteArray), (⟨#[115, 104, 114]⟩ : ByteArray), (⟨#[115, 97, 114]⟩ : ByteArray), (⟨#[101, 113]⟩ : ByteArray), (⟨#[110, 101]⟩ : ByteArray), (⟨#[108, 116]⟩ : ByteArray), (⟨#[108, 101]⟩ : ByteArray), (⟨#[108, 116, 117]⟩ : ByteArray), (⟨#[97, 100, 100, 105]⟩ : ByteArray), (⟨#[108, 100]⟩ : ByteArray), (⟨#[115, 116]⟩ : ByteArray), (⟨#[108, 100, 115]⟩ : ByteArray), (⟨#[115, 116, 115]⟩ : ByteArray)] : List ByteArray) [(tS (⟨#[]⟩ : ByteArray)), (tS (⟨#[110, 111, 112]⟩ : ByteArray)), (tS (⟨#[114, 101, 116]⟩ : ByteArray)), (tS (⟨#[116, 105, 99, 107]⟩ : ByteArray)), (tS (⟨#[116, 114, 97, 112]⟩ : ByteArray)), (tS (⟨#[106, 109, 112]⟩ : ByteArray)), (tS (⟨#[99, 97, 108, 108]⟩ : ByteArray)), (tS (⟨#[106, 122]⟩ : ByteArray)), (tS (⟨#[106, 110, 122]⟩ : ByteArray)), (tS (⟨#[111, 117, 116]⟩ : ByteArray)), (tS (⟨#[109, 111, 118]⟩ : ByteArray)), (tS (⟨#[99, 109, 111, 118, 122]⟩ : ByteArray)), (tS (⟨#[99, 109, 111, 118, 110, 122]⟩ : ByteArray)), (tS (⟨#[108, 100, 105]⟩ : ByteArray)), (tS (⟨#[108, 100, 99]⟩ : ByteArray)), (tS (⟨#[110, 101, 103]⟩ : ByteArray)), (tS (⟨#[110, 111, 116]⟩ : ByteArray)), (tS (⟨#[97, 100, 100]⟩ : ByteArray)), (tS (⟨#[115, 117, 98]⟩ : ByteArray)), (tS (⟨#[109, 117, 108]⟩ : ByteArray)), (tS (⟨#[100, 105, 118]⟩ : ByteArray)), (tS (⟨#[114, 101, 109]⟩ : ByteArray)), (tS (⟨#[97, 110, 100]⟩ : ByteArray)), (tS (⟨#[111, 114]⟩ : ByteArray)), (tS (⟨#[120, 111, 114]⟩ : ByteArray)), (tS (⟨#[115, 104, 108]⟩ : ByteArray)), (tS (⟨#[115, 104, 114]⟩ : ByteArray)), (tS (⟨#[115, 97, 114]⟩ : ByteArray)), (tS (⟨#[101, 113]⟩ : ByteArray)), (tS (⟨#[110, 101]⟩ : ByteArray)), (tS (⟨#[108, 116]⟩ : ByteArray)), (tS (⟨#[108, 101]⟩ : ByteArray)), (tS (⟨#[108, 116, 117]⟩ : ByteArray)), (tS (⟨#[97, 100, 100, 105]⟩ : ByteArray)), (tS (⟨#[108, 100]⟩ : ByteArray)), (tS (⟨#[115, 116]⟩ : ByteArray)), (tS (⟨#[108, 100, 115]⟩ : ByteArray)), (tS (⟨#[115, 116, 115]⟩ : ByteArray))] el156 rfl rfl rfl (fc [(tS (⟨#[]⟩ : ByteArray))] 0 rfl (pq_ (one_s _)) rfl rfl (fc [(tS (⟨#[110, 111, 112]⟩ : ByteArray))] 1 rfl (pq_ (one_s _)) rfl rfl (fc [(tS (⟨#[114, 101, 116]⟩ : ByteArray))] 2 rfl (pq_ (one_s _)) rfl rfl (fc [(tS (⟨#[116, 105, 99, 107]⟩ : ByteArray))] 3 rfl (pq_ (one_s _)) rfl rfl (fc [(tS (⟨#[116, 114, 97, 112]⟩ : ByteArray))] 4 rfl (pq_ (one_s _)) rfl rfl (fc [(tS (⟨#[106, 109, 112]⟩ : ByteArray))] 5 rfl (pq_ (one_s _)) rfl rfl (fc [(tS (⟨#[99, 97, 108, 108]⟩ : ByteArray))] 6 rfl (pq_ (one_s _)) rfl rfl (fc [(tS (⟨#[106, 122]⟩ : ByteArray))] 7 rfl (pq_ (one_s _)) rfl rfl (fc [(tS (⟨#[106, 110, 122]⟩ : ByteArray))] 8 rfl (pq_ (one_s _)) rfl rfl (fc [(tS (⟨#[111, 117, 116]⟩ : ByteArray))] 9 rfl (pq_ (one_s _)) rfl rfl (fc [(tS (⟨#[109, 111, 118]⟩ : ByteArray))] 10 rfl (pq_ (one_s _)) rfl rfl (fc [(tS (⟨#[99, 109, 111, 118, 122]⟩ : ByteArray))] 11 rfl (pq_ (one_s _)) rfl rfl (fc [(tS (⟨#[99, 109, 111, 118, 110, 122]⟩ : ByteArray))] 12 rfl (pq_ (one_s _)) rfl rfl (fc [(tS (⟨#[108, 100, 105]⟩ : ByteArray))] 13 rfl (pq_ (one_s _)) rfl rfl (fc [(tS (⟨#[108, 100, 99]⟩ : ByteArray))] 14 rfl (pq_ (one_s _)) rfl rfl (fc [(tS (⟨#[110, 101, 103]⟩ : ByteArray))] 15 rfl (pq_ (one_s _)) rfl rfl (fc [(tS (⟨#[110, 111, 116]⟩ : ByteArray))] 16 rfl (pq_ (one_s _)) rfl rfl (fc [(tS (⟨#[97, 100, 100]⟩ : ByteArray))] 17 rfl (pq_ (one_s _)) rfl rfl (fc [(tS (⟨#[115, 117, 98]⟩ : ByteArray))] 18 rfl (pq_ (one_s _)) rfl rfl (fc [(tS (⟨#[109, 117, 108]⟩ : ByteArray))] 19 rfl (pq_ (one_s _)) rfl rfl (fc [(tS (⟨#[100, 105, 118]⟩ : ByteArray))] 20 rfl (pq_ (one_s _)) rfl rfl (fc [(tS (⟨#[114, 101, 109]⟩ : ByteArray))] 21 rfl (pq_ (one_s _)) rfl rfl (fc [(tS (⟨#[97, 110, 100]⟩ : ByteArray))] 22 rfl (pq_ (one_s _)) rfl rfl (fc [(tS (⟨#[111, 114]⟩ : ByteArray))] 23 rfl (pq_ (one_s _)) rfl rfl (fc [(tS (⟨#[120, 111, 114]⟩ : ByteArray))] 24 rfl (pq_ (one_s _)) rfl rfl (fc [(tS (⟨#[115, 104, 108]⟩ : ByteArray))] 25 rfl (pq_ (one_s _)) rfl rfl (fc [(tS (⟨#[115, 104, 114]⟩ : ByteArray))] 26 rfl (pq_ (one_s _)) rfl rfl (fc [(tS (⟨#[115, 97, 114]⟩ : ByteArray))] 27 rfl (pq_ (one_s _)) rfl rfl (fc [(tS (⟨#[101, 113]⟩ : ByteArray))] 28 rfl (pq_ (one_s _)) rfl rfl (fc [(tS (⟨#[110, 101]⟩ : ByteArray))] 29 rfl (pq_ (one_s _)) rfl rfl (fc [(tS (⟨#[108, 116]⟩ : ByteArray))] 30 rfl (pq_ (one_s _)) rfl rfl (fc [(tS (⟨#[108, 101]⟩ : ByteArray))] 31 rfl (pq_ (one_s _)) rfl rfl (fc [(tS (⟨#[108, 116, 117]⟩ : ByteArray))] 32 rfl (pq_ (one_s _)) rfl rfl (fc [(tS (⟨#[97, 100, 100, 105]⟩ : ByteArray))] 33 rfl (pq_ (one_s _)) rfl rfl (fc [(tS (⟨#[108, 100]⟩ : ByteArray))] 34 rfl (pq_ (one_s _)) rfl rfl (fc [(tS (⟨#[115, 116]⟩ : ByteArray))] 35 rfl (pq_ (one_s _)) rfl rfl (fc [(tS (⟨#[108, 100, 115]⟩ : ByteArray))] 36 rfl (pq_ (one_s _)) rfl rfl (fc [(tS (⟨#[115, 116, 115]⟩ : ByteArray))] 37 rfl (pq_ (one_s _)) rfl rfl (fn_ rfl))))))))))))))))))))))))))))))))))))))) rfl (fun _ => rfl)) ?_; refine zA (nx (kT ?_)); obtain rfl := (smh h).symm; exact xq_ () Tryd.results123 rfl rfl
def liveness_addTerminator  (a0 : (List Int)) (a1 : Block) : Option (List Int) :=
 (cnd ((a1.End == 2) || (a1.End == 3)) (Option.bind (liveness_set_add a0 a1.Reg) (fun r4 => (some r4))) (some a0))
theorem c_liveness_addTerminator  (a0 : (List Int)) (a1 : Block) (v0 : Value) (r : (List Int)) (h : liveness_addTerminator  a0 a1 = some r) : CallOk Tryd.prog glob 67 [(Ty.own v0), (Ty.agg (S43 a1))] [rowL v0 137 1 lU a0] Unit (fun _ : Unit => ((Ty.tup []), [rowL v0 137 1 lU r])) := by
 refine call_of_code Tryd.func67 rfl Tryd.ntmps67 rfl (fun L w => ?_); change OkC _ _ _ [(0, (Ty.own v0)), (1, (Ty.agg (S43 a1)))] (rowL v0 137 1 lU a0 :: L); unfold liveness_addTerminator at h; refine sr ?_; refine zO (oB (S43 a1) rfl (pA _) (fun g1 => ?_)); refine nsr (zS (fB 1 u_43 z_3) (zS (lC a_3 0) (zS dE (zI ?_)))); refine zT (z := ((a1.End == 2) || (a1.End == 3))) 4 11 ?_ ?_
 ·refine zP (a1.End == 2) (fun hb2 => ?_) (fun hb2 => ?_)
  ·(iterate 3 refine zK hb2 ?_); exact zS (pU hb2) (zN (xm true (or_t hb2)))
  refine zG hb2 (fB 1 u_43 z_3) ?_; refine zG hb2 (lC a_3 0) ?_; refine zG hb2 dE ?_; exact zS (pG hb2) (zN (xm (a1.End == 3) (or_f hb2)))
 refine nx ?_; refine zC (fun hb3 => ?_) (fun hb3 => ?_)
 ·replace h := ct hb3 h; refine kR (zI (zS (fB 2 u_43 z_3) (zS (lC a_3 0) ?_))); obtain ⟨r4, hc5, h⟩ := bs h; refine zO (oq_ (Item.blk g1 43 (S43 a1) :: L) (c_liveness_set_add a0 a1.Reg v0 r4 hc5) rfl k_72 rfl (pm 1 rfl (pr _)) (fun _ => ?_)); refine zN ?_; obtain rfl := (smh h).symm; refine xD 1 ?_; exact okX_end0 () Tryd.results67 rfl rfl
 replace h := cf hb3 h; refine kK ?_; obtain rfl := (smh h).symm; refine xD 0 ?_; exact okX_end0 () Tryd.results67 rfl rfl
def vcode_Writes  (a0 : VInstr) : Option (List Int) :=
 (Option.bind (vcode_allowed a0.Instr.Op) (fun r2 => (cnd (!r2) (some ([] : List Int)) (Option.bind (machine_Info a0.Instr.Op) (fun r5 => (cnd ((r5.1.WritesA || (a0.Instr.Op == 6)) || (a0.Instr.Op == 38)) (some ([a0.Instr.A] : List Int)) (some ([] : List Int))))))))
theorem c_vcode_Writes  (a0 : VInstr) (r : (List Int)) (h : vcode_Writes  a0 = some r) : CallP Tryd.prog glob 96 [(Ty.agg (S48 a0))] (tL 1 lI r) := by
 refine call_of_code Tryd.func96 rfl Tryd.ntmps96 rfl (fun L w => ?_); change OkC _ _ _ [(0, (Ty.agg (S48 a0)))] (L); unfold vcode_Writes at h; refine sr ?_; refine zO (oB (S48 a0) rfl (pA _) (fun g1 => ?_)); refine zA (nx (kS (sr (zS (fB 0 u_48 z_46) (zS (fB 0 u_46 z_3) (zS (lC a_3 0) ?_)))))); obtain ⟨r2, hc3, h⟩ := bs h; refine zS (cQ (c_vcode_allowed a0.Instr.Op r2 hc3) k_119) (zS dO (nx ?_)); refine zC (fun hb4 => ?_) (fun hb4 => ?_)
 ·replace h := ct hb4 h; refine sr (zA (nx (kT (xR ?_)))); obtain rfl := (smh h).symm; refine okX_sub 2 (tL 1 lI ([] : List Int)) rfl (sub_nil _) ?_; exact xD 0 (xq_ () Tryd.results96 rfl rfl)
 replace h := cf hb4 h; refine kK (xN (sr (zS (fB 0 u_48 z_46) (zS (fB 0 u_46 z_3) (zS (lC a_3 0) ?_))))); obtain ⟨r5, hc6, h⟩ := bs h; refine zS (cQ (c_machine_Info a0.Instr.Op r5 hc6) k_120) (zI ?_); refine zS dX ?_; refine zS dX ?_; refine zO (oA [(tS ⟨#[]⟩), tZ, (tB false), (tB false), (tB false), (tB false), tZ] v_113 (part_of (sub_agg [(.string ⟨#[]⟩), sZ, (.bool false), (.bool false), (.bool false), (.bool false), sZ] rfl) (pA _)) (fun g7 => ?_)); refine zB 0 (pA _) z_113 ?_; refine zA (nx (kS (sr (zS (fB 3 u_113 z_4) (zS (lC a_4 0) (zI ?_)))))); refine zT (z := (r5.1.WritesA || (a0.Instr.Op == 6))) 5 24 ?_ ?_
 ·refine zP r5.1.WritesA (fun hb8 => ?_) (fun hb8 => ?_)
  ·(iterate 4 refine zK hb8 ?_); exact zS (pU hb8) (zN (xm true (or_t hb8)))
  refine zG hb8 (fB 0 u_48 z_46) ?_; refine zG hb8 (fB 0 u_46 z_3) ?_; refine zG hb8 (lC a_3 1) ?_; refine zG hb8 dE ?_; exact zS (pG hb8) (zN (xm (a0.Instr.Op == 6) (or_f hb8)))
 refine zI ?_; refine zT (z := ((r5.1.WritesA || (a0.Instr.Op == 6)) || (a0.Instr.Op == 38))) 5 30 ?_ ?_
 ·refine zP (r5.1.WritesA || (a0.Instr.Op == 6)) (fun hb9 => ?_) (fun hb9 => ?_)
  ·(iterate 4 refine zK hb9 ?_); exact zS (pU hb9) (zN (xm true (or_t hb9)))
  refine zG hb9 (fB 0 u_48 z_46) ?_; refine zG hb9 (fB 0 u_46 z_3) ?_; refine zG hb9 (lC a_3 1) ?_; refine zG hb9 dE ?_; exact zS (pG hb9) (zN (xm (a0.Instr.Op == 38) (or_f hb9)))
 refine nx ?_; refine zC (fun hb10 => ?_) (fun hb10 => ?_)
 ·replace h := ct hb10 h; refine sr (zS (fB 0 u_48 z_46) (zS (fB 1 u_46 z_3) (zS (lC a_3 1) ?_))); refine zS (bS (f := lI) ([a0.Instr.A] : List Int) [(tI a0.Instr.A)] el31 rfl rfl rfl (fc [(tI a0.Instr.A)] 0 rfl (pq_ (one_i _)) rfl rfl (fn_ rfl)) rfl (fun _ => rfl)) ?_; refine zA (nx (kT (xR ?_))); obtain rfl := (smh h).symm; refine xD 0 ?_; exact xD 0 (xq_ () Tryd.results96 rfl rfl)
 replace h := cf hb10 h; refine kK (xN (sr (zA (nx (kT ?_))))); obtain rfl := (smh h).symm; refine okX_sub 2 (tL 1 lI ([] : List Int)) rfl (sub_nil _) ?_; refine xD 0 ?_; exact xD 0 (xq_ () Tryd.results96 rfl rfl)
def vcode_validInstr_l1 (K : Nat) (a0 : VFunc) (a1 : VInstr) : Nat → Int → Option (Unit ⊕ Bool)
 | 0, _ => none
 | k + 1, s16 => (cnd (decide (s16 < ((a1.Args).length : Int))) (Option.bind (idx a1.Args s16) (fun y19 => (Option.bind (vcode_validInstr_1 y19 a0) (fun r21 => (cnd (!r21) (out (some false)) (vcode_validInstr_l1 K a0 a1 k (w64 (s16 + 1)))))))) (inn ()))
def vcode_validInstr (K : Nat) (a0 : VFunc) (a1 : VInstr) : Option Bool :=
 (Option.bind (vcode_allowed a1.Instr.Op) (fun r4 => (cnd (((!r4) || (decide (((a1.Args).length : Int) > 6))) || ((a1.Instr.Op != 6) && (decide (((a1.Args).length : Int) > 0)))) (some false) (sq (vcode_validInstr_l1 K a0 a1 K 0) (fun s11 => (Option.bind (Option.bind (vcode_form a1.Instr.Op) (fun r29 => (cnd (r29 == 2) (some (true, false, false, false)) (cnd (r29 == 3) (some (true, true, false, false)) (cnd (r29 == 4) (some (true, true, true, false)) (cnd (r29 == 5) (some (true, false, false, true)) (cnd (r29 == 7) (some (true, true, false, true)) (some (false, false, false, false))))))))) (fun s24 => (Option.bind (cnd s24.1 (Option.bind (vcode_validInstr_1 a1.Instr.A a0) (fun r40 => (some (!r40)))) (some false)) (fun z37 => (Option.bind (cnd z37 (some true) (Option.bind (cnd s24.2.1 (Option.bind (vcode_validInstr_1 a1.Instr.B a0) (fun r50 => (some (!r50)))) (some false)) (fun z47 => (some z47)))) (fun z43 => (Option.bind (cnd z43 (some true) (Option.bind (cnd s24.2.2.1 (Option.bind (vcode_validInstr_1 a1.Instr.C a0) (fun r60 => (some (!r60)))) (some false)) (fun z57 => (some z57)))) (fun z53 => (cnd ((((z53 || ((!s24.1) && (a1.Instr.A != 0))) || ((!s24.2.1) && (a1.Instr.B != 0))) || ((!s24.2.2.1) && (a1.Instr.C != 0))) || ((!s24.2.2.2) && (a1.Instr.N != 0))) (some false) (cnd (a1.Instr.Op == 33) (some ((decide (a1.Instr.N ≥ (-4194304))) && (decide (a1.Instr.N < 4194304)))) (cnd (a1.Instr.Op == 6) (some ((decide (a1.Instr.N ≥ 0)) && (decide (a1.Instr.N < 8)))) (Option.bind (cnd (a1.Instr.Op == 34) (some (a1.Instr.Op == 34)) (some (a1.Instr.Op == 35))) (fun s81 => (cnd s81 (some ((decide (a1.Instr.N ≥ 0)) && (decide (a1.Instr.N < 4)))) (cnd (a1.Instr.Op == 38) (some ((decide (a1.Instr.N ≥ 0)) && (decide (a1.Instr.N < a0.Params)))) (some true)))))))))))))))))))))
theorem c_vcode_validInstr (K : Nat) (a0 : VFunc) (a1 : VInstr) (r : Bool) (h : vcode_validInstr K a0 a1 = some r) : CallP Tryd.prog glob 103 [(Ty.agg (S27 a0)), (Ty.agg (S48 a1))] (tB r) := by
 refine call_of_code Tryd.func103 rfl Tryd.ntmps103 rfl (fun L w => ?_); change OkC _ _ _ [(0, (Ty.agg (S27 a0))), (1, (Ty.agg (S48 a1)))] (L); unfold vcode_validInstr at h; refine sr ?_; refine zO (oB (S27 a0) rfl (pA _) (fun g1 => ?_)); refine zO (oB (S48 a1) rfl (pA _) (fun g2 => ?_)); refine zA (nsr (zS (fB 0 u_48 z_46) ?_)); refine zS (lA (S46 a1.Instr) a_46 z_46 rfl 0 rfl rfl rfl) ?_; refine zO (oA [tZ, tZ, tZ, tZ, tZ] v_46 (part_of (sub_agg [sZ, sZ, sZ, sZ, sZ] rfl) (pA _)) (fun g3 => ?_)); refine zB 0 (pA _) z_46 ?_; refine nx (kS (sr (zS (fB 0 u_46 z_3) (zS (lC a_3 0) ?_)))); obtain ⟨r4, hc5, h⟩ := bs h; refine zS (cQ (c_vcode_allowed a1.Instr.Op r4 hc5) k_119) (zS dO (zI ?_)); refine zT (z := ((!r4) || (decide (((a1.Args).length : Int) > 6)))) 5 24 ?_ ?_
 ·refine zP (!r4) (fun hb6 => ?_) (fun hb6 => ?_)
  ·(iterate 4 refine zK hb6 ?_); exact zS (pU hb6) (zN (xm true (or_t hb6)))
  refine zG hb6 (fB 5 u_48 z_31) ?_; refine zG hb6 (lC a_31 1) ?_; refine zG hb6 (lM u_31) ?_; refine zG hb6 dT ?_; exact zS (pG hb6) (zN (xm (decide (((a1.Args).length : Int) > 6)) (or_f hb6)))
 refine zI ?_; refine zT (z := (((!r4) || (decide (((a1.Args).length : Int) > 6))) || ((a1.Instr.Op != 6) && (decide (((a1.Args).length : Int) > 0))))) 10 35 ?_ ?_
 ·refine zP ((!r4) || (decide (((a1.Args).length : Int) > 6))) (fun hb7 => ?_) (fun hb7 => ?_)
  ·(iterate 4 refine zK hb7 ?_); (iterate 4 refine zU ?_); refine zK hb7 ?_; exact zS (pU hb7) (zN (xm true (or_t hb7)))
  refine zG hb7 (fB 0 u_46 z_3) ?_; refine zG hb7 (lC a_3 0) ?_; refine zG hb7 dN ?_; refine zG hb7 dM ?_; refine zT (z := ((a1.Instr.Op != 6) && (decide (((a1.Args).length : Int) > 0)))) 5 34 ?_ ?_
  ·refine zP (a1.Instr.Op != 6) (fun hb8 => ?_) (fun hb8 => ?_)
   ·refine zG hb8 (fB 5 u_48 z_31) ?_; refine zG hb8 (lC a_31 1) ?_; refine zG hb8 (lM u_31) ?_; refine zG hb8 dT ?_; refine zG hb7 (pU hb8) ?_; exact zN (xm (decide (((a1.Args).length : Int) > 0)) (and_t hb8))
   (iterate 4 refine zK hb8 ?_); refine zG hb7 (pG hb8) ?_; exact zN (xm false (and_f hb8))
  exact zS (pG hb7) (zN (xm ((a1.Instr.Op != 6) && (decide (((a1.Args).length : Int) > 0))) (or_f hb7)))
 refine nx ?_; refine zC (fun hb10 => ?_) (fun hb10 => ?_)
 ·replace h := ct hb10 h; refine sr (zA (nx (kT (xR ?_)))); obtain rfl := (smh h).symm; refine xD 0 ?_; refine xD 0 ?_; exact xD 0 (xq_ () Tryd.results103 rfl rfl)
 replace h := cf hb10 h; refine kK (xN (sr ?_)); refine zS (does_makeFunc (vs := [(.pointer (some ⟨g1, 0, none⟩))]) rfl) ?_; refine zA (nx (kS (sr (zS (fB 5 u_48 z_31) (zS (lC a_31 1) (zS (lM u_31) (zI ?_))))))); refine nx ?_; obtain ⟨z13, h15, hz14⟩ := sqs h; refine okC_meetE (X := Unit) (fun x => z13 = .inl x) (fun x => [(2, (pAt g1 0)), (5, (pAt g3 0)), (6, (Ty.val (.func (.func 126) #[] #[(.pointer (some ⟨g1, 0, none⟩))])))]) (fun x => Item.blk g3 46 (S46 a1.Instr) :: Item.blk g2 48 (S48 a1) :: Item.blk g1 27 (S27 a0) :: L) ?_ ?_
 ·refine kB ?_; refine okC_loop (X := Int) (fun k x => vcode_validInstr_l1 K a0 a1 k x = some z13) (fun x => [(2, (pAt g1 0)), (5, (pAt g3 0)), (6, (Ty.val (.func (.func 126) #[] #[(.pointer (some ⟨g1, 0, none⟩))]))), (38, (tL 1 lI a1.Args)), (39, (tI ((a1.Args).length : Int))), (40, (tI x))]) (fun x => Item.blk g3 46 (S46 a1.Instr) :: Item.blk g2 48 (S48 a1) :: Item.blk g1 27 (S27 a0) :: L) K 0 h15 cva rfl (fun k s16 hI => ?_)
  cases k with
  | zero => exact (nz hI).elim
  | succ k =>
  have h := (vcode_validInstr_l1.eq_2 ..).symm.trans hI; refine sr (zS dL (nx (kS ?_))); refine zC (fun hb18 => ?_) (fun hb18 => ?_)
  ·replace h := ct hb18 h; refine kK (xN (kS (kB (sr ?_)))); obtain ⟨y19, hi20, h⟩ := bs h; refine zS (iX u_31 z_3 hi20) (zS (lV a_3) (zA (nsr (zI (zI ?_))))); obtain ⟨r21, hc22, h⟩ := bs h; refine zS (does_callC (As := [(tI y19)]) (Cs := [(pAt g1 0)]) 2 rfl (c_vcode_validInstr_1 y19 a0 g1 r21 hc22) rfl k_126 rfl rfl rfl) ?_; refine zS dO (nx ?_); refine zC (fun hb23 => ?_) (fun hb23 => ?_)
   ·replace h := ct hb23 h; refine sr (zA (nx (kT ?_))); refine okX_block_ret ?_; refine xR ?_; refine okX_again_ret ?_; refine okX_block_ret ?_; refine okX_meet_ret ?_; replace h := outh h hz14; refine xR ?_; obtain rfl := (smh h).symm; refine xD 0 ?_; refine xD 0 ?_; exact xD 0 (xq_ () Tryd.results103 rfl rfl)
   replace h := cf hb23 h; exact kK (xB (xN (kR (zS dA (zI (zN (xa (w64 (s16 + 1)) h)))))))
  replace h := cf hb18 h; exact kE (xT (xE (xH (xm () (innh h)))))
 intro s11 hx; have hx : z13 = .inl s11 := hx; subst hx; replace h := hz14; refine xN (sr (zA (zA (zA (zA (nx ?_)))))); obtain ⟨z26, h28, hz27⟩ := bs h; refine okC_meet (X := (Bool × Bool × Bool × Bool)) (fun x => z26 = x) (fun x => [(2, (pAt g1 0)), (5, (pAt g3 0)), (6, (Ty.val (.func (.func 126) #[] #[(.pointer (some ⟨g1, 0, none⟩))]))), (9, (tB x.1)), (10, (tB x.2.1)), (11, (tB x.2.2.1)), (12, (tB x.2.2.2))]) (fun x => Item.blk g3 46 (S46 a1.Instr) :: Item.blk g2 48 (S48 a1) :: Item.blk g1 27 (S27 a0) :: L) ?_ ?_
 ·refine sr (zS (fB 0 u_46 z_3) (zS (lC a_3 0) ?_)); obtain ⟨r29, hc30, h28⟩ := bs h28; refine zS (cQ (c_vcode_form a1.Instr.Op r29 hc30) k_127) (nx (kB (sr (zS dE (zA (nx ?_)))))); refine zC (fun hb31 => ?_) (fun hb31 => ?_)
  ·replace h28 := ct hb31 h28; exact kR (zA (zN (xB (xm (true, false, false, false) (smh h28)))))
  replace h28 := cf hb31 h28; refine sr (zS dE (zA (nx ?_))); refine zC (fun hb32 => ?_) (fun hb32 => ?_)
  ·replace h28 := ct hb32 h28; exact kR (zA (zA (zN (xB (xm (true, true, false, false) (smh h28))))))
  replace h28 := cf hb32 h28; refine sr (zS dE (zA (nx ?_))); refine zC (fun hb33 => ?_) (fun hb33 => ?_)
  ·replace h28 := ct hb33 h28; exact kR (zA (zA (zA (zN (xB (xm (true, true, true, false) (smh h28)))))))
  replace h28 := cf hb33 h28; refine sr (zS dE (zA (nx ?_))); refine zC (fun hb34 => ?_) (fun hb34 => ?_)
  ·replace h28 := ct hb34 h28; exact kR (zA (zA (zN (xB (xm (true, false, false, true) (smh h28))))))
  replace h28 := cf hb34 h28; refine sr (zS dE (zA (nx ?_))); refine zC (fun hb35 => ?_) (fun hb35 => ?_)
  ·replace h28 := ct hb35 h28; exact kR (zA (zA (zA (zN (xB (xm (true, true, false, true) (smh h28)))))))
  replace h28 := cf hb35 h28; exact kK (xB (xm (false, false, false, false) (smh h28)))
 intro s24 hx; obtain rfl : s24 = z26 := hx.symm; replace h := hz27; refine kS (sr (zI (zI ?_))); obtain ⟨z37, h39, hz38⟩ := bs h; refine zV (z := z37) 6 69 ?_ ?_
 ·refine zP s24.1 (fun hb36 => ?_) (fun hb36 => ?_)
  ·replace h39 := ct hb36 h39; refine zG hb36 dM ?_; refine zG hb36 (fB 1 u_46 z_3) ?_; refine zG hb36 (lC a_3 0) ?_; obtain ⟨r40, hc41, h39⟩ := bs h39; refine zG hb36 (does_callC (As := [(tI a1.Instr.A)]) (Cs := [(pAt g1 0)]) 2 rfl (c_vcode_validInstr_1 a1.Instr.A a0 g1 r40 hc41) rfl k_126 rfl rfl rfl) ?_; refine zG hb36 dO ?_; exact zS (pU hb36) (zN (xm (!r40) (smh h39)))
  replace h39 := cf hb36 h39; (iterate 5 refine zK hb36 ?_); exact zS (pG hb36) (zN (xm false (smh h39)))
 replace h := hz38; refine zI ?_; obtain ⟨z43, h45, hz44⟩ := bs h; refine zV (z := z43) 9 79 ?_ ?_
 ·refine zP z37 (fun hb42 => ?_) (fun hb42 => ?_)
  ·replace h45 := ct hb42 h45; (iterate 2 refine zK hb42 ?_); (iterate 5 refine zU ?_); refine zK hb42 ?_; exact zS (pU hb42) (zN (xm true (smh h45)))
  replace h45 := cf hb42 h45; refine zG hb42 dM ?_; refine zG hb42 dM ?_; obtain ⟨z47, h49, hz48⟩ := bs h45; refine zV (z := z47) 6 78 ?_ ?_
  ·refine zP s24.2.1 (fun hb46 => ?_) (fun hb46 => ?_)
   ·replace h49 := ct hb46 h49; refine zG hb46 dM ?_; refine zG hb46 (fB 2 u_46 z_3) ?_; refine zG hb46 (lC a_3 0) ?_; obtain ⟨r50, hc51, h49⟩ := bs h49; refine zG hb46 (does_callC (As := [(tI a1.Instr.B)]) (Cs := [(pAt g1 0)]) 2 rfl (c_vcode_validInstr_1 a1.Instr.B a0 g1 r50 hc51) rfl k_126 rfl rfl rfl) ?_; refine zG hb46 dO ?_; refine zG hb42 (pU hb46) ?_; exact zN (xm (!r50) (smh h49))
   replace h49 := cf hb46 h49; (iterate 5 refine zK hb46 ?_); refine zG hb42 (pG hb46) ?_; exact zN (xm false (smh h49))
  replace h45 := hz48; exact zS (pG hb42) (zN (xm z47 (smh h45)))
 replace h := hz44; refine zI ?_; obtain ⟨z53, h55, hz54⟩ := bs h; refine zV (z := z53) 9 89 ?_ ?_
 ·refine zP z43 (fun hb52 => ?_) (fun hb52 => ?_)
  ·replace h55 := ct hb52 h55; (iterate 2 refine zK hb52 ?_); (iterate 5 refine zU ?_); refine zK hb52 ?_; exact zS (pU hb52) (zN (xm true (smh h55)))
  replace h55 := cf hb52 h55; refine zG hb52 dM ?_; refine zG hb52 dM ?_; obtain ⟨z57, h59, hz58⟩ := bs h55; refine zV (z := z57) 6 88 ?_ ?_
  ·refine zP s24.2.2.1 (fun hb56 => ?_) (fun hb56 => ?_)
   ·replace h59 := ct hb56 h59; refine zG hb56 dM ?_; refine zG hb56 (fB 3 u_46 z_3) ?_; refine zG hb56 (lC a_3 0) ?_; obtain ⟨r60, hc61, h59⟩ := bs h59; refine zG hb56 (does_callC (As := [(tI a1.Instr.C)]) (Cs := [(pAt g1 0)]) 2 rfl (c_vcode_validInstr_1 a1.Instr.C a0 g1 r60 hc61) rfl k_126 rfl rfl rfl) ?_; refine zG hb56 dO ?_; refine zG hb52 (pU hb56) ?_; exact zN (xm (!r60) (smh h59))
   replace h59 := cf hb56 h59; (iterate 5 refine zK hb56 ?_); refine zG hb52 (pG hb56) ?_; exact zN (xm false (smh h59))
  replace h55 := hz58; exact zS (pG hb52) (zN (xm z57 (smh h55)))
 replace h := hz54; refine zI ?_; refine zT (z := (z53 || ((!s24.1) && (a1.Instr.A != 0)))) 8 98 ?_ ?_
 ·refine zP z53 (fun hb62 => ?_) (fun hb62 => ?_)
  ·(iterate 3 refine zK hb62 ?_); (iterate 3 refine zU ?_); refine zK hb62 ?_; exact zS (pU hb62) (zN (xm true (or_t hb62)))
  refine zG hb62 dM ?_; refine zG hb62 dO ?_; refine zG hb62 dM ?_; refine zT (z := ((!s24.1) && (a1.Instr.A != 0))) 4 97 ?_ ?_
  ·refine zP (!s24.1) (fun hb63 => ?_) (fun hb63 => ?_)
   ·refine zG hb63 (fB 1 u_46 z_3) ?_; refine zG hb63 (lC a_3 0) ?_; refine zG hb63 dN ?_; refine zG hb62 (pU hb63) ?_; exact zN (xm (a1.Instr.A != 0) (and_t hb63))
   (iterate 3 refine zK hb63 ?_); refine zG hb62 (pG hb63) ?_; exact zN (xm false (and_f hb63))
  exact zS (pG hb62) (zN (xm ((!s24.1) && (a1.Instr.A != 0)) (or_f hb62)))
 refine zI ?_; refine zT (z := ((z53 || ((!s24.1) && (a1.Instr.A != 0))) || ((!s24.2.1) && (a1.Instr.B != 0)))) 8 107 ?_ ?_
 ·refine zP (z53 || ((!s24.1) && (a1.Instr.A != 0))) (fun hb65 => ?_) (fun hb65 => ?_)
  ·(iterate 3 refine zK hb65 ?_); (iterate 3 refine zU ?_); refine zK hb65 ?_; exact zS (pU hb65) (zN (xm true (or_t hb65)))
  refine zG hb65 dM ?_; refine zG hb65 dO ?_; refine zG hb65 dM ?_; refine zT (z := ((!s24.2.1) && (a1.Instr.B != 0))) 4 106 ?_ ?_
  ·refine zP (!s24.2.1) (fun hb66 => ?_) (fun hb66 => ?_)
   ·refine zG hb66 (fB 2 u_46 z_3) ?_; refine zG hb66 (lC a_3 0) ?_; refine zG hb66 dN ?_; refine zG hb65 (pU hb66) ?_; exact zN (xm (a1.Instr.B != 0) (and_t hb66))
   (iterate 3 refine zK hb66 ?_); refine zG hb65 (pG hb66) ?_; exact zN (xm false (and_f hb66))
  exact zS (pG hb65) (zN (xm ((!s24.2.1) && (a1.Instr.B != 0)) (or_f hb65)))
 refine zI ?_; refine zT (z := (((z53 || ((!s24.1) && (a1.Instr.A != 0))) || ((!s24.2.1) && (a1.Instr.B != 0))) || ((!s24.2.2.1) && (a1.Instr.C != 0)))) 8 116 ?_ ?_
 ·refine zP ((z53 || ((!s24.1) && (a1.Instr.A != 0))) || ((!s24.2.1) && (a1.Instr.B != 0))) (fun hb68 => ?_) (fun hb68 => ?_)
  ·(iterate 3 refine zK hb68 ?_); (iterate 3 refine zU ?_); refine zK hb68 ?_; exact zS (pU hb68) (zN (xm true (or_t hb68)))
  refine zG hb68 dM ?_; refine zG hb68 dO ?_; refine zG hb68 dM ?_; refine zT (z := ((!s24.2.2.1) && (a1.Instr.C != 0))) 4 115 ?_ ?_
  ·refine zP (!s24.2.2.1) (fun hb69 => ?_) (fun hb69 => ?_)
   ·refine zG hb69 (fB 3 u_46 z_3) ?_; refine zG hb69 (lC a_3 0) ?_; refine zG hb69 dN ?_; refine zG hb68 (pU hb69) ?_; exact zN (xm (a1.Instr.C != 0) (and_t hb69))
   (iterate 3 refine zK hb69 ?_); refine zG hb68 (pG hb69) ?_; exact zN (xm false (and_f hb69))
  exact zS (pG hb68) (zN (xm ((!s24.2.2.1) && (a1.Instr.C != 0)) (or_f hb68)))
 refine zI ?_; refine zT (z := ((((z53 || ((!s24.1) && (a1.Instr.A != 0))) || ((!s24.2.1) && (a1.Instr.B != 0))) || ((!s24.2.2.1) && (a1.Instr.C != 0))) || ((!s24.2.2.2) && (a1.Instr.N != 0)))) 8 125 ?_ ?_
 ·refine zP (((z53 || ((!s24.1) && (a1.Instr.A != 0))) || ((!s24.2.1) && (a1.Instr.B != 0))) || ((!s24.2.2.1) && (a1.Instr.C != 0))) (fun hb71 => ?_) (fun hb71 => ?_)
  ·(iterate 3 refine zK hb71 ?_); (iterate 3 refine zU ?_); refine zK hb71 ?_; exact zS (pU hb71) (zN (xm true (or_t hb71)))
  refine zG hb71 dM ?_; refine zG hb71 dO ?_; refine zG hb71 dM ?_; refine zT (z := ((!s24.2.2.2) && (a1.Instr.N != 0))) 4 124 ?_ ?_
  ·refine zP (!s24.2.2.2) (fun hb72 => ?_) (fun hb72 => ?_)
   ·refine zG hb72 (fB 4 u_46 z_2) ?_; refine zG hb72 (lC a_2 0) ?_; refine zG hb72 dN ?_; refine zG hb71 (pU hb72) ?_; exact zN (xm (a1.Instr.N != 0) (and_t hb72))
   (iterate 3 refine zK hb72 ?_); refine zG hb71 (pG hb72) ?_; exact zN (xm false (and_f hb72))
  exact zS (pG hb71) (zN (xm ((!s24.2.2.2) && (a1.Instr.N != 0)) (or_f hb71)))
 refine nx ?_; refine zC (fun hb74 => ?_) (fun hb74 => ?_)
 ·replace h := ct hb74 h; refine sr (zA (nx (kT (xR ?_)))); obtain rfl := (smh h).symm; refine xD 0 ?_; refine xD 0 ?_; exact xD 0 (xq_ () Tryd.results103 rfl rfl)
 replace h := cf hb74 h; refine kK (xN (kS (sr (zS (fB 0 u_46 z_3) (zS (lC a_3 0) (nx (kB ?_))))))); refine sr (zS dE (zA (nx ?_))); refine zC (fun hb75 => ?_) (fun hb75 => ?_)
 ·replace h := ct hb75 h; refine sr (zS (fB 4 u_46 z_2) (zS (lC a_2 0) (zS dG (zI ?_)))); refine zT (z := ((decide (a1.Instr.N ≥ (-4194304))) && (decide (a1.Instr.N < 4194304)))) 4 137 ?_ ?_
  ·refine zP (decide (a1.Instr.N ≥ (-4194304))) (fun hb76 => ?_) (fun hb76 => ?_)
   ·refine zG hb76 (fB 4 u_46 z_2) ?_; refine zG hb76 (lC a_2 0) ?_; refine zG hb76 dL ?_; exact zS (pU hb76) (zN (xm (decide (a1.Instr.N < 4194304)) (and_t hb76)))
   (iterate 3 refine zK hb76 ?_); exact zS (pG hb76) (zN (xm false (and_f hb76)))
  refine zA (nx (kT ?_)); refine okX_block_ret ?_; refine xR ?_; obtain rfl := (smh h).symm; refine xD 0 ?_; refine xD 0 ?_; exact xD 0 (xq_ () Tryd.results103 rfl rfl)
 replace h := cf hb75 h; refine sr (zS dE (zA (nx ?_))); refine zC (fun hb78 => ?_) (fun hb78 => ?_)
 ·replace h := ct hb78 h; refine sr (zS (fB 4 u_46 z_2) (zS (lC a_2 0) (zS dG (zI ?_)))); refine zT (z := ((decide (a1.Instr.N ≥ 0)) && (decide (a1.Instr.N < 8)))) 4 147 ?_ ?_
  ·refine zP (decide (a1.Instr.N ≥ 0)) (fun hb79 => ?_) (fun hb79 => ?_)
   ·refine zG hb79 (fB 4 u_46 z_2) ?_; refine zG hb79 (lC a_2 0) ?_; refine zG hb79 dL ?_; exact zS (pU hb79) (zN (xm (decide (a1.Instr.N < 8)) (and_t hb79)))
   (iterate 3 refine zK hb79 ?_); exact zS (pG hb79) (zN (xm false (and_f hb79)))
  refine zA (nx (kT ?_)); refine okX_block_ret ?_; refine xR ?_; obtain rfl := (smh h).symm; refine xD 0 ?_; refine xD 0 ?_; exact xD 0 (xq_ () Tryd.results103 rfl rfl)
 replace h := cf hb78 h; obtain ⟨z83, h85, hz84⟩ := bs h; refine okC_meet (X := Bool) (fun x => z83 = x) (fun x => [(2, (pAt g1 0)), (5, (pAt g3 0)), (127, (tI a1.Instr.Op)), (148, (tB x))]) (fun x => Item.blk g3 46 (S46 a1.Instr) :: Item.blk g2 48 (S48 a1) :: Item.blk g1 27 (S27 a0) :: L) ?_ ?_
 ·refine sr (zS dE (zA (nx ?_))); refine zC (fun hb86 => ?_) (fun hb86 => ?_)
  ·replace h85 := ct hb86 h85; exact kK (xm (a1.Instr.Op == 34) (smh h85))
  replace h85 := cf hb86 h85; exact kR (zS dE (zA (zN (xm (a1.Instr.Op == 35) (smh h85)))))
 intro s81 hx; obtain rfl : s81 = z83 := hx.symm; replace h := hz84; refine zC (fun hb87 => ?_) (fun hb87 => ?_)
 ·replace h := ct hb87 h; refine sr (zS (fB 4 u_46 z_2) (zS (lC a_2 0) (zS dG (zI ?_)))); refine zT (z := ((decide (a1.Instr.N ≥ 0)) && (decide (a1.Instr.N < 4)))) 4 158 ?_ ?_
  ·refine zP (decide (a1.Instr.N ≥ 0)) (fun hb88 => ?_) (fun hb88 => ?_)
   ·refine zG hb88 (fB 4 u_46 z_2) ?_; refine zG hb88 (lC a_2 0) ?_; refine zG hb88 dL ?_; exact zS (pU hb88) (zN (xm (decide (a1.Instr.N < 4)) (and_t hb88)))
   (iterate 3 refine zK hb88 ?_); exact zS (pG hb88) (zN (xm false (and_f hb88)))
  refine zA (nx (kT ?_)); refine okX_block_ret ?_; refine xR ?_; obtain rfl := (smh h).symm; refine xD 0 ?_; refine xD 0 ?_; exact xD 0 (xq_ () Tryd.results103 rfl rfl)
 replace h := cf hb87 h; refine sr (zS dE (zA (nx ?_))); refine zC (fun hb90 => ?_) (fun hb90 => ?_)
 ·replace h := ct hb90 h; refine sr (zS (fB 4 u_46 z_2) (zS (lC a_2 0) (zS dG (zI ?_)))); refine zT (z := ((decide (a1.Instr.N ≥ 0)) && (decide (a1.Instr.N < a0.Params)))) 6 170 ?_ ?_
  ·refine zP (decide (a1.Instr.N ≥ 0)) (fun hb91 => ?_) (fun hb91 => ?_)
   ·refine zG hb91 (fB 4 u_46 z_2) ?_; refine zG hb91 (lC a_2 0) ?_; refine zG hb91 (fB 0 u_27 z_3) ?_; refine zG hb91 (lC a_3 2) ?_; refine zG hb91 dL ?_; exact zS (pU hb91) (zN (xm (decide (a1.Instr.N < a0.Params)) (and_t hb91)))
   (iterate 5 refine zK hb91 ?_); exact zS (pG hb91) (zN (xm false (and_f hb91)))
  refine zA (nx (kT ?_)); refine okX_block_ret ?_; refine xR ?_; obtain rfl := (smh h).symm; refine xD 0 ?_; refine xD 0 ?_; exact xD 0 (xq_ () Tryd.results103 rfl rfl)
 replace h := cf hb90 h; refine kK (xB (xN (sr (zA (nx (kT ?_)))))); obtain rfl := (smh h).symm; refine xD 0 ?_; refine xD 0 ?_; exact xD 0 (xq_ () Tryd.results103 rfl rfl)
def vcode_Valid_l2 (K : Nat) (a0 : VFunc) (y16 : Block) : Nat → Int → Option (Unit ⊕ (Unit ⊕ Bool))
 | 0, _ => none
 | k + 1, s24 => (cnd (decide (s24 < ((y16.Instrs).length : Int))) (Option.bind (idx y16.Instrs s24) (fun y27 => (Option.bind (vcode_validInstr K a0 y27) (fun r30 => (cnd (!r30) (out (out (some false))) (vcode_Valid_l2 K a0 y16 k (w64 (s24 + 1)))))))) (inn ()))
def vcode_Valid_l1 (K : Nat) (a0 : VFunc) : Nat → Int → Option (Unit ⊕ Bool)
 | 0, _ => none
 | k + 1, s13 => (cnd (decide (s13 < ((a0.Blocks).length : Int))) (Option.bind (idx a0.Blocks s13) (fun y16 => (sq (vcode_Valid_l2 K a0 y16 K 0) (fun s19 => (Option.bind (cnd (y16.End == 1) (Option.bind (vcode_Valid_1 y16.Target a0) (fun r39 => (some ((r39 && (y16.Reg == 0)) && (y16.Else == 0))))) (cnd (y16.End == 2) (Option.bind (vcode_Valid_1 y16.Target a0) (fun r46 => (Option.bind (cnd r46 (Option.bind (vcode_Valid_1 y16.Else a0) (fun r52 => (some r52))) (some false)) (fun z49 => (Option.bind (cnd z49 (Option.bind (vcode_Valid_2 y16.Reg a0) (fun r58 => (some r58))) (some false)) (fun z55 => (some z55))))))) (cnd (y16.End == 3) (Option.bind (vcode_Valid_2 y16.Reg a0) (fun r61 => (some ((r61 && (y16.Target == 0)) && (y16.Else == 0))))) (cnd (y16.End == 4) (some ((((decide (y16.Target ≥ 1)) && (decide (y16.Target < 33554432))) && (y16.Reg == 0)) && (y16.Else == 0))) (some false))))) (fun s33 => (cnd (!s33) (out (some false)) (vcode_Valid_l1 K a0 k (w64 (s13 + 1)))))))))) (inn ()))
def vcode_Valid (K : Nat) (a0 : VFunc) : Option Bool :=
 (cnd ((((((decide (a0.Params < 0)) || (decide (a0.Params > 6))) || (decide (a0.Regs < 0))) || (decide (a0.Regs > 3000))) || (decide (((a0.Blocks).length : Int) < 1))) || (decide (((a0.Blocks).length : Int) > 1000))) (some false) (sq (vcode_Valid_l1 K a0 K 0) (fun s8 => (some true))))
theorem c_vcode_Valid (K : Nat) (a0 : VFunc) (r : Bool) (h : vcode_Valid K a0 = some r) : CallP Tryd.prog glob 63 [(Ty.agg (S27 a0))] (tB r) := by
 refine call_of_code Tryd.func63 rfl Tryd.ntmps63 rfl (fun L w => ?_); change OkC _ _ _ [(0, (Ty.agg (S27 a0)))] (L); unfold vcode_Valid at h; refine sr ?_; refine zO (oB (S27 a0) rfl (pA _) (fun g1 => ?_)); refine zA (nx (kS (sr (zS (fB 0 u_27 z_3) (zS (lC a_3 0) (zS dL (zI ?_))))))); refine zT (z := ((decide (a0.Params < 0)) || (decide (a0.Params > 6)))) 4 17 ?_ ?_
 ·refine zP (decide (a0.Params < 0)) (fun hb2 => ?_) (fun hb2 => ?_)
  ·(iterate 3 refine zK hb2 ?_); exact zS (pU hb2) (zN (xm true (or_t hb2)))
  refine zG hb2 (fB 0 u_27 z_3) ?_; refine zG hb2 (lC a_3 0) ?_; refine zG hb2 dT ?_; exact zS (pG hb2) (zN (xm (decide (a0.Params > 6)) (or_f hb2)))
 refine zI ?_; refine zT (z := (((decide (a0.Params < 0)) || (decide (a0.Params > 6))) || (decide (a0.Regs < 0)))) 4 22 ?_ ?_
 ·refine zP ((decide (a0.Params < 0)) || (decide (a0.Params > 6))) (fun hb3 => ?_) (fun hb3 => ?_)
  ·(iterate 3 refine zK hb3 ?_); exact zS (pU hb3) (zN (xm true (or_t hb3)))
  refine zG hb3 (fB 1 u_27 z_3) ?_; refine zG hb3 (lC a_3 0) ?_; refine zG hb3 dL ?_; exact zS (pG hb3) (zN (xm (decide (a0.Regs < 0)) (or_f hb3)))
 refine zI ?_; refine zT (z := ((((decide (a0.Params < 0)) || (decide (a0.Params > 6))) || (decide (a0.Regs < 0))) || (decide (a0.Regs > 3000)))) 4 27 ?_ ?_
 ·refine zP (((decide (a0.Params < 0)) || (decide (a0.Params > 6))) || (decide (a0.Regs < 0))) (fun hb4 => ?_) (fun hb4 => ?_)
  ·(iterate 3 refine zK hb4 ?_); exact zS (pU hb4) (zN (xm true (or_t hb4)))
  refine zG hb4 (fB 1 u_27 z_3) ?_; refine zG hb4 (lC a_3 0) ?_; refine zG hb4 dT ?_; exact zS (pG hb4) (zN (xm (decide (a0.Regs > 3000)) (or_f hb4)))
 refine zI ?_; refine zT (z := (((((decide (a0.Params < 0)) || (decide (a0.Params > 6))) || (decide (a0.Regs < 0))) || (decide (a0.Regs > 3000))) || (decide (((a0.Blocks).length : Int) < 1)))) 5 33 ?_ ?_
 ·refine zP ((((decide (a0.Params < 0)) || (decide (a0.Params > 6))) || (decide (a0.Regs < 0))) || (decide (a0.Regs > 3000))) (fun hb5 => ?_) (fun hb5 => ?_)
  ·(iterate 4 refine zK hb5 ?_); exact zS (pU hb5) (zN (xm true (or_t hb5)))
  refine zG hb5 (fB 2 u_27 z_25) ?_; refine zG hb5 (lC a_25 0) ?_; refine zG hb5 (lM u_25) ?_; refine zG hb5 dL ?_; exact zS (pG hb5) (zN (xm (decide (((a0.Blocks).length : Int) < 1)) (or_f hb5)))
 refine zI ?_; refine zT (z := ((((((decide (a0.Params < 0)) || (decide (a0.Params > 6))) || (decide (a0.Regs < 0))) || (decide (a0.Regs > 3000))) || (decide (((a0.Blocks).length : Int) < 1))) || (decide (((a0.Blocks).length : Int) > 1000)))) 5 39 ?_ ?_
 ·refine zP (((((decide (a0.Params < 0)) || (decide (a0.Params > 6))) || (decide (a0.Regs < 0))) || (decide (a0.Regs > 3000))) || (decide (((a0.Blocks).length : Int) < 1))) (fun hb6 => ?_) (fun hb6 => ?_)
  ·(iterate 4 refine zK hb6 ?_); exact zS (pU hb6) (zN (xm true (or_t hb6)))
  refine zG hb6 (fB 2 u_27 z_25) ?_; refine zG hb6 (lC a_25 0) ?_; refine zG hb6 (lM u_25) ?_; refine zG hb6 dT ?_; exact zS (pG hb6) (zN (xm (decide (((a0.Blocks).length : Int) > 1000)) (or_f hb6)))
 refine nx ?_; refine zC (fun hb7 => ?_) (fun hb7 => ?_)
 ·replace h := ct hb7 h; refine sr (zA (nx (kT (xR ?_)))); obtain rfl := (smh h).symm; exact xD 0 (xq_ () Tryd.results63 rfl rfl)
 replace h := cf hb7 h; refine kK (xN (sr ?_)); refine zS (does_makeFunc (vs := [(.pointer (some ⟨g1, 0, none⟩))]) rfl) ?_; refine zA (nsr ?_); refine zS (does_makeFunc (vs := [(.pointer (some ⟨g1, 0, none⟩))]) rfl) ?_; refine zA (nx (kS (sr (zS (fB 2 u_27 z_25) (zS (lC a_25 0) (zS (lM u_25) (zI ?_))))))); refine nx ?_; obtain ⟨z10, h12, hz11⟩ := sqs h; refine okC_meetE (X := Unit) (fun x => z10 = .inl x) (fun x => []) (fun x => Item.blk g1 27 (S27 a0) :: L) ?_ ?_
 ·refine kB ?_; refine okC_loop (X := Int) (fun k x => vcode_Valid_l1 K a0 k x = some z10) (fun x => [(1, (pAt g1 0)), (3, (Ty.val (.func (.func 101) #[] #[(.pointer (some ⟨g1, 0, none⟩))]))), (4, (Ty.val (.func (.func 102) #[] #[(.pointer (some ⟨g1, 0, none⟩))]))), (43, (tL 5 Block.ty a0.Blocks)), (44, (tI ((a0.Blocks).length : Int))), (45, (tI x))]) (fun x => Item.blk g1 27 (S27 a0) :: L) K 0 h12 cva rfl (fun k s13 hI => ?_)
  cases k with
  | zero => exact (nz hI).elim
  | succ k =>
  have h := (vcode_Valid_l1.eq_2 ..).symm.trans hI; refine sr (zS dL (nx (kS ?_))); refine zC (fun hb15 => ?_) (fun hb15 => ?_)
  ·replace h := ct hb15 h; refine kK (xN (kS (kB (sr ?_)))); obtain ⟨y16, hi17, h⟩ := bs h; refine zS (iX u_25 z_43 hi17) ?_; refine zS (does_loadA (S43 y16) a_43 z_43 rfl rfl rfl) ?_; refine zO (oA [tN, tZ, tZ, tZ, tZ] v_43 (part_of (sub_agg [sN, sZ, sZ, sZ, sZ] rfl) (pA _)) (fun g18 => ?_)); refine zB 0 (pA _) z_43 ?_; refine nx (kS (sr (zS (fB 0 u_43 z_41) (zS (lC a_41 0) (zS (lM u_41) (zI (nx ?_))))))); obtain ⟨z21, h23, hz22⟩ := sqs h; refine okC_meetE (X := Unit) (fun x => z21 = .inl x) (fun x => [(1, (pAt g1 0)), (3, (Ty.val (.func (.func 101) #[] #[(.pointer (some ⟨g1, 0, none⟩))]))), (4, (Ty.val (.func (.func 102) #[] #[(.pointer (some ⟨g1, 0, none⟩))]))), (6, (pAt g18 0)), (43, (tL 5 Block.ty a0.Blocks)), (44, (tI ((a0.Blocks).length : Int))), (45, (tI s13))]) (fun x => Item.blk g18 43 (S43 y16) :: Item.blk g1 27 (S27 a0) :: L) ?_ ?_
   ·refine kB ?_; refine okC_loop (X := Int) (fun k x => vcode_Valid_l2 K a0 y16 k x = some z21) (fun x => [(1, (pAt g1 0)), (3, (Ty.val (.func (.func 101) #[] #[(.pointer (some ⟨g1, 0, none⟩))]))), (4, (Ty.val (.func (.func 102) #[] #[(.pointer (some ⟨g1, 0, none⟩))]))), (6, (pAt g18 0)), (43, (tL 5 Block.ty a0.Blocks)), (44, (tI ((a0.Blocks).length : Int))), (45, (tI s13)), (50, (tL 6 VInstr.ty y16.Instrs)), (51, (tI ((y16.Instrs).length : Int))), (52, (tI x))]) (fun x => Item.blk g18 43 (S43 y16) :: Item.blk g1 27 (S27 a0) :: L) K 0 h23 cva rfl (fun k s24 hI => ?_)
    cases k with
    | zero => exact (nz hI).elim
    | succ k =>
    have h := (vcode_Valid_l2.eq_2 ..).symm.trans hI; refine sr (zS dL (nx (kS ?_))); refine zC (fun hb26 => ?_) (fun hb26 => ?_)
    ·replace h := ct hb26 h; refine kK (xN (kS (kB (sr ?_)))); obtain ⟨y27, hi28, h⟩ := bs h; refine zS (iX u_41 z_48 hi28) ?_; refine zS (does_loadA (S48 y27) a_48 z_48 rfl rfl rfl) ?_; refine zO (oA [tZ, tZ, tZ, tZ, tZ, tN] v_48 (part_of (sub_agg [sZ, sZ, sZ, sZ, sZ, sN] rfl) (pA _)) (fun g29 => ?_)); refine zB 0 (pA _) z_48 ?_; refine nsr ?_; refine zS (lA (S27 a0) a_27 z_27 rfl 2 rfl rfl rfl) ?_; refine zS (lA (S48 y27) a_48 z_48 rfl 0 rfl rfl rfl) ?_; obtain ⟨r30, hc31, h⟩ := bs h; refine zS (cQ (c_vcode_validInstr K a0 y27 r30 hc31) k_103) (zS dO (nx ?_)); refine zC (fun hb32 => ?_) (fun hb32 => ?_)
     ·replace h := ct hb32 h; refine sr (zA (nx (kT ?_))); refine okX_block_ret ?_; refine xR ?_; refine okX_again_ret ?_; refine okX_block_ret ?_; refine okX_meet_ret ?_; replace h := outh h hz22; refine xR ?_; refine okX_block_ret ?_; refine xR ?_; refine okX_again_ret ?_; refine okX_block_ret ?_; refine okX_meet_ret ?_; replace h := outh h hz11; refine xR ?_; obtain rfl := (smh h).symm; refine xD 0 ?_; refine xD 0 ?_; exact xD 0 (xq_ () Tryd.results63 rfl rfl)
     replace h := cf hb32 h; exact kK (xB (xN (kR (zS dA (zI (zN (xD 0 (xa (w64 (s24 + 1)) h))))))))
    replace h := cf hb26 h; exact kE (xT (xE (xH (xm () (innh h)))))
   intro s19 hx; have hx : z21 = .inl s19 := hx; subst hx; replace h := hz22; refine xN (sr (zA (nx ?_))); obtain ⟨z35, h37, hz36⟩ := bs h; refine okC_meet (X := Bool) (fun x => z35 = x) (fun x => [(1, (pAt g1 0)), (3, (Ty.val (.func (.func 101) #[] #[(.pointer (some ⟨g1, 0, none⟩))]))), (4, (Ty.val (.func (.func 102) #[] #[(.pointer (some ⟨g1, 0, none⟩))]))), (9, (tB x)), (43, (tL 5 Block.ty a0.Blocks)), (44, (tI ((a0.Blocks).length : Int))), (45, (tI s13))]) (fun x => Item.blk g18 43 (S43 y16) :: Item.blk g1 27 (S27 a0) :: L) ?_ ?_
   ·refine sr (zS (fB 1 u_43 z_3) (zS (lC a_3 0) (nx (kB (sr (zS dE (zA ?_))))))); refine nx ?_; refine zC (fun hb38 => ?_) (fun hb38 => ?_)
    ·replace h37 := ct hb38 h37; refine kR (zI (zS (fB 3 u_43 z_3) (zS (lC a_3 0) ?_))); obtain ⟨r39, hc40, h37⟩ := bs h37; refine zS (does_callC (As := [(tI y16.Target)]) (Cs := [(pAt g1 0)]) 1 rfl (c_vcode_Valid_1 y16.Target a0 g1 r39 hc40) rfl k_101 rfl rfl rfl) ?_; refine zI ?_; refine zT (z := (r39 && (y16.Reg == 0))) 4 73 ?_ ?_
     ·refine zP r39 (fun hb41 => ?_) (fun hb41 => ?_)
      ·refine zG hb41 (fB 2 u_43 z_3) ?_; refine zG hb41 (lC a_3 0) ?_; refine zG hb41 dE ?_; exact zS (pU hb41) (zN (xm (y16.Reg == 0) (and_t hb41)))
      (iterate 3 refine zK hb41 ?_); exact zS (pG hb41) (zN (xm false (and_f hb41)))
     refine zI ?_; refine zT (z := ((r39 && (y16.Reg == 0)) && (y16.Else == 0))) 4 78 ?_ ?_
     ·refine zP (r39 && (y16.Reg == 0)) (fun hb42 => ?_) (fun hb42 => ?_)
      ·refine zG hb42 (fB 4 u_43 z_3) ?_; refine zG hb42 (lC a_3 0) ?_; refine zG hb42 dE ?_; exact zS (pU hb42) (zN (xm (y16.Else == 0) (and_t hb42)))
      (iterate 3 refine zK hb42 ?_); exact zS (pG hb42) (zN (xm false (and_f hb42)))
     exact zA (zN (xB (xm ((r39 && (y16.Reg == 0)) && (y16.Else == 0)) (smh h37))))
    replace h37 := cf hb38 h37; refine sr (zS dE (zA (nx ?_))); refine zC (fun hb45 => ?_) (fun hb45 => ?_)
    ·replace h37 := ct hb45 h37; refine kR (zI (zS (fB 3 u_43 z_3) (zS (lC a_3 0) ?_))); obtain ⟨r46, hc47, h37⟩ := bs h37; refine zS (does_callC (As := [(tI y16.Target)]) (Cs := [(pAt g1 0)]) 1 rfl (c_vcode_Valid_1 y16.Target a0 g1 r46 hc47) rfl k_101 rfl rfl rfl) ?_; refine zI ?_; obtain ⟨z49, h51, hz50⟩ := bs h37; refine zV (z := z49) 5 90 ?_ ?_
     ·refine zP r46 (fun hb48 => ?_) (fun hb48 => ?_)
      ·replace h51 := ct hb48 h51; refine zG hb48 dM ?_; refine zG hb48 (fB 4 u_43 z_3) ?_; refine zG hb48 (lC a_3 0) ?_; obtain ⟨r52, hc53, h51⟩ := bs h51; refine zG hb48 (does_callC (As := [(tI y16.Else)]) (Cs := [(pAt g1 0)]) 1 rfl (c_vcode_Valid_1 y16.Else a0 g1 r52 hc53) rfl k_101 rfl rfl rfl) ?_; exact zS (pU hb48) (zN (xm r52 (smh h51)))
      replace h51 := cf hb48 h51; (iterate 4 refine zK hb48 ?_); exact zS (pG hb48) (zN (xm false (smh h51)))
     replace h37 := hz50; refine zI ?_; obtain ⟨z55, h57, hz56⟩ := bs h37; refine zV (z := z55) 5 96 ?_ ?_
     ·refine zP z49 (fun hb54 => ?_) (fun hb54 => ?_)
      ·replace h57 := ct hb54 h57; refine zG hb54 dM ?_; refine zG hb54 (fB 2 u_43 z_3) ?_; refine zG hb54 (lC a_3 0) ?_; obtain ⟨r58, hc59, h57⟩ := bs h57; refine zG hb54 (does_callC (As := [(tI y16.Reg)]) (Cs := [(pAt g1 0)]) 1 rfl (c_vcode_Valid_2 y16.Reg a0 g1 r58 hc59) rfl k_102 rfl rfl rfl) ?_; exact zS (pU hb54) (zN (xm r58 (smh h57)))
      replace h57 := cf hb54 h57; (iterate 4 refine zK hb54 ?_); exact zS (pG hb54) (zN (xm false (smh h57)))
     replace h37 := hz56; exact zA (zN (xB (xm z55 (smh h37))))
    replace h37 := cf hb45 h37; refine sr (zS dE (zA (nx ?_))); refine zC (fun hb60 => ?_) (fun hb60 => ?_)
    ·replace h37 := ct hb60 h37; refine kR (zI (zS (fB 2 u_43 z_3) (zS (lC a_3 0) ?_))); obtain ⟨r61, hc62, h37⟩ := bs h37; refine zS (does_callC (As := [(tI y16.Reg)]) (Cs := [(pAt g1 0)]) 1 rfl (c_vcode_Valid_2 y16.Reg a0 g1 r61 hc62) rfl k_102 rfl rfl rfl) ?_; refine zI ?_; refine zT (z := (r61 && (y16.Target == 0))) 4 107 ?_ ?_
     ·refine zP r61 (fun hb63 => ?_) (fun hb63 => ?_)
      ·refine zG hb63 (fB 3 u_43 z_3) ?_; refine zG hb63 (lC a_3 0) ?_; refine zG hb63 dE ?_; exact zS (pU hb63) (zN (xm (y16.Target == 0) (and_t hb63)))
      (iterate 3 refine zK hb63 ?_); exact zS (pG hb63) (zN (xm false (and_f hb63)))
     refine zI ?_; refine zT (z := ((r61 && (y16.Target == 0)) && (y16.Else == 0))) 4 112 ?_ ?_
     ·refine zP (r61 && (y16.Target == 0)) (fun hb64 => ?_) (fun hb64 => ?_)
      ·refine zG hb64 (fB 4 u_43 z_3) ?_; refine zG hb64 (lC a_3 0) ?_; refine zG hb64 dE ?_; exact zS (pU hb64) (zN (xm (y16.Else == 0) (and_t hb64)))
      (iterate 3 refine zK hb64 ?_); exact zS (pG hb64) (zN (xm false (and_f hb64)))
     exact zA (zN (xB (xm ((r61 && (y16.Target == 0)) && (y16.Else == 0)) (smh h37))))
    replace h37 := cf hb60 h37; refine sr (zS dE (zA (nx ?_))); refine zC (fun hb67 => ?_) (fun hb67 => ?_)
    ·replace h37 := ct hb67 h37; refine kR (zS (fB 3 u_43 z_3) (zS (lC a_3 0) (zS dG (zI ?_)))); refine zT (z := ((decide (y16.Target ≥ 1)) && (decide (y16.Target < 33554432)))) 4 122 ?_ ?_
     ·refine zP (decide (y16.Target ≥ 1)) (fun hb68 => ?_) (fun hb68 => ?_)
      ·refine zG hb68 (fB 3 u_43 z_3) ?_; refine zG hb68 (lC a_3 0) ?_; refine zG hb68 dL ?_; exact zS (pU hb68) (zN (xm (decide (y16.Target < 33554432)) (and_t hb68)))
      (iterate 3 refine zK hb68 ?_); exact zS (pG hb68) (zN (xm false (and_f hb68)))
     refine zI ?_; refine zT (z := (((decide (y16.Target ≥ 1)) && (decide (y16.Target < 33554432))) && (y16.Reg == 0))) 4 127 ?_ ?_
     ·refine zP ((decide (y16.Target ≥ 1)) && (decide (y16.Target < 33554432))) (fun hb69 => ?_) (fun hb69 => ?_)
      ·refine zG hb69 (fB 2 u_43 z_3) ?_; refine zG hb69 (lC a_3 0) ?_; refine zG hb69 dE ?_; exact zS (pU hb69) (zN (xm (y16.Reg == 0) (and_t hb69)))
      (iterate 3 refine zK hb69 ?_); exact zS (pG hb69) (zN (xm false (and_f hb69)))
     refine zI ?_; refine zT (z := ((((decide (y16.Target ≥ 1)) && (decide (y16.Target < 33554432))) && (y16.Reg == 0)) && (y16.Else == 0))) 4 132 ?_ ?_
     ·refine zP (((decide (y16.Target ≥ 1)) && (decide (y16.Target < 33554432))) && (y16.Reg == 0)) (fun hb70 => ?_) (fun hb70 => ?_)
      ·refine zG hb70 (fB 4 u_43 z_3) ?_; refine zG hb70 (lC a_3 0) ?_; refine zG hb70 dE ?_; exact zS (pU hb70) (zN (xm (y16.Else == 0) (and_t hb70)))
      (iterate 3 refine zK hb70 ?_); exact zS (pG hb70) (zN (xm false (and_f hb70)))
     exact zA (zN (xB (xm ((((decide (y16.Target ≥ 1)) && (decide (y16.Target < 33554432))) && (y16.Reg == 0)) && (y16.Else == 0)) (smh h37))))
    replace h37 := cf hb67 h37; exact kK (xB (xm false (smh h37)))
   intro s33 hx; obtain rfl : s33 = z35 := hx.symm; replace h := hz36; refine sr (zI (zS dO (nx ?_))); refine zC (fun hb74 => ?_) (fun hb74 => ?_)
   ·replace h := ct hb74 h; refine sr (zA (nx (kT ?_))); refine okX_block_ret ?_; refine xR ?_; refine okX_again_ret ?_; refine okX_block_ret ?_; refine okX_meet_ret ?_; replace h := outh h hz11; refine xR ?_; obtain rfl := (smh h).symm; refine xD 0 ?_; exact xD 0 (xq_ () Tryd.results63 rfl rfl)
   replace h := cf hb74 h; exact kK (xB (xN (kR (zS dA (zI (zN (xD 0 (xa (w64 (s13 + 1)) h))))))))
  replace h := cf hb15 h; exact kE (xT (xE (xH (xm () (innh h)))))
 intro s8 hx; have hx : z10 = .inl s8 := hx; subst hx; replace h := hz11; refine xN (sr (zA (nx (kT ?_)))); obtain rfl := (smh h).symm; exact xD 0 (xq_ () Tryd.results63 rfl rfl)
def ref29_Info  (a0 : Int) : Option (OpInfo × Bool) :=
 (Option.bind (ref29_form a0) (fun r2 => (cnd (r2 == 0) (some ((⟨⟨#[]⟩, 0, false, false, false, false, 0⟩ : OpInfo), false)) (Option.bind (ref29_names) (fun r5 => (Option.bind (idx r5 a0) (fun y7 => (Option.bind (cnd (a0 == 14) (some 3) (some 1)) (fun s10 => (Option.bind (cnd (((a0 == 11) || (a0 == 12)) || ((a0 == 15) || (a0 == 16))) (some true) (Option.bind (ref29_IsBinary a0) (fun r23 => (some r23)))) (fun z20 => (Option.bind (cnd (((a0 == 11) || (a0 == 12)) || ((a0 == 15) || (a0 == 16))) (some true) (Option.bind (ref29_IsBinary a0) (fun r36 => (some r36)))) (fun z33 => (Option.bind (cnd ((a0 == 11) || (a0 == 12)) (some true) (Option.bind (ref29_IsBinary a0) (fun r48 => (some r48)))) (fun z45 => (some ((⟨y7, r2, ((((((z20 || (a0 == 7)) || (a0 == 8)) || (a0 == 9)) || (a0 == 33)) || (a0 == 35)) || (a0 == 37)), ((((((z33 || (a0 == 10)) || (a0 == 13)) || (a0 == 14)) || (a0 == 33)) || (a0 == 34)) || (a0 == 36)), (((z45 || (a0 == 10)) || (a0 == 34)) || (a0 == 35)), (((((a0 == 4) || (a0 == 20)) || (a0 == 21)) || (a0 == 34)) || (a0 == 35)), s10⟩ : OpInfo), true)))))))))))))))))
theorem c_ref29_Info  (a0 : Int) (r : OpInfo × Bool) (h : ref29_Info  a0 = some r) : CallP Tryd.prog glob 99 [(tI a0)] (Ty.tup [(Ty.agg (S113 r.1)), (tB r.2)]) := by
 refine call_of_code Tryd.func99 rfl Tryd.ntmps99 rfl (fun L w => ?_); change OkC _ _ _ [(0, (tI a0))] (L); unfold ref29_Info at h; refine sr ?_; refine zO (oA [(tS ⟨#[]⟩), tZ, (tB false), (tB false), (tB false), (tB false), tZ] v_113 (part_of (sub_agg [(.string ⟨#[]⟩), sZ, (.bool false), (.bool false), (.bool false), (.bool false), sZ] rfl) (pA _)) (fun g1 => ?_)); refine zA (nsr (zI ?_)); obtain ⟨r2, hc3, h⟩ := bs h; refine zS (cQ (c_ref29_form a0 r2 hc3) k_122) (zA (nx (kS (sr (zI (zS dE (nx ?_))))))); refine zC (fun hb4 => ?_) (fun hb4 => ?_)
 ·replace h := ct hb4 h; refine sr ?_; refine zS (does_build [(tS ⟨#[]⟩), tZ, (tB false), (tB false), (tB false), (tB false), tZ] v_113 u_113 (places113 _ u_113) rfl (fn_ rfl)) ?_; refine zB 0 (pA _) z_113 ?_; refine zA (nx (kT (xR ?_))); obtain rfl := (smh h).symm; exact okX_retCT () Tryd.results99 rfl rfl 0 rfl a_113 z_113 rfl rfl [Item.blk g1 113 [(tS ⟨#[]⟩), tZ, (tB false), (tB false), (tB false), (tB false), tZ]] (pm 0 rfl (pr _))
 replace h := cf hb4 h; refine kK (xN (sr ?_)); obtain ⟨r5, hc6, h⟩ := bs h; refine zS (cQ (c_ref29_names r5 hc6) k_123) (zI ?_); obtain ⟨y7, hi8, h⟩ := bs h; refine zS (iX u_156 z_9 hi8) (zS (lV a_9) (zI ?_)); refine zS (does_build [(tS y7), (tI r2), (tB false), (tB false), (tB false), (tB false), (tI 1)] v_113 u_113 (places113 _ u_113) rfl (fc [(tS y7)] 0 rfl (pq_ (one_s _)) rfl rfl (fc [(tI r2)] 1 rfl (pq_ (one_i _)) rfl rfl (fc [(tI 1)] 6 rfl (pq_ (one_i _)) rfl rfl (fn_ rfl))))) ?_; refine zO (oA [(tS ⟨#[]⟩), tZ, (tB false), (tB false), (tB false), (tB false), tZ] v_113 (part_of (sub_agg [(.string ⟨#[]⟩), sZ, (.bool false), (.bool false), (.bool false), (.bool false), sZ] rfl) (pA _)) (fun g9 => ?_)); refine zB 0 (pA _) z_113 ?_; refine nx ?_; obtain ⟨z12, h14, hz13⟩ := bs h; refine okC_meet (X := Int) (fun x => z12 = x) (fun x => [(0, (tI a0)), (2, (pAt g1 0)), (5, (pAt g9 0))]) (fun x => Item.blk g9 113 [(tS y7), (tI r2), (tB false), (tB false), (tB false), (tB false), (tI x)] :: Item.blk g1 113 [(tS ⟨#[]⟩), tZ, (tB false), (tB false), (tB false), (tB false), tZ] :: L) ?_ ?_
 ·refine sr (zI (zS dE (nx ?_))); refine zC (fun hb15 => ?_) (fun hb15 => ?_)
  ·replace h14 := ct hb15 h14; refine kR (zS (fB 6 u_113 z_3) (zB 0 (pq_ (one_i _)) z_3 ?_)); exact zN (xm 3 (smh h14))
  replace h14 := cf hb15 h14; exact kK (xm 1 (smh h14))
 intro s10 hx; obtain rfl : s10 = z12 := hx.symm; replace h := hz13; refine sr (zI (zS dE (zI ?_))); refine zT (z := ((a0 == 11) || (a0 == 12))) 3 27 ?_ ?_
 ·refine zP (a0 == 11) (fun hb16 => ?_) (fun hb16 => ?_)
  ·(iterate 2 refine zK hb16 ?_); exact zS (pU hb16) (zN (xm true (or_t hb16)))
  refine zG hb16 dM ?_; refine zG hb16 dE ?_; exact zS (pG hb16) (zN (xm (a0 == 12) (or_f hb16)))
 refine zA (nsr (zI (zS dE (zI ?_)))); refine zT (z := ((a0 == 15) || (a0 == 16))) 3 33 ?_ ?_
 ·refine zP (a0 == 15) (fun hb17 => ?_) (fun hb17 => ?_)
  ·(iterate 2 refine zK hb17 ?_); exact zS (pU hb17) (zN (xm true (or_t hb17)))
  refine zG hb17 dM ?_; refine zG hb17 dE ?_; exact zS (pG hb17) (zN (xm (a0 == 16) (or_f hb17)))
 refine zA (nsr (zI (zI ?_))); refine zT (z := (((a0 == 11) || (a0 == 12)) || ((a0 == 15) || (a0 == 16)))) 2 37 ?_ ?_
 ·refine zP ((a0 == 11) || (a0 == 12)) (fun hb18 => ?_) (fun hb18 => ?_)
  ·refine zK hb18 ?_; exact zS (pU hb18) (zN (xm true (or_t hb18)))
  refine zG hb18 dM ?_; exact zS (pG hb18) (zN (xm ((a0 == 15) || (a0 == 16)) (or_f hb18)))
 refine zI ?_; obtain ⟨z20, h22, hz21⟩ := bs h; refine zV (z := z20) 3 41 ?_ ?_
 ·refine zP (((a0 == 11) || (a0 == 12)) || ((a0 == 15) || (a0 == 16))) (fun hb19 => ?_) (fun hb19 => ?_)
  ·replace h22 := ct hb19 h22; (iterate 2 refine zK hb19 ?_); exact zS (pU hb19) (zN (xm true (smh h22)))
  replace h22 := cf hb19 h22; refine zG hb19 dM ?_; obtain ⟨r23, hc24, h22⟩ := bs h22; refine zG hb19 (cQ (c_ref29_IsBinary a0 r23 hc24) k_124) ?_; exact zS (pG hb19) (zN (xm r23 (smh h22)))
 replace h := hz21; refine zI ?_; refine zT (z := (z20 || (a0 == 7))) 3 45 ?_ ?_
 ·refine zP z20 (fun hb25 => ?_) (fun hb25 => ?_)
  ·(iterate 2 refine zK hb25 ?_); exact zS (pU hb25) (zN (xm true (or_t hb25)))
  refine zG hb25 dM ?_; refine zG hb25 dE ?_; exact zS (pG hb25) (zN (xm (a0 == 7) (or_f hb25)))
 refine zI ?_; refine zT (z := ((z20 || (a0 == 7)) || (a0 == 8))) 3 49 ?_ ?_
 ·refine zP (z20 || (a0 == 7)) (fun hb26 => ?_) (fun hb26 => ?_)
  ·(iterate 2 refine zK hb26 ?_); exact zS (pU hb26) (zN (xm true (or_t hb26)))
  refine zG hb26 dM ?_; refine zG hb26 dE ?_; exact zS (pG hb26) (zN (xm (a0 == 8) (or_f hb26)))
 refine zI ?_; refine zT (z := (((z20 || (a0 == 7)) || (a0 == 8)) || (a0 == 9))) 3 53 ?_ ?_
 ·refine zP ((z20 || (a0 == 7)) || (a0 == 8)) (fun hb27 => ?_) (fun hb27 => ?_)
  ·(iterate 2 refine zK hb27 ?_); exact zS (pU hb27) (zN (xm true (or_t hb27)))
  refine zG hb27 dM ?_; refine zG hb27 dE ?_; exact zS (pG hb27) (zN (xm (a0 == 9) (or_f hb27)))
 refine zI ?_; refine zT (z := ((((z20 || (a0 == 7)) || (a0 == 8)) || (a0 == 9)) || (a0 == 33))) 3 57 ?_ ?_
 ·refine zP (((z20 || (a0 == 7)) || (a0 == 8)) || (a0 == 9)) (fun hb28 => ?_) (fun hb28 => ?_)
  ·(iterate 2 refine zK hb28 ?_); exact zS (pU hb28) (zN (xm true (or_t hb28)))
  refine zG hb28 dM ?_; refine zG hb28 dE ?_; exact zS (pG hb28) (zN (xm (a0 == 33) (or_f hb28)))
 refine zI ?_; refine zT (z := (((((z20 || (a0 == 7)) || (a0 == 8)) || (a0 == 9)) || (a0 == 33)) || (a0 == 35))) 3 61 ?_ ?_
 ·refine zP ((((z20 || (a0 == 7)) || (a0 == 8)) || (a0 == 9)) || (a0 == 33)) (fun hb29 => ?_) (fun hb29 => ?_)
  ·(iterate 2 refine zK hb29 ?_); exact zS (pU hb29) (zN (xm true (or_t hb29)))
  refine zG hb29 dM ?_; refine zG hb29 dE ?_; exact zS (pG hb29) (zN (xm (a0 == 35) (or_f hb29)))
 refine zI ?_; refine zT (z := ((((((z20 || (a0 == 7)) || (a0 == 8)) || (a0 == 9)) || (a0 == 33)) || (a0 == 35)) || (a0 == 37))) 3 65 ?_ ?_
 ·refine zP (((((z20 || (a0 == 7)) || (a0 == 8)) || (a0 == 9)) || (a0 == 33)) || (a0 == 35)) (fun hb30 => ?_) (fun hb30 => ?_)
  ·(iterate 2 refine zK hb30 ?_); exact zS (pU hb30) (zN (xm true (or_t hb30)))
  refine zG hb30 dM ?_; refine zG hb30 dE ?_; exact zS (pG hb30) (zN (xm (a0 == 37) (or_f hb30)))
 refine zS (fB 2 u_113 z_4) (zB 0 (pq_ (one_b _)) z_4 ?_); refine nsr (zI (zI ?_)); refine zT (z := (((a0 == 11) || (a0 == 12)) || ((a0 == 15) || (a0 == 16)))) 2 70 ?_ ?_
 ·refine zP ((a0 == 11) || (a0 == 12)) (fun hb31 => ?_) (fun hb31 => ?_)
  ·refine zK hb31 ?_; exact zS (pU hb31) (zN (xm true (or_t hb31)))
  refine zG hb31 dM ?_; exact zS (pG hb31) (zN (xm ((a0 == 15) || (a0 == 16)) (or_f hb31)))
 refine zI ?_; obtain ⟨z33, h35, hz34⟩ := bs h; refine zV (z := z33) 3 74 ?_ ?_
 ·refine zP (((a0 == 11) || (a0 == 12)) || ((a0 == 15) || (a0 == 16))) (fun hb32 => ?_) (fun hb32 => ?_)
  ·replace h35 := ct hb32 h35; (iterate 2 refine zK hb32 ?_); exact zS (pU hb32) (zN (xm true (smh h35)))
  replace h35 := cf hb32 h35; refine zG hb32 dM ?_; obtain ⟨r36, hc37, h35⟩ := bs h35; refine zG hb32 (cQ (c_ref29_IsBinary a0 r36 hc37) k_124) ?_; exact zS (pG hb32) (zN (xm r36 (smh h35)))
 replace h := hz34; refine zI ?_; refine zT (z := (z33 || (a0 == 10))) 3 78 ?_ ?_
 ·refine zP z33 (fun hb38 => ?_) (fun hb38 => ?_)
  ·(iterate 2 refine zK hb38 ?_); exact zS (pU hb38) (zN (xm true (or_t hb38)))
  refine zG hb38 dM ?_; refine zG hb38 dE ?_; exact zS (pG hb38) (zN (xm (a0 == 10) (or_f hb38)))
 refine zI ?_; refine zT (z := ((z33 || (a0 == 10)) || (a0 == 13))) 3 82 ?_ ?_
 ·refine zP (z33 || (a0 == 10)) (fun hb39 => ?_) (fun hb39 => ?_)
  ·(iterate 2 refine zK hb39 ?_); exact zS (pU hb39) (zN (xm true (or_t hb39)))
  refine zG hb39 dM ?_; refine zG hb39 dE ?_; exact zS (pG hb39) (zN (xm (a0 == 13) (or_f hb39)))
 refine zI ?_; refine zT (z := (((z33 || (a0 == 10)) || (a0 == 13)) || (a0 == 14))) 3 86 ?_ ?_
 ·refine zP ((z33 || (a0 == 10)) || (a0 == 13)) (fun hb40 => ?_) (fun hb40 => ?_)
  ·(iterate 2 refine zK hb40 ?_); exact zS (pU hb40) (zN (xm true (or_t hb40)))
  refine zG hb40 dM ?_; refine zG hb40 dE ?_; exact zS (pG hb40) (zN (xm (a0 == 14) (or_f hb40)))
 refine zI ?_; refine zT (z := ((((z33 || (a0 == 10)) || (a0 == 13)) || (a0 == 14)) || (a0 == 33))) 3 90 ?_ ?_
 ·refine zP (((z33 || (a0 == 10)) || (a0 == 13)) || (a0 == 14)) (fun hb41 => ?_) (fun hb41 => ?_)
  ·(iterate 2 refine zK hb41 ?_); exact zS (pU hb41) (zN (xm true (or_t hb41)))
  refine zG hb41 dM ?_; refine zG hb41 dE ?_; exact zS (pG hb41) (zN (xm (a0 == 33) (or_f hb41)))
 refine zI ?_; refine zT (z := (((((z33 || (a0 == 10)) || (a0 == 13)) || (a0 == 14)) || (a0 == 33)) || (a0 == 34))) 3 94 ?_ ?_
 ·refine zP ((((z33 || (a0 == 10)) || (a0 == 13)) || (a0 == 14)) || (a0 == 33)) (fun hb42 => ?_) (fun hb42 => ?_)
  ·(iterate 2 refine zK hb42 ?_); exact zS (pU hb42) (zN (xm true (or_t hb42)))
  refine zG hb42 dM ?_; refine zG hb42 dE ?_; exact zS (pG hb42) (zN (xm (a0 == 34) (or_f hb42)))
 refine zI ?_; refine zT (z := ((((((z33 || (a0 == 10)) || (a0 == 13)) || (a0 == 14)) || (a0 == 33)) || (a0 == 34)) || (a0 == 36))) 3 98 ?_ ?_
 ·refine zP (((((z33 || (a0 == 10)) || (a0 == 13)) || (a0 == 14)) || (a0 == 33)) || (a0 == 34)) (fun hb43 => ?_) (fun hb43 => ?_)
  ·(iterate 2 refine zK hb43 ?_); exact zS (pU hb43) (zN (xm true (or_t hb43)))
  refine zG hb43 dM ?_; refine zG hb43 dE ?_; exact zS (pG hb43) (zN (xm (a0 == 36) (or_f hb43)))
 refine zS (fB 3 u_113 z_4) (zB 0 (pq_ (one_b _)) z_4 ?_); refine nsr (zI (zI ?_)); obtain ⟨z45, h47, hz46⟩ := bs h; refine zV (z := z45) 3 104 ?_ ?_
 ·refine zP ((a0 == 11) || (a0 == 12)) (fun hb44 => ?_) (fun hb44 => ?_)
  ·replace h47 := ct hb44 h47; (iterate 2 refine zK hb44 ?_); exact zS (pU hb44) (zN (xm true (smh h47)))
  replace h47 := cf hb44 h47; refine zG hb44 dM ?_; obtain ⟨r48, hc49, h47⟩ := bs h47; refine zG hb44 (cQ (c_ref29_IsBinary a0 r48 hc49) k_124) ?_; exact zS (pG hb44) (zN (xm r48 (smh h47)))
 replace h := hz46; refine zI ?_; refine zT (z := (z45 || (a0 == 10))) 3 108 ?_ ?_
 ·refine zP z45 (fun hb50 => ?_) (fun hb50 => ?_)
  ·(iterate 2 refine zK hb50 ?_); exact zS (pU hb50) (zN (xm true (or_t hb50)))
  refine zG hb50 dM ?_; refine zG hb50 dE ?_; exact zS (pG hb50) (zN (xm (a0 == 10) (or_f hb50)))
 refine zI ?_; refine zT (z := ((z45 || (a0 == 10)) || (a0 == 34))) 3 112 ?_ ?_
 ·refine zP (z45 || (a0 == 10)) (fun hb51 => ?_) (fun hb51 => ?_)
  ·(iterate 2 refine zK hb51 ?_); exact zS (pU hb51) (zN (xm true (or_t hb51)))
  refine zG hb51 dM ?_; refine zG hb51 dE ?_; exact zS (pG hb51) (zN (xm (a0 == 34) (or_f hb51)))
 refine zI ?_; refine zT (z := (((z45 || (a0 == 10)) || (a0 == 34)) || (a0 == 35))) 3 116 ?_ ?_
 ·refine zP ((z45 || (a0 == 10)) || (a0 == 34)) (fun hb52 => ?_) (fun hb52 => ?_)
  ·(iterate 2 refine zK hb52 ?_); exact zS (pU hb52) (zN (xm true (or_t hb52)))
  refine zG hb52 dM ?_; refine zG hb52 dE ?_; exact zS (pG hb52) (zN (xm (a0 == 35) (or_f hb52)))
 refine zS (fB 4 u_113 z_4) (zB 0 (pq_ (one_b _)) z_4 ?_); refine nsr (zI (zS dE (zI ?_))); refine zT (z := ((a0 == 4) || (a0 == 20))) 3 123 ?_ ?_
 ·refine zP (a0 == 4) (fun hb53 => ?_) (fun hb53 => ?_)
  ·(iterate 2 refine zK hb53 ?_); exact zS (pU hb53) (zN (xm true (or_t hb53)))
  refine zG hb53 dM ?_; refine zG hb53 dE ?_; exact zS (pG hb53) (zN (xm (a0 == 20) (or_f hb53)))
 refine zI ?_; refine zT (z := (((a0 == 4) || (a0 == 20)) || (a0 == 21))) 3 127 ?_ ?_
 ·refine zP ((a0 == 4) || (a0 == 20)) (fun hb54 => ?_) (fun hb54 => ?_)
  ·(iterate 2 refine zK hb54 ?_); exact zS (pU hb54) (zN (xm true (or_t hb54)))
  refine zG hb54 dM ?_; refine zG hb54 dE ?_; exact zS (pG hb54) (zN (xm (a0 == 21) (or_f hb54)))
 refine zI ?_; refine zT (z := ((((a0 == 4) || (a0 == 20)) || (a0 == 21)) || (a0 == 34))) 3 131 ?_ ?_
 ·refine zP (((a0 == 4) || (a0 == 20)) || (a0 == 21)) (fun hb55 => ?_) (fun hb55 => ?_)
  ·(iterate 2 refine zK hb55 ?_); exact zS (pU hb55) (zN (xm true (or_t hb55)))
  refine zG hb55 dM ?_; refine zG hb55 dE ?_; exact zS (pG hb55) (zN (xm (a0 == 34) (or_f hb55)))
 refine zI ?_; refine zT (z := (((((a0 == 4) || (a0 == 20)) || (a0 == 21)) || (a0 == 34)) || (a0 == 35))) 3 135 ?_ ?_
 ·refine zP ((((a0 == 4) || (a0 == 20)) || (a0 == 21)) || (a0 == 34)) (fun hb56 => ?_) (fun hb56 => ?_)
  ·(iterate 2 refine zK hb56 ?_); exact zS (pU hb56) (zN (xm true (or_t hb56)))
  refine zG hb56 dM ?_; refine zG hb56 dE ?_; exact zS (pG hb56) (zN (xm (a0 == 35) (or_f hb56)))
 refine zS (fB 5 u_113 z_4) (zB 0 (pq_ (one_b _)) z_4 ?_); refine nsr ?_; refine zS (lA [(tS y7), (tI r2), (tB ((((((z20 || (a0 == 7)) || (a0 == 8)) || (a0 == 9)) || (a0 == 33)) || (a0 == 35)) || (a0 == 37))), (tB ((((((z33 || (a0 == 10)) || (a0 == 13)) || (a0 == 14)) || (a0 == 33)) || (a0 == 34)) || (a0 == 36))), (tB (((z45 || (a0 == 10)) || (a0 == 34)) || (a0 == 35))), (tB (((((a0 == 4) || (a0 == 20)) || (a0 == 21)) || (a0 == 34)) || (a0 == 35))), (tI s10)] a_113 z_113 rfl 0 rfl rfl rfl) ?_; refine zB 1 (pA _) z_113 ?_; refine zA (nx (kT ?_)); obtain rfl := (smh h).symm; exact okX_retCT () Tryd.results99 rfl rfl 1 rfl a_113 z_113 rfl rfl [Item.blk g9 113 [(tS y7), (tI r2), (tB ((((((z20 || (a0 == 7)) || (a0 == 8)) || (a0 == 9)) || (a0 == 33)) || (a0 == 35)) || (a0 == 37))), (tB ((((((z33 || (a0 == 10)) || (a0 == 13)) || (a0 == 14)) || (a0 == 33)) || (a0 == 34)) || (a0 == 36))), (tB (((z45 || (a0 == 10)) || (a0 == 34)) || (a0 == 35))), (tB (((((a0 == 4) || (a0 == 20)) || (a0 == 21)) || (a0 == 34)) || (a0 == 35))), (tI s10)], Item.blk g1 113 [(tS y7), (tI r2), (tB ((((((z20 || (a0 == 7)) || (a0 == 8)) || (a0 == 9)) || (a0 == 33)) || (a0 == 35)) || (a0 == 37))), (tB ((((((z33 || (a0 == 10)) || (a0 == 13)) || (a0 == 14)) || (a0 == 33)) || (a0 == 34)) || (a0 == 36))), (tB (((z45 || (a0 == 10)) || (a0 == 34)) || (a0 == 35))), (tB (((((a0 == 4) || (a0 == 20)) || (a0 == 21)) || (a0 == 34)) || (a0 == 35))), (tI s10)]] (pm 0 rfl (pm 0 rfl (pr _)))
def ref32_info  (a0 : Int) : Option OpInfo :=
 (cnd (a0 == 38) (some (⟨⟨#[]⟩, 5, false, true, false, false, 0⟩ : OpInfo)) (Option.bind (ref29_Info a0) (fun r3 => (some r3.1))))
theorem c_ref32_info  (a0 : Int) (r : OpInfo) (h : ref32_info  a0 = some r) : CallP Tryd.prog glob 82 [(tI a0)] (Ty.agg (S113 r)) := by
 refine call_of_code Tryd.func82 rfl Tryd.ntmps82 rfl (fun L w => ?_); change OkC _ _ _ [(0, (tI a0))] (L); unfold ref32_info at h; refine sr ?_; refine zO (oA [(tS ⟨#[]⟩), tZ, (tB false), (tB false), (tB false), (tB false), tZ] v_113 (part_of (sub_agg [(.string ⟨#[]⟩), sZ, (.bool false), (.bool false), (.bool false), (.bool false), sZ] rfl) (pA _)) (fun g1 => ?_)); refine nx (kS (sr (zI (zS dE (nx ?_))))); refine zC (fun hb2 => ?_) (fun hb2 => ?_)
 ·replace h := ct hb2 h; refine sr ?_; refine zS (does_build [(tS ⟨#[]⟩), (tI 5), (tB false), (tB true), (tB false), (tB false), tZ] v_113 u_113 (places113 _ u_113) rfl (fc [(tI 5)] 1 rfl (pq_ (one_i _)) rfl rfl (fc [(tB true)] 3 rfl (pq_ (one_b _)) rfl rfl (fn_ rfl)))) ?_; refine zB 0 (pA _) z_113 ?_; refine nx (kT (xR ?_)); obtain rfl := (smh h).symm; exact okX_retC () Tryd.results82 rfl 0 rfl a_113 z_113 rfl rfl [Item.blk g1 113 [(tS ⟨#[]⟩), (tI 5), (tB false), (tB true), (tB false), (tB false), tZ]] (pm 0 rfl (pr _))
 replace h := cf hb2 h; refine kK (xN (sr (zI ?_))); obtain ⟨r3, hc4, h⟩ := bs h; refine zS (cQ (c_ref29_Info a0 r3 hc4) k_99) (zI ?_); refine zS dX ?_; refine zS dX ?_; refine zO (oA [(tS ⟨#[]⟩), tZ, (tB false), (tB false), (tB false), (tB false), tZ] v_113 (part_of (sub_agg [(.string ⟨#[]⟩), sZ, (.bool false), (.bool false), (.bool false), (.bool false), sZ] rfl) (pA _)) (fun g5 => ?_)); refine zB 0 (pA _) z_113 ?_; refine zA (nsr ?_); refine zS (lA (S113 r3.1) a_113 z_113 rfl 0 rfl rfl rfl) ?_; refine zB 1 (pA _) z_113 ?_; refine nx (kT ?_); obtain rfl := (smh h).symm; exact okX_retC () Tryd.results82 rfl 1 rfl a_113 z_113 rfl rfl [Item.blk g5 113 (S113 r3.1), Item.blk g1 113 (S113 r3.1)] (pm 0 rfl (pm 0 rfl (pr _)))
def ref32_validInstr_l1 (K : Nat) (a0 : VInstr) (a1 : VFunc) : Nat → Int → Option (Unit ⊕ Bool)
 | 0, _ => none
 | k + 1, s16 => (cnd (decide (s16 < ((a0.Args).length : Int))) (Option.bind (Option.bind (idx a0.Args s16) (fun y24 => (cnd (decide (y24 < 0)) (some true) (Option.bind (idx a0.Args s16) (fun y27 => (some (decide (y27 ≥ a1.Regs)))))))) (fun s19 => (cnd s19 (out (some false)) (ref32_validInstr_l1 K a0 a1 k (w64 (s16 + 1)))))) (inn ()))
def ref32_validInstr (K : Nat) (a0 : VInstr) (a1 : VFunc) : Option Bool :=
 (Option.bind (ref32_allowed a0.Instr.Op) (fun r4 => (cnd (((!r4) || ((a0.Instr.Op != 6) && (decide (((a0.Args).length : Int) > 0)))) || (decide (((a0.Args).length : Int) > 6))) (some false) (sq (ref32_validInstr_l1 K a0 a1 K 0) (fun s11 => (Option.bind (ref32_info a0.Instr.Op) (fun r30 => (Option.bind (ref32_validOperand (r30.Form != 1) a0.Instr.A a1.Regs) (fun r34 => (Option.bind (cnd (!r34) (some true) (Option.bind (ref32_validOperand (((r30.Form == 3) || (r30.Form == 4)) || (r30.Form == 7)) a0.Instr.B a1.Regs) (fun r40 => (some (!r40))))) (fun z37 => (Option.bind (cnd z37 (some true) (Option.bind (ref32_validOperand (r30.Form == 4) a0.Instr.C a1.Regs) (fun r46 => (some (!r46))))) (fun z43 => (cnd z43 (some false) (cnd (a0.Instr.Op == 13) (some true) (cnd (a0.Instr.Op == 33) (some ((decide (a0.Instr.N ≥ (-4194304))) && (decide (a0.Instr.N < 4194304)))) (cnd (a0.Instr.Op == 6) (some ((decide (a0.Instr.N ≥ 0)) && (decide (a0.Instr.N < 8)))) (Option.bind (cnd (a0.Instr.Op == 34) (some (a0.Instr.Op == 34)) (some (a0.Instr.Op == 35))) (fun s56 => (cnd s56 (some ((decide (a0.Instr.N ≥ 0)) && (decide (a0.Instr.N < 4)))) (cnd (a0.Instr.Op == 38) (some ((decide (a0.Instr.N ≥ 0)) && (decide (a0.Instr.N < a1.Params)))) (some (a0.Instr.N == 0)))))))))))))))))))))))
theorem c_ref32_validInstr (K : Nat) (a0 : VInstr) (a1 : VFunc) (r : Bool) (h : ref32_validInstr K a0 a1 = some r) : CallP Tryd.prog glob 106 [(Ty.agg (S48 a0)), (Ty.agg (S27 a1))] (tB r) := by
 refine call_of_code Tryd.func106 rfl Tryd.ntmps106 rfl (fun L w => ?_); change OkC _ _ _ [(0, (Ty.agg (S48 a0))), (1, (Ty.agg (S27 a1)))] (L); unfold ref32_validInstr at h; refine sr ?_; refine zO (oB (S48 a0) rfl (pA _) (fun g1 => ?_)); refine zO (oB (S27 a1) rfl (pA _) (fun g2 => ?_)); refine zA (nsr (zS (fB 0 u_48 z_46) ?_)); refine zS (lA (S46 a0.Instr) a_46 z_46 rfl 1 rfl rfl rfl) ?_; refine zO (oA [tZ, tZ, tZ, tZ, tZ] v_46 (part_of (sub_agg [sZ, sZ, sZ, sZ, sZ] rfl) (pA _)) (fun g3 => ?_)); refine zB 0 (pA _) z_46 ?_; refine nx (kS (sr (zS (fB 0 u_46 z_3) (zS (lC a_3 0) ?_)))); obtain ⟨r4, hc5, h⟩ := bs h; refine zS (cQ (c_ref32_allowed a0.Instr.Op r4 hc5) k_81) (zS dO (zI ?_)); refine zT (z := ((!r4) || ((a0.Instr.Op != 6) && (decide (((a0.Args).length : Int) > 0))))) 10 26 ?_ ?_
 ·refine zP (!r4) (fun hb6 => ?_) (fun hb6 => ?_)
  ·(iterate 4 refine zK hb6 ?_); (iterate 4 refine zU ?_); refine zK hb6 ?_; exact zS (pU hb6) (zN (xm true (or_t hb6)))
  refine zG hb6 (fB 0 u_46 z_3) ?_; refine zG hb6 (lC a_3 0) ?_; refine zG hb6 dN ?_; refine zG hb6 dM ?_; refine zT (z := ((a0.Instr.Op != 6) && (decide (((a0.Args).length : Int) > 0)))) 5 25 ?_ ?_
  ·refine zP (a0.Instr.Op != 6) (fun hb7 => ?_) (fun hb7 => ?_)
   ·refine zG hb7 (fB 5 u_48 z_31) ?_; refine zG hb7 (lC a_31 2) ?_; refine zG hb7 (lM u_31) ?_; refine zG hb7 dT ?_; refine zG hb6 (pU hb7) ?_; exact zN (xm (decide (((a0.Args).length : Int) > 0)) (and_t hb7))
   (iterate 4 refine zK hb7 ?_); refine zG hb6 (pG hb7) ?_; exact zN (xm false (and_f hb7))
  exact zS (pG hb6) (zN (xm ((a0.Instr.Op != 6) && (decide (((a0.Args).length : Int) > 0))) (or_f hb6)))
 refine zI ?_; refine zT (z := (((!r4) || ((a0.Instr.Op != 6) && (decide (((a0.Args).length : Int) > 0)))) || (decide (((a0.Args).length : Int) > 6)))) 5 32 ?_ ?_
 ·refine zP ((!r4) || ((a0.Instr.Op != 6) && (decide (((a0.Args).length : Int) > 0)))) (fun hb9 => ?_) (fun hb9 => ?_)
  ·(iterate 4 refine zK hb9 ?_); exact zS (pU hb9) (zN (xm true (or_t hb9)))
  refine zG hb9 (fB 5 u_48 z_31) ?_; refine zG hb9 (lC a_31 2) ?_; refine zG hb9 (lM u_31) ?_; refine zG hb9 dT ?_; exact zS (pG hb9) (zN (xm (decide (((a0.Args).length : Int) > 6)) (or_f hb9)))
 refine nx ?_; refine zC (fun hb10 => ?_) (fun hb10 => ?_)
 ·replace h := ct hb10 h; refine sr (zA (nx (kT (xR ?_)))); obtain rfl := (smh h).symm; refine xD 0 ?_; refine xD 0 ?_; exact xD 0 (xq_ () Tryd.results106 rfl rfl)
 replace h := cf hb10 h; refine kK (xN (kS (sr (zA (nx ?_))))); obtain ⟨z13, h15, hz14⟩ := sqs h; refine okC_meetE (X := Unit) (fun x => z13 = .inl x) (fun x => [(3, (pAt g2 0)), (5, (pAt g3 0))]) (fun x => Item.blk g3 46 (S46 a0.Instr) :: Item.blk g2 27 (S27 a1) :: Item.blk g1 48 (S48 a0) :: L) ?_ ?_
 ·refine kB ?_; refine okC_loop (X := Int) (fun k x => ref32_validInstr_l1 K a0 a1 k x = some z13) (fun x => [(2, (pAt g1 0)), (3, (pAt g2 0)), (5, (pAt g3 0)), (6, (tI x))]) (fun x => Item.blk g3 46 (S46 a0.Instr) :: Item.blk g2 27 (S27 a1) :: Item.blk g1 48 (S48 a0) :: L) K 0 h15 cva rfl (fun k s16 hI => ?_)
  cases k with
  | zero => exact (nz hI).elim
  | succ k =>
  have h := (ref32_validInstr_l1.eq_2 ..).symm.trans hI; refine kS (sr (zI (zS (fB 5 u_48 z_31) (zS (lC a_31 2) (zS (lM u_31) (zS dL (nx ?_))))))); refine zC (fun hb18 => ?_) (fun hb18 => ?_)
  ·replace h := ct hb18 h; refine kK (xN (kS (kB ?_))); obtain ⟨z21, h23, hz22⟩ := bs h; refine okC_meet (X := Bool) (fun x => z21 = x) (fun x => [(2, (pAt g1 0)), (3, (pAt g2 0)), (5, (pAt g3 0)), (6, (tI s16)), (55, (tB x))]) (fun x => Item.blk g3 46 (S46 a0.Instr) :: Item.blk g2 27 (S27 a1) :: Item.blk g1 48 (S48 a0) :: L) ?_ ?_
   ·refine okC_cov [(2, (pAt g1 0)), (3, (pAt g2 0)), (5, (pAt g3 0)), (6, (tI s16))] cva ?_; obtain ⟨y24, hi25, h23⟩ := bs h23; refine okC_split (decide (y24 < 0)) (fun hb26 => ?_) (fun hb26 => ?_)
    ·replace h23 := ct hb26 h23; refine drL 14 _ [] (dp (fB 5 u_48 z_31) (dp (lC a_31 2) (dm rfl (dp (iX u_31 z_3 hi25) (dp (lV a_3) (dp dL (dm rfl (dn1 (draw_off 46 (decide (y24 < 0)) rfl rfl rfl hb26) (dn1 (draw_off 46 (decide (y24 < 0)) rfl rfl rfl hb26) (dn1 (draw_off 46 (decide (y24 < 0)) rfl rfl rfl hb26) (dn1 (draw_off 46 (decide (y24 < 0)) rfl rfl rfl hb26) (dn1 (draw_off 46 (decide (y24 < 0)) rfl rfl rfl hb26) (dn1 (draw_off 46 (decide (y24 < 0)) rfl rfl rfl hb26) (dn1 (draw_off 46 (decide (y24 < 0)) rfl rfl rfl hb26) (dn))))))))))))))) ?_; refine ch_end ?_; refine zK hb26 ?_; exact zS (pU hb26) (zN (xm true (smh h23)))
    replace h23 := cf hb26 h23; obtain ⟨y27, hi28, h23⟩ := bs h23; refine drL 14 _ [] (dp (fB 5 u_48 z_31) (dp (lC a_31 2) (dm rfl (dp (iX u_31 z_3 hi25) (dp (lV a_3) (dp dL (dm rfl (dn1 (draw_on 46 (decide (y24 < 0)) rfl rfl rfl hb26 (fB 5 u_48 z_31)) (dn1 (draw_on 46 (decide (y24 < 0)) rfl rfl rfl hb26 (lC a_31 2)) (dn1 (draw_on 46 (decide (y24 < 0)) rfl rfl rfl hb26 dM) (dn1 (draw_on 46 (decide (y24 < 0)) rfl rfl rfl hb26 (iX u_31 z_3 hi28)) (dn1 (draw_on 46 (decide (y24 < 0)) rfl rfl rfl hb26 (lV a_3)) (dn1 (draw_on 46 (decide (y24 < 0)) rfl rfl rfl hb26 (fB 1 u_27 z_3)) (dn1 (draw_on 46 (decide (y24 < 0)) rfl rfl rfl hb26 (lC a_3 1)) (dn))))))))))))))) ?_; refine ch_end ?_; refine zG hb26 dG ?_; exact zS (pG hb26) (zN (xm (decide (y27 ≥ a1.Regs)) (smh h23)))
   intro s19 hx; obtain rfl : s19 = z21 := hx.symm; replace h := hz22; refine zC (fun hb29 => ?_) (fun hb29 => ?_)
   ·replace h := ct hb29 h; refine sr (zA (nx (kT ?_))); refine okX_block_ret ?_; refine xR ?_; refine okX_again_ret ?_; refine okX_block_ret ?_; refine okX_meet_ret ?_; replace h := outh h hz14; refine xR ?_; obtain rfl := (smh h).symm; refine xD 0 ?_; refine xD 0 ?_; exact xD 0 (xq_ () Tryd.results106 rfl rfl)
   replace h := cf hb29 h; exact kK (xB (xN (kR (zI (zS dA (zA (zN (xa (w64 (s16 + 1)) h))))))))
  replace h := cf hb18 h; exact kE (xT (xE (xH (xm () (innh h)))))
 intro s11 hx; have hx : z13 = .inl s11 := hx; subst hx; replace h := hz14; refine xN (sr (zS (fB 0 u_46 z_3) (zS (lC a_3 0) ?_))); obtain ⟨r30, hc31, h⟩ := bs h; refine zS (cQ (c_ref32_info a0.Instr.Op r30 hc31) k_82) ?_; refine zS (does_field1 u_113 rfl a_3 rfl rfl) ?_; refine zA (nsr (zI (zS dN (zA (nsr (zI (zS dE ?_))))))); refine zI ?_; refine zT (z := ((r30.Form == 3) || (r30.Form == 4))) 3 67 ?_ ?_
 ·refine zP (r30.Form == 3) (fun hb32 => ?_) (fun hb32 => ?_)
  ·(iterate 2 refine zK hb32 ?_); exact zS (pU hb32) (zN (xm true (or_t hb32)))
  refine zG hb32 dM ?_; refine zG hb32 dE ?_; exact zS (pG hb32) (zN (xm (r30.Form == 4) (or_f hb32)))
 refine zI ?_; refine zT (z := (((r30.Form == 3) || (r30.Form == 4)) || (r30.Form == 7))) 3 71 ?_ ?_
 ·refine zP ((r30.Form == 3) || (r30.Form == 4)) (fun hb33 => ?_) (fun hb33 => ?_)
  ·(iterate 2 refine zK hb33 ?_); exact zS (pU hb33) (zN (xm true (or_t hb33)))
  refine zG hb33 dM ?_; refine zG hb33 dE ?_; exact zS (pG hb33) (zN (xm (r30.Form == 7) (or_f hb33)))
 refine zA (nx (kS (sr (zI (zS (fB 1 u_46 z_3) (zS (lC a_3 0) (zS (fB 1 u_27 z_3) ?_))))))); refine zS (lC a_3 1) ?_; obtain ⟨r34, hc35, h⟩ := bs h; refine zS (cQ (c_ref32_validOperand (r30.Form != 1) a0.Instr.A a1.Regs r34 hc35) k_128) (zS dO (zI ?_)); obtain ⟨z37, h39, hz38⟩ := bs h; refine zV (z := z37) 8 87 ?_ ?_
 ·refine zP (!r34) (fun hb36 => ?_) (fun hb36 => ?_)
  ·replace h39 := ct hb36 h39; (iterate 7 refine zK hb36 ?_); exact zS (pU hb36) (zN (xm true (smh h39)))
  replace h39 := cf hb36 h39; refine zG hb36 dM ?_; refine zG hb36 (fB 2 u_46 z_3) ?_; refine zG hb36 (lC a_3 0) ?_; refine zG hb36 (fB 1 u_27 z_3) ?_; refine zG hb36 (lC a_3 1) ?_; obtain ⟨r40, hc41, h39⟩ := bs h39; refine zG hb36 (cQ (c_ref32_validOperand (((r30.Form == 3) || (r30.Form == 4)) || (r30.Form == 7)) a0.Instr.B a1.Regs r40 hc41) k_128) ?_; refine zG hb36 dO ?_; exact zS (pG hb36) (zN (xm (!r40) (smh h39)))
 replace h := hz38; refine zI ?_; obtain ⟨z43, h45, hz44⟩ := bs h; refine zV (z := z43) 9 97 ?_ ?_
 ·refine zP z37 (fun hb42 => ?_) (fun hb42 => ?_)
  ·replace h45 := ct hb42 h45; (iterate 8 refine zK hb42 ?_); exact zS (pU hb42) (zN (xm true (smh h45)))
  replace h45 := cf hb42 h45; refine zG hb42 dM ?_; refine zG hb42 dE ?_; refine zG hb42 (fB 3 u_46 z_3) ?_; refine zG hb42 (lC a_3 0) ?_; refine zG hb42 (fB 1 u_27 z_3) ?_; refine zG hb42 (lC a_3 1) ?_; obtain ⟨r46, hc47, h45⟩ := bs h45; refine zG hb42 (cQ (c_ref32_validOperand (r30.Form == 4) a0.Instr.C a1.Regs r46 hc47) k_128) ?_; refine zG hb42 dO ?_; exact zS (pG hb42) (zN (xm (!r46) (smh h45)))
 replace h := hz44; refine nx ?_; refine zC (fun hb48 => ?_) (fun hb48 => ?_)
 ·replace h := ct hb48 h; refine sr (zA (nx (kT (xR ?_)))); obtain rfl := (smh h).symm; refine xD 0 ?_; refine xD 0 ?_; exact xD 0 (xq_ () Tryd.results106 rfl rfl)
 replace h := cf hb48 h; refine kK (xN (kS (sr (zS (fB 0 u_46 z_3) (zS (lC a_3 0) (nx (kB ?_))))))); refine sr (zS dE (zA (nx ?_))); refine zC (fun hb49 => ?_) (fun hb49 => ?_)
 ·replace h := ct hb49 h; refine sr (zA (nx (kT ?_))); refine okX_block_ret ?_; refine xR ?_; obtain rfl := (smh h).symm; refine xD 0 ?_; refine xD 0 ?_; exact xD 0 (xq_ () Tryd.results106 rfl rfl)
 replace h := cf hb49 h; refine sr (zS dE (zA (nx ?_))); refine zC (fun hb50 => ?_) (fun hb50 => ?_)
 ·replace h := ct hb50 h; refine sr (zS (fB 4 u_46 z_2) (zS (lC a_2 0) (zS dG (zI ?_)))); refine zT (z := ((decide (a0.Instr.N ≥ (-4194304))) && (decide (a0.Instr.N < 4194304)))) 4 111 ?_ ?_
  ·refine zP (decide (a0.Instr.N ≥ (-4194304))) (fun hb51 => ?_) (fun hb51 => ?_)
   ·refine zG hb51 (fB 4 u_46 z_2) ?_; refine zG hb51 (lC a_2 0) ?_; refine zG hb51 dL ?_; exact zS (pU hb51) (zN (xm (decide (a0.Instr.N < 4194304)) (and_t hb51)))
   (iterate 3 refine zK hb51 ?_); exact zS (pG hb51) (zN (xm false (and_f hb51)))
  refine zA (nx (kT ?_)); refine okX_block_ret ?_; refine xR ?_; obtain rfl := (smh h).symm; refine xD 0 ?_; refine xD 0 ?_; exact xD 0 (xq_ () Tryd.results106 rfl rfl)
 replace h := cf hb50 h; refine sr (zS dE (zA (nx ?_))); refine zC (fun hb53 => ?_) (fun hb53 => ?_)
 ·replace h := ct hb53 h; refine sr (zS (fB 4 u_46 z_2) (zS (lC a_2 0) (zS dG (zI ?_)))); refine zT (z := ((decide (a0.Instr.N ≥ 0)) && (decide (a0.Instr.N < 8)))) 4 121 ?_ ?_
  ·refine zP (decide (a0.Instr.N ≥ 0)) (fun hb54 => ?_) (fun hb54 => ?_)
   ·refine zG hb54 (fB 4 u_46 z_2) ?_; refine zG hb54 (lC a_2 0) ?_; refine zG hb54 dL ?_; exact zS (pU hb54) (zN (xm (decide (a0.Instr.N < 8)) (and_t hb54)))
   (iterate 3 refine zK hb54 ?_); exact zS (pG hb54) (zN (xm false (and_f hb54)))
  refine zA (nx (kT ?_)); refine okX_block_ret ?_; refine xR ?_; obtain rfl := (smh h).symm; refine xD 0 ?_; refine xD 0 ?_; exact xD 0 (xq_ () Tryd.results106 rfl rfl)
 replace h := cf hb53 h; obtain ⟨z58, h60, hz59⟩ := bs h; refine okC_meet (X := Bool) (fun x => z58 = x) (fun x => [(3, (pAt g2 0)), (5, (pAt g3 0)), (99, (tI a0.Instr.Op)), (122, (tB x))]) (fun x => Item.blk g3 46 (S46 a0.Instr) :: Item.blk g2 27 (S27 a1) :: Item.blk g1 48 (S48 a0) :: L) ?_ ?_
 ·refine sr (zS dE (zA (nx ?_))); refine zC (fun hb61 => ?_) (fun hb61 => ?_)
  ·replace h60 := ct hb61 h60; exact kK (xm (a0.Instr.Op == 34) (smh h60))
  replace h60 := cf hb61 h60; exact kR (zS dE (zA (zN (xm (a0.Instr.Op == 35) (smh h60)))))
 intro s56 hx; obtain rfl : s56 = z58 := hx.symm; replace h := hz59; refine zC (fun hb62 => ?_) (fun hb62 => ?_)
 ·replace h := ct hb62 h; refine sr (zS (fB 4 u_46 z_2) (zS (lC a_2 0) (zS dG (zI ?_)))); refine zT (z := ((decide (a0.Instr.N ≥ 0)) && (decide (a0.Instr.N < 4)))) 4 132 ?_ ?_
  ·refine zP (decide (a0.Instr.N ≥ 0)) (fun hb63 => ?_) (fun hb63 => ?_)
   ·refine zG hb63 (fB 4 u_46 z_2) ?_; refine zG hb63 (lC a_2 0) ?_; refine zG hb63 dL ?_; exact zS (pU hb63) (zN (xm (decide (a0.Instr.N < 4)) (and_t hb63)))
   (iterate 3 refine zK hb63 ?_); exact zS (pG hb63) (zN (xm false (and_f hb63)))
  refine zA (nx (kT ?_)); refine okX_block_ret ?_; refine xR ?_; obtain rfl := (smh h).symm; refine xD 0 ?_; refine xD 0 ?_; exact xD 0 (xq_ () Tryd.results106 rfl rfl)
 replace h := cf hb62 h; refine sr (zS dE (zA (nx ?_))); refine zC (fun hb65 => ?_) (fun hb65 => ?_)
 ·replace h := ct hb65 h; refine sr (zS (fB 4 u_46 z_2) (zS (lC a_2 0) (zS dG (zI ?_)))); refine zT (z := ((decide (a0.Instr.N ≥ 0)) && (decide (a0.Instr.N < a1.Params)))) 6 144 ?_ ?_
  ·refine zP (decide (a0.Instr.N ≥ 0)) (fun hb66 => ?_) (fun hb66 => ?_)
   ·refine zG hb66 (fB 4 u_46 z_2) ?_; refine zG hb66 (lC a_2 0) ?_; refine zG hb66 (fB 0 u_27 z_3) ?_; refine zG hb66 (lC a_3 1) ?_; refine zG hb66 dL ?_; exact zS (pU hb66) (zN (xm (decide (a0.Instr.N < a1.Params)) (and_t hb66)))
   (iterate 5 refine zK hb66 ?_); exact zS (pG hb66) (zN (xm false (and_f hb66)))
  refine zA (nx (kT ?_)); refine okX_block_ret ?_; refine xR ?_; obtain rfl := (smh h).symm; refine xD 0 ?_; refine xD 0 ?_; exact xD 0 (xq_ () Tryd.results106 rfl rfl)
 replace h := cf hb65 h; refine kK (xB (xN (sr (zS (fB 4 u_46 z_2) (zS (lC a_2 0) (zS dE (zA ?_))))))); refine nx (kT ?_); obtain rfl := (smh h).symm; refine xD 0 ?_; refine xD 0 ?_; exact xD 0 (xq_ () Tryd.results106 rfl rfl)
def ref32_Valid_l2 (K : Nat) (a0 : VFunc) (y16 : Block) : Nat → Int → Option (Unit ⊕ (Unit ⊕ Bool))
 | 0, _ => none
 | k + 1, s27 => (cnd (decide (s27 < ((y16.Instrs).length : Int))) (Option.bind (idx y16.Instrs s27) (fun y30 => (Option.bind (ref32_validInstr K y30 a0) (fun r32 => (cnd (!r32) (out (out (some false))) (ref32_Valid_l2 K a0 y16 k (w64 (s27 + 1)))))))) (inn ()))
def ref32_Valid_l1 (K : Nat) (a0 : VFunc) : Nat → Int → Option (Unit ⊕ Bool)
 | 0, _ => none
 | k + 1, s13 => (cnd (decide (s13 < ((a0.Blocks).length : Int))) (Option.bind (idx a0.Blocks s13) (fun y16 => (Option.bind (ref32_validEnd y16 a0) (fun r19 => (cnd (!r19) (out (some false)) (sq (ref32_Valid_l2 K a0 y16 K 0) (fun s22 => (ref32_Valid_l1 K a0 k (w64 (s13 + 1)))))))))) (inn ()))
def ref32_Valid (K : Nat) (a0 : VFunc) : Option Bool :=
 (cnd ((((((decide (a0.Params < 0)) || (decide (a0.Params > 6))) || (decide (a0.Regs < 0))) || (decide (a0.Regs > 3000))) || (decide (((a0.Blocks).length : Int) < 1))) || (decide (((a0.Blocks).length : Int) > 1000))) (some false) (sq (ref32_Valid_l1 K a0 K 0) (fun s8 => (some true))))
theorem c_ref32_Valid (K : Nat) (a0 : VFunc) (r : Bool) (h : ref32_Valid K a0 = some r) : CallP Tryd.prog glob 76 [(Ty.agg (S27 a0))] (tB r) := by
 refine call_of_code Tryd.func76 rfl Tryd.ntmps76 rfl (fun L w => ?_); change OkC _ _ _ [(0, (Ty.agg (S27 a0)))] (L); unfold ref32_Valid at h; refine sr ?_; refine zO (oB (S27 a0) rfl (pA _) (fun g1 => ?_)); refine zA (nx (kS (sr (zS (fB 0 u_27 z_3) (zS (lC a_3 0) (zS dL (zI ?_))))))); refine zT (z := ((decide (a0.Params < 0)) || (decide (a0.Params > 6)))) 4 13 ?_ ?_
 ·refine zP (decide (a0.Params < 0)) (fun hb2 => ?_) (fun hb2 => ?_)
  ·(iterate 3 refine zK hb2 ?_); exact zS (pU hb2) (zN (xm true (or_t hb2)))
  refine zG hb2 (fB 0 u_27 z_3) ?_; refine zG hb2 (lC a_3 0) ?_; refine zG hb2 dT ?_; exact zS (pG hb2) (zN (xm (decide (a0.Params > 6)) (or_f hb2)))
 refine zI ?_; refine zT (z := (((decide (a0.Params < 0)) || (decide (a0.Params > 6))) || (decide (a0.Regs < 0)))) 4 18 ?_ ?_
 ·refine zP ((decide (a0.Params < 0)) || (decide (a0.Params > 6))) (fun hb3 => ?_) (fun hb3 => ?_)
  ·(iterate 3 refine zK hb3 ?_); exact zS (pU hb3) (zN (xm true (or_t hb3)))
  refine zG hb3 (fB 1 u_27 z_3) ?_; refine zG hb3 (lC a_3 0) ?_; refine zG hb3 dL ?_; exact zS (pG hb3) (zN (xm (decide (a0.Regs < 0)) (or_f hb3)))
 refine zI ?_; refine zT (z := ((((decide (a0.Params < 0)) || (decide (a0.Params > 6))) || (decide (a0.Regs < 0))) || (decide (a0.Regs > 3000)))) 4 23 ?_ ?_
 ·refine zP (((decide (a0.Params < 0)) || (decide (a0.Params > 6))) || (decide (a0.Regs < 0))) (fun hb4 => ?_) (fun hb4 => ?_)
  ·(iterate 3 refine zK hb4 ?_); exact zS (pU hb4) (zN (xm true (or_t hb4)))
  refine zG hb4 (fB 1 u_27 z_3) ?_; refine zG hb4 (lC a_3 0) ?_; refine zG hb4 dT ?_; exact zS (pG hb4) (zN (xm (decide (a0.Regs > 3000)) (or_f hb4)))
 refine zI ?_; refine zT (z := (((((decide (a0.Params < 0)) || (decide (a0.Params > 6))) || (decide (a0.Regs < 0))) || (decide (a0.Regs > 3000))) || (decide (((a0.Blocks).length : Int) < 1)))) 5 29 ?_ ?_
 ·refine zP ((((decide (a0.Params < 0)) || (decide (a0.Params > 6))) || (decide (a0.Regs < 0))) || (decide (a0.Regs > 3000))) (fun hb5 => ?_) (fun hb5 => ?_)
  ·(iterate 4 refine zK hb5 ?_); exact zS (pU hb5) (zN (xm true (or_t hb5)))
  refine zG hb5 (fB 2 u_27 z_25) ?_; refine zG hb5 (lC a_25 0) ?_; refine zG hb5 (lM u_25) ?_; refine zG hb5 dL ?_; exact zS (pG hb5) (zN (xm (decide (((a0.Blocks).length : Int) < 1)) (or_f hb5)))
 refine zI ?_; refine zT (z := ((((((decide (a0.Params < 0)) || (decide (a0.Params > 6))) || (decide (a0.Regs < 0))) || (decide (a0.Regs > 3000))) || (decide (((a0.Blocks).length : Int) < 1))) || (decide (((a0.Blocks).length : Int) > 1000)))) 5 35 ?_ ?_
 ·refine zP (((((decide (a0.Params < 0)) || (decide (a0.Params > 6))) || (decide (a0.Regs < 0))) || (decide (a0.Regs > 3000))) || (decide (((a0.Blocks).length : Int) < 1))) (fun hb6 => ?_) (fun hb6 => ?_)
  ·(iterate 4 refine zK hb6 ?_); exact zS (pU hb6) (zN (xm true (or_t hb6)))
  refine zG hb6 (fB 2 u_27 z_25) ?_; refine zG hb6 (lC a_25 0) ?_; refine zG hb6 (lM u_25) ?_; refine zG hb6 dT ?_; exact zS (pG hb6) (zN (xm (decide (((a0.Blocks).length : Int) > 1000)) (or_f hb6)))
 refine nx ?_; refine zC (fun hb7 => ?_) (fun hb7 => ?_)
 ·replace h := ct hb7 h; refine sr (zA (nx (kT (xR ?_)))); obtain rfl := (smh h).symm; exact xD 0 (xq_ () Tryd.results76 rfl rfl)
 replace h := cf hb7 h; refine kK (xN (kS (sr (zA (nx ?_))))); obtain ⟨z10, h12, hz11⟩ := sqs h; refine okC_meetE (X := Unit) (fun x => z10 = .inl x) (fun x => []) (fun x => Item.blk g1 27 (S27 a0) :: L) ?_ ?_
 ·refine kB ?_; refine okC_loop (X := Int) (fun k x => ref32_Valid_l1 K a0 k x = some z10) (fun x => [(1, (pAt g1 0)), (3, (tI x))]) (fun x => Item.blk g1 27 (S27 a0) :: L) K 0 h12 cva rfl (fun k s13 hI => ?_)
  cases k with
  | zero => exact (nz hI).elim
  | succ k =>
  have h := (ref32_Valid_l1.eq_2 ..).symm.trans hI; refine kS (sr (zI (zS (fB 2 u_27 z_25) (zS (lC a_25 0) (zS (lM u_25) (zS dL (nx ?_))))))); refine zC (fun hb15 => ?_) (fun hb15 => ?_)
  ·replace h := ct hb15 h; refine kK (xN (kS (kB (sr (zS (fB 2 u_27 z_25) (zS (lC a_25 0) (zI ?_))))))); obtain ⟨y16, hi17, h⟩ := bs h; refine zS (iX u_25 z_43 hi17) ?_; refine zS (does_loadA (S43 y16) a_43 z_43 rfl rfl rfl) ?_; refine zO (oA [tN, tZ, tZ, tZ, tZ] v_43 (part_of (sub_agg [sN, sZ, sZ, sZ, sZ] rfl) (pA _)) (fun g18 => ?_)); refine zB 0 (pA _) z_43 ?_; refine nx (kS (sr ?_)); refine zS (lA (S43 y16) a_43 z_43 rfl 0 rfl rfl rfl) ?_; refine zS (lA (S27 a0) a_27 z_27 rfl 1 rfl rfl rfl) ?_; obtain ⟨r19, hc20, h⟩ := bs h; refine zS (cQ (c_ref32_validEnd y16 a0 r19 hc20) k_105) (zS dO (nx ?_)); refine zC (fun hb21 => ?_) (fun hb21 => ?_)
   ·replace h := ct hb21 h; refine sr (zA (nx (kT (xR ?_)))); refine okX_block_ret ?_; refine xR ?_; refine okX_again_ret ?_; refine okX_block_ret ?_; refine okX_meet_ret ?_; replace h := outh h hz11; refine xR ?_; obtain rfl := (smh h).symm; refine xD 0 ?_; exact xD 0 (xq_ () Tryd.results76 rfl rfl)
   replace h := cf hb21 h; refine kK (xN (sr (zA (nx ?_)))); obtain ⟨z24, h26, hz25⟩ := sqs h; refine okC_meetE (X := Unit) (fun x => z24 = .inl x) (fun x => [(1, (pAt g1 0)), (3, (tI s13))]) (fun x => Item.blk g18 43 (S43 y16) :: Item.blk g1 27 (S27 a0) :: L) ?_ ?_
   ·refine kB ?_; refine okC_loop (X := Int) (fun k x => ref32_Valid_l2 K a0 y16 k x = some z24) (fun x => [(1, (pAt g1 0)), (3, (tI s13)), (4, (pAt g18 0)), (5, (tI x))]) (fun x => Item.blk g18 43 (S43 y16) :: Item.blk g1 27 (S27 a0) :: L) K 0 h26 cva rfl (fun k s27 hI => ?_)
    cases k with
    | zero => exact (nz hI).elim
    | succ k =>
    have h := (ref32_Valid_l2.eq_2 ..).symm.trans hI; refine kS (sr (zI (zS (fB 0 u_43 z_41) (zS (lC a_41 0) (zS (lM u_41) (zS dL (nx ?_))))))); refine zC (fun hb29 => ?_) (fun hb29 => ?_)
    ·replace h := ct hb29 h; refine kK (xN (kS (kB (kS ?_)))); refine okC_cov [(1, (pAt g1 0)), (3, (tI s13)), (4, (pAt g18 0)), (5, (tI s27))] cva ?_; obtain ⟨y30, hi31, h⟩ := bs h; refine drL 6 _ [] (dp (fB 0 u_43 z_41) (dp (lC a_41 0) (dm rfl (dp (iX u_41 z_48 hi31) (dp (does_loadA (S48 y30) a_48 z_48 rfl rfl rfl) (dp (lA (S27 a0) a_27 z_27 rfl 1 rfl rfl rfl) (dn))))))) ?_; refine ch_end ?_; obtain ⟨r32, hc33, h⟩ := bs h; refine zS (cQ (c_ref32_validInstr K y30 a0 r32 hc33) k_106) (zS dO (nx ?_)); refine zC (fun hb34 => ?_) (fun hb34 => ?_)
     ·replace h := ct hb34 h; refine sr (zA (nx (kT ?_))); refine okX_block_ret ?_; refine xR ?_; refine okX_again_ret ?_; refine okX_block_ret ?_; refine okX_meet_ret ?_; replace h := outh h hz25; refine okX_block_ret ?_; refine xR ?_; refine okX_again_ret ?_; refine okX_block_ret ?_; refine okX_meet_ret ?_; replace h := outh h hz11; refine xR ?_; obtain rfl := (smh h).symm; refine xD 0 ?_; exact xD 0 (xq_ () Tryd.results76 rfl rfl)
     replace h := cf hb34 h; exact kK (xB (xN (kR (zI (zS dA (zA (zN (xa (w64 (s27 + 1)) h))))))))
    replace h := cf hb29 h; exact kE (xT (xE (xH (xm () (innh h)))))
   intro s22 hx; have hx : z24 = .inl s22 := hx; subst hx; replace h := hz25; exact xB (xN (kR (zI (zS dA (zA (zN (xD 0 (xa (w64 (s13 + 1)) h))))))))
  replace h := cf hb15 h; exact kE (xT (xE (xH (xm () (innh h)))))
 intro s8 hx; have hx : z10 = .inl s8 := hx; subst hx; replace h := hz11; refine xN (sr (zA (nx (kT ?_)))); obtain rfl := (smh h).symm; exact xD 0 (xq_ () Tryd.results76 rfl rfl)
def ref32_ValidProgram_l1 (K : Nat) (a1 : (List Int)) : Nat → Int → Option (Unit ⊕ Bool)
 | 0, _ => none
 | k + 1, s9 => (cnd (decide (s9 < ((a1).length : Int))) (Option.bind (idx a1 s9) (fun y12 => (Option.bind (cnd (decide (y12 < 1)) (some true) (Option.bind (idx a1 s9) (fun y18 => (some (decide (y18 > 16)))))) (fun z15 => (cnd z15 (out (some false)) (ref32_ValidProgram_l1 K a1 k (w64 (s9 + 1)))))))) (inn ()))
def ref32_ValidProgram_l4 (K : Nat) (a0 : (List VFunc)) (a1 : (List Int)) (s26 : Int) (s39 : Int) : Nat → Int → Option (Unit ⊕ (Unit ⊕ (Unit ⊕ Bool)))
 | 0, _ => none
 | k + 1, s49 => (Option.bind (idx a0 s26) (fun y51 => (Option.bind (idx y51.Blocks s39) (fun y53 => (cnd (decide (s49 < ((y53.Instrs).length : Int))) (Option.bind (idx a0 s26) (fun y56 => (Option.bind (idx y56.Blocks s39) (fun y58 => (Option.bind (idx y58.Instrs s49) (fun y60 => (Option.bind (cnd (y60.Instr.Op == 6) (cnd (decide (y60.Instr.N ≥ ((a0).length : Int))) (some true) (Option.bind (idx a0 y60.Instr.N) (fun y70 => (some (y70.Params != ((y60.Args).length : Int)))))) (some false)) (fun s63 => (cnd s63 (out (out (out (some false)))) (cnd (((y60.Instr.Op == 34) || (y60.Instr.Op == 35)) && (decide (y60.Instr.N ≥ ((a1).length : Int)))) (out (out (out (some false)))) (ref32_ValidProgram_l4 K a0 a1 s26 s39 k (w64 (s49 + 1))))))))))))) (inn ()))))))
def ref32_ValidProgram_l3 (K : Nat) (a0 : (List VFunc)) (a1 : (List Int)) (s26 : Int) : Nat → Int → Option (Unit ⊕ (Unit ⊕ Bool))
 | 0, _ => none
 | k + 1, s39 => (Option.bind (idx a0 s26) (fun y41 => (cnd (decide (s39 < ((y41.Blocks).length : Int))) (sq (ref32_ValidProgram_l4 K a0 a1 s26 s39 K 0) (fun s44 => (ref32_ValidProgram_l3 K a0 a1 s26 k (w64 (s39 + 1))))) (inn ()))))
def ref32_ValidProgram_l2 (K : Nat) (a0 : (List VFunc)) (a1 : (List Int)) : Nat → Int → Option (Unit ⊕ Bool)
 | 0, _ => none
 | k + 1, s26 => (cnd (decide (s26 < ((a0).length : Int))) (Option.bind (idx a0 s26) (fun y29 => (Option.bind (ref32_Valid K y29) (fun r31 => (cnd (!r31) (out (some false)) (sq (ref32_ValidProgram_l3 K a0 a1 s26 K 0) (fun s34 => (ref32_ValidProgram_l2 K a0 a1 k (w64 (s26 + 1)))))))))) (inn ()))
def ref32_ValidProgram (K : Nat) (a0 : (List VFunc)) (a1 : (List Int)) : Option Bool :=
 (cnd (((decide (((a0).length : Int) < 1)) || (decide (((a0).length : Int) > 8))) || (decide (((a1).length : Int) > 4))) (some false) (sq (ref32_ValidProgram_l1 K a1 K 0) (fun s4 => (sq (ref32_ValidProgram_l2 K a0 a1 K 0) (fun s21 => (some true))))))
theorem c_ref32_ValidProgram (K : Nat) (a0 : (List VFunc)) (a1 : (List Int)) (r : Bool) (h : ref32_ValidProgram K a0 a1 = some r) : CallP Tryd.prog glob 83 [(tL 3 VFunc.ty a0), (tL 1 lI a1)] (tB r) := by
 refine call_of_code Tryd.func83 rfl Tryd.ntmps83 rfl (fun L w => ?_); change OkC _ _ _ [(0, (tL 3 VFunc.ty a0)), (1, (tL 1 lI a1))] (L); unfold ref32_ValidProgram at h; refine sr (zA (nx (kS (sr (zI (zS (lM u_38) (zS dL ?_))))))); refine zI ?_; refine zT (z := ((decide (((a0).length : Int) < 1)) || (decide (((a0).length : Int) > 8)))) 4 17 ?_ ?_
 ·refine zP (decide (((a0).length : Int) < 1)) (fun hb1 => ?_) (fun hb1 => ?_)
  ·(iterate 3 refine zK hb1 ?_); exact zS (pU hb1) (zN (xm true (or_t hb1)))
  refine zG hb1 dM ?_; refine zG hb1 (lM u_38) ?_; refine zG hb1 dT ?_; exact zS (pG hb1) (zN (xm (decide (((a0).length : Int) > 8)) (or_f hb1)))
 refine zI ?_; refine zT (z := (((decide (((a0).length : Int) < 1)) || (decide (((a0).length : Int) > 8))) || (decide (((a1).length : Int) > 4)))) 4 22 ?_ ?_
 ·refine zP ((decide (((a0).length : Int) < 1)) || (decide (((a0).length : Int) > 8))) (fun hb2 => ?_) (fun hb2 => ?_)
  ·(iterate 3 refine zK hb2 ?_); exact zS (pU hb2) (zN (xm true (or_t hb2)))
  refine zG hb2 dM ?_; refine zG hb2 (lM u_31) ?_; refine zG hb2 dT ?_; exact zS (pG hb2) (zN (xm (decide (((a1).length : Int) > 4)) (or_f hb2)))
 refine nx ?_; refine zC (fun hb3 => ?_) (fun hb3 => ?_)
 ·replace h := ct hb3 h; refine sr (zA (nx (kT (xR ?_)))); obtain rfl := (smh h).symm; exact xq_ () Tryd.results83 rfl rfl
 replace h := cf hb3 h; refine kK (xN (kS (sr (zA (nx ?_))))); obtain ⟨z6, h8, hz7⟩ := sqs h; refine okC_meetE (X := Unit) (fun x => z6 = .inl x) (fun x => [(0, (tL 3 VFunc.ty a0)), (1, (tL 1 lI a1))]) (fun x => L) ?_ ?_
 ·refine kB ?_; refine okC_loop (X := Int) (fun k x => ref32_ValidProgram_l1 K a1 k x = some z6) (fun x => [(0, (tL 3 VFunc.ty a0)), (1, (tL 1 lI a1)), (5, (tI x))]) (fun x => L) K 0 h8 cva rfl (fun k s9 hI => ?_)
  cases k with
  | zero => exact (nz hI).elim
  | succ k =>
  have h := (ref32_ValidProgram_l1.eq_2 ..).symm.trans hI; refine kS (sr (zI (zI (zS (lM u_31) (zS dL (nx ?_)))))); refine zC (fun hb11 => ?_) (fun hb11 => ?_)
  ·replace h := ct hb11 h; refine kK (xN (kS (kB (sr (zI (zI ?_)))))); obtain ⟨y12, hi13, h⟩ := bs h; refine zS (iX u_31 z_3 hi13) (zS (lV a_3) (zS dL (zI ?_))); obtain ⟨z15, h17, hz16⟩ := bs h; refine zV (z := z15) 6 40 ?_ ?_
   ·refine zP (decide (y12 < 1)) (fun hb14 => ?_) (fun hb14 => ?_)
    ·replace h17 := ct hb14 h17; (iterate 5 refine zK hb14 ?_); exact zS (pU hb14) (zN (xm true (smh h17)))
    replace h17 := cf hb14 h17; refine zG hb14 dM ?_; refine zG hb14 dM ?_; obtain ⟨y18, hi19, h17⟩ := bs h17; refine zG hb14 (iX u_31 z_3 hi19) ?_; refine zG hb14 (lV a_3) ?_; refine zG hb14 dT ?_; exact zS (pG hb14) (zN (xm (decide (y18 > 16)) (smh h17)))
   replace h := hz16; refine nx ?_; refine zC (fun hb20 => ?_) (fun hb20 => ?_)
   ·replace h := ct hb20 h; refine sr (zA (nx (kT ?_))); refine okX_block_ret ?_; refine xR ?_; refine okX_again_ret ?_; refine okX_block_ret ?_; refine okX_meet_ret ?_; replace h := outh h hz7; refine xR ?_; obtain rfl := (smh h).symm; exact xq_ () Tryd.results83 rfl rfl
   replace h := cf hb20 h; exact kK (xB (xN (kR (zI (zS dA (zA (zN (xa (w64 (s9 + 1)) h))))))))
  replace h := cf hb11 h; exact kE (xT (xE (xH (xm () (innh h)))))
 intro s4 hx; have hx : z6 = .inl s4 := hx; subst hx; replace h := hz7; refine xN (kS (sr (zA (nx ?_)))); obtain ⟨z23, h25, hz24⟩ := sqs h; refine okC_meetE (X := Unit) (fun x => z23 = .inl x) (fun x => []) (fun x => L) ?_ ?_
 ·refine kB ?_; refine okC_loop (X := Int) (fun k x => ref32_ValidProgram_l2 K a0 a1 k x = some z23) (fun x => [(0, (tL 3 VFunc.ty a0)), (1, (tL 1 lI a1)), (6, (tI x))]) (fun x => L) K 0 h25 cva rfl (fun k s26 hI => ?_)
  cases k with
  | zero => exact (nz hI).elim
  | succ k =>
  have h := (ref32_ValidProgram_l2.eq_2 ..).symm.trans hI; refine kS (sr (zI (zI (zS (lM u_38) (zS dL (nx ?_)))))); refine zC (fun hb28 => ?_) (fun hb28 => ?_)
  ·replace h := ct hb28 h; refine kK (xN (kS (kB (kS (sr (zI (zI ?_))))))); obtain ⟨y29, hi30, h⟩ := bs h; refine zS (iX u_38 z_27 hi30) ?_; refine zS (does_loadA (S27 y29) a_27 z_27 rfl rfl rfl) ?_; obtain ⟨r31, hc32, h⟩ := bs h; refine zS (cQ (c_ref32_Valid K y29 r31 hc32) k_76) (zS dO (nx ?_)); refine zC (fun hb33 => ?_) (fun hb33 => ?_)
   ·replace h := ct hb33 h; refine sr (zA (nx (kT (xR ?_)))); refine okX_block_ret ?_; refine xR ?_; refine okX_again_ret ?_; refine okX_block_ret ?_; refine okX_meet_ret ?_; replace h := outh h hz24; refine xR ?_; obtain rfl := (smh h).symm; exact xq_ () Tryd.results83 rfl rfl
   replace h := cf hb33 h; refine kK (xN (sr (zA (nx ?_)))); obtain ⟨z36, h38, hz37⟩ := sqs h; refine okC_meetE (X := Unit) (fun x => z36 = .inl x) (fun x => [(0, (tL 3 VFunc.ty a0)), (1, (tL 1 lI a1)), (6, (tI s26))]) (fun x => L) ?_ ?_
   ·refine kB ?_; refine okC_loop (X := Int) (fun k x => ref32_ValidProgram_l3 K a0 a1 s26 k x = some z36) (fun x => [(0, (tL 3 VFunc.ty a0)), (1, (tL 1 lI a1)), (6, (tI s26)), (7, (tI x))]) (fun x => L) K 0 h38 cva rfl (fun k s39 hI => ?_)
    cases k with
    | zero => exact (nz hI).elim
    | succ k =>
    have h := (ref32_ValidProgram_l3.eq_2 ..).symm.trans hI; refine kS (sr (zI (zI (zI ?_)))); obtain ⟨y41, hi42, h⟩ := bs h; refine zS (iX u_38 z_27 hi42) ?_; refine zS (does_fieldAddr [(tL 5 Block.ty y41.Blocks)] u_27 rfl z_25 rfl rfl) ?_; refine zS (lV a_25) (zS (lM u_25) (zS dL (nx ?_))); refine zC (fun hb43 => ?_) (fun hb43 => ?_)
    ·replace h := ct hb43 h; refine kK (xN (kS (kB (sr (zA (nx ?_)))))); obtain ⟨z46, h48, hz47⟩ := sqs h; refine okC_meetE (X := Unit) (fun x => z46 = .inl x) (fun x => [(0, (tL 3 VFunc.ty a0)), (1, (tL 1 lI a1)), (6, (tI s26)), (7, (tI s39))]) (fun x => L) ?_ ?_
     ·refine kB ?_; refine okC_loop (X := Int) (fun k x => ref32_ValidProgram_l4 K a0 a1 s26 s39 k x = some z46) (fun x => [(0, (tL 3 VFunc.ty a0)), (1, (tL 1 lI a1)), (6, (tI s26)), (7, (tI s39)), (8, (tI x))]) (fun x => L) K 0 h48 cva rfl (fun k s49 hI => ?_)
      cases k with
      | zero => exact (nz hI).elim
      | succ k =>
      have h := (ref32_ValidProgram_l4.eq_2 ..).symm.trans hI; refine kS (sr (zI (zI (zI ?_)))); obtain ⟨y51, hi52, h⟩ := bs h; refine zS (iX u_38 z_27 hi52) ?_; refine zS (does_fieldAddr [(tL 5 Block.ty y51.Blocks)] u_27 rfl z_25 rfl rfl) ?_; refine zS (lV a_25) (zI ?_); obtain ⟨y53, hi54, h⟩ := bs h; refine zS (iX u_25 z_43 hi54) ?_; refine zS (does_fieldAddr (S43 y53) u_43 rfl z_41 rfl rfl) ?_; refine zS (lV a_41) (zS (lM u_41) (zS dL (nx ?_))); refine zC (fun hb55 => ?_) (fun hb55 => ?_)
      ·replace h := ct hb55 h; refine kK (xN (kS (kB (sr (zI (zI ?_)))))); obtain ⟨y56, hi57, h⟩ := bs h; refine zS (iX u_38 z_27 hi57) ?_; refine zS (does_fieldAddr [(tL 5 Block.ty y56.Blocks)] u_27 rfl z_25 rfl rfl) ?_; refine zS (lV a_25) (zI ?_); obtain ⟨y58, hi59, h⟩ := bs h; refine zS (iX u_25 z_43 hi59) ?_; refine zS (does_fieldAddr (S43 y58) u_43 rfl z_41 rfl rfl) ?_; refine zS (lV a_41) (zI ?_); obtain ⟨y60, hi61, h⟩ := bs h; refine zS (iX u_41 z_48 hi61) ?_; refine zS (does_loadA (S48 y60) a_48 z_48 rfl rfl rfl) ?_; refine zO (oA [tZ, tZ, tZ, tZ, tZ, tN] v_48 (part_of (sub_agg [sZ, sZ, sZ, sZ, sZ, sN] rfl) (pA _)) (fun g62 => ?_)); refine zB 0 (pA _) z_48 ?_; refine nx (kS ?_); obtain ⟨z65, h67, hz66⟩ := bs h; refine okC_meet (X := Bool) (fun x => z65 = x) (fun x => [(0, (tL 3 VFunc.ty a0)), (1, (tL 1 lI a1)), (6, (tI s26)), (7, (tI s39)), (8, (tI s49)), (9, (pAt g62 0)), (113, (tB x))]) (fun x => Item.blk g62 48 (S48 y60) :: L) ?_ ?_
       ·refine okC_cov [(0, (tL 3 VFunc.ty a0)), (1, (tL 1 lI a1)), (6, (tI s26)), (7, (tI s39)), (8, (tI s49)), (9, (pAt g62 0))] cva ?_; refine okC_split (y60.Instr.Op == 6) (fun hb68 => ?_) (fun hb68 => ?_)
        ·replace h67 := ct hb68 h67; refine okC_split (decide (y60.Instr.N ≥ ((a0).length : Int))) (fun hb69 => ?_) (fun hb69 => ?_)
         ·replace h67 := ct hb69 h67; refine drL 22 _ [] (dp (fB 0 u_48 z_46) (dp (fB 0 u_46 z_3) (dp (lC a_3 0) (dp dE (dm rfl (dn1 (draw_on 93 (y60.Instr.Op == 6) rfl rfl rfl hb68 (fB 0 u_48 z_46)) (dn1 (draw_on 93 (y60.Instr.Op == 6) rfl rfl rfl hb68 (fB 4 u_46 z_2)) (dn1 (draw_on 93 (y60.Instr.Op == 6) rfl rfl rfl hb68 (lC a_2 0)) (dn1 (draw_on 93 (y60.Instr.Op == 6) rfl rfl rfl hb68 dM) (dn1 (draw_on 93 (y60.Instr.Op == 6) rfl rfl rfl hb68 (lM u_38)) (dn1 (draw_on 93 (y60.Instr.Op == 6) rfl rfl rfl hb68 dG) (dn1 (draw_on 93 (y60.Instr.Op == 6) rfl rfl rfl hb68 dM) (dn1 (draw_off 100 (decide (y60.Instr.N ≥ ((a0).length : Int))) rfl rfl rfl hb69) (dn1 (draw_off 100 (decide (y60.Instr.N ≥ ((a0).length : Int))) rfl rfl rfl hb69) (dn1 (draw_off 100 (decide (y60.Instr.N ≥ ((a0).length : Int))) rfl rfl rfl hb69) (dn1 (draw_off 100 (decide (y60.Instr.N ≥ ((a0).length : Int))) rfl rfl rfl hb69) (dn1 (draw_off 100 (decide (y60.Instr.N ≥ ((a0).length : Int))) rfl rfl rfl hb69) (dn1 (draw_off 100 (decide (y60.Instr.N ≥ ((a0).length : Int))) rfl rfl rfl hb69) (dn1 (draw_off 100 (decide (y60.Instr.N ≥ ((a0).length : Int))) rfl rfl rfl hb69) (dn1 (draw_off 100 (decide (y60.Instr.N ≥ ((a0).length : Int))) rfl rfl rfl hb69) (dn1 (draw_off 100 (decide (y60.Instr.N ≥ ((a0).length : Int))) rfl rfl rfl hb69) (dn1 (draw_off 100 (decide (y60.Instr.N ≥ ((a0).length : Int))) rfl rfl rfl hb69) (dn))))))))))))))))))))))) ?_; refine ch_end ?_; refine zK hb69 ?_; refine zG hb68 (pU hb69) ?_; exact zS (pU hb68) (zN (xm true (smh h67)))
         replace h67 := cf hb69 h67; obtain ⟨y70, hi71, h67⟩ := bs h67; refine drL 22 _ [] (dp (fB 0 u_48 z_46) (dp (fB 0 u_46 z_3) (dp (lC a_3 0) (dp dE (dm rfl (dn1 (draw_on 93 (y60.Instr.Op == 6) rfl rfl rfl hb68 (fB 0 u_48 z_46)) (dn1 (draw_on 93 (y60.Instr.Op == 6) rfl rfl rfl hb68 (fB 4 u_46 z_2)) (dn1 (draw_on 93 (y60.Instr.Op == 6) rfl rfl rfl hb68 (lC a_2 0)) (dn1 (draw_on 93 (y60.Instr.Op == 6) rfl rfl rfl hb68 dM) (dn1 (draw_on 93 (y60.Instr.Op == 6) rfl rfl rfl hb68 (lM u_38)) (dn1 (draw_on 93 (y60.Instr.Op == 6) rfl rfl rfl hb68 dG) (dn1 (draw_on 93 (y60.Instr.Op == 6) rfl rfl rfl hb68 dM) (dn1 (draw_on 100 (decide (y60.Instr.N ≥ ((a0).length : Int))) rfl rfl rfl hb69 dM) (dn1 (draw_on 100 (decide (y60.Instr.N ≥ ((a0).length : Int))) rfl rfl rfl hb69 (fB 0 u_48 z_46)) (dn1 (draw_on 100 (decide (y60.Instr.N ≥ ((a0).length : Int))) rfl rfl rfl hb69 (fB 4 u_46 z_2)) (dn1 (draw_on 100 (decide (y60.Instr.N ≥ ((a0).length : Int))) rfl rfl rfl hb69 (lC a_2 0)) (dn1 (draw_on 100 (decide (y60.Instr.N ≥ ((a0).length : Int))) rfl rfl rfl hb69 (iX u_38 z_27 hi71)) (dn1 (draw_on 100 (decide (y60.Instr.N ≥ ((a0).length : Int))) rfl rfl rfl hb69 (does_fieldAddr (S27 y70) u_27 rfl z_3 rfl rfl)) (dn1 (draw_on 100 (decide (y60.Instr.N ≥ ((a0).length : Int))) rfl rfl rfl hb69 (lV a_3)) (dn1 (draw_on 100 (decide (y60.Instr.N ≥ ((a0).length : Int))) rfl rfl rfl hb69 (fB 5 u_48 z_31)) (dn1 (draw_on 100 (decide (y60.Instr.N ≥ ((a0).length : Int))) rfl rfl rfl hb69 (lC a_31 0)) (dn1 (draw_on 100 (decide (y60.Instr.N ≥ ((a0).length : Int))) rfl rfl rfl hb69 (lM u_31)) (dn))))))))))))))))))))))) ?_; refine ch_end ?_; refine zG hb69 dN ?_; refine zG hb68 (pG hb69) ?_; exact zS (pU hb68) (zN (xm (y70.Params != ((y60.Args).length : Int)) (smh h67)))
        replace h67 := cf hb68 h67; refine drL 22 _ [] (dp (fB 0 u_48 z_46) (dp (fB 0 u_46 z_3) (dp (lC a_3 0) (dp dE (dm rfl (dn1 (draw_off 93 (y60.Instr.Op == 6) rfl rfl rfl hb68) (dn1 (draw_off 93 (y60.Instr.Op == 6) rfl rfl rfl hb68) (dn1 (draw_off 93 (y60.Instr.Op == 6) rfl rfl rfl hb68) (dn1 (draw_off 93 (y60.Instr.Op == 6) rfl rfl rfl hb68) (dn1 (draw_off 93 (y60.Instr.Op == 6) rfl rfl rfl hb68) (dn1 (draw_off 93 (y60.Instr.Op == 6) rfl rfl rfl hb68) (dn1 (draw_off 93 (y60.Instr.Op == 6) rfl rfl rfl hb68) (dn1 (draw_offU 100 rfl rfl rfl) (dn1 (draw_offU 100 rfl rfl rfl) (dn1 (draw_offU 100 rfl rfl rfl) (dn1 (draw_offU 100 rfl rfl rfl) (dn1 (draw_offU 100 rfl rfl rfl) (dn1 (draw_offU 100 rfl rfl rfl) (dn1 (draw_offU 100 rfl rfl rfl) (dn1 (draw_offU 100 rfl rfl rfl) (dn1 (draw_offU 100 rfl rfl rfl) (dn1 (draw_offU 100 rfl rfl rfl) (dn))))))))))))))))))))))) ?_; refine ch_end ?_; refine zU ?_; refine zK hb68 ?_; exact zS (pG hb68) (zN (xm false (smh h67)))
       intro s63 hx; obtain rfl : s63 = z65 := hx.symm; replace h := hz66; refine zC (fun hb72 => ?_) (fun hb72 => ?_)
       ·replace h := ct hb72 h; refine sr (zA (nx (kT (xR ?_)))); refine okX_block_ret ?_; refine xR ?_; refine okX_again_ret ?_; refine okX_block_ret ?_; refine okX_meet_ret ?_; replace h := outh h hz47; refine okX_block_ret ?_; refine xR ?_; refine okX_again_ret ?_; refine okX_block_ret ?_; refine okX_meet_ret ?_; replace h := outh h hz37; refine okX_block_ret ?_; refine xR ?_; refine okX_again_ret ?_; refine okX_block_ret ?_; refine okX_meet_ret ?_; replace h := outh h hz24; refine xR ?_; obtain rfl := (smh h).symm; exact xD 0 (xq_ () Tryd.results83 rfl rfl)
       replace h := cf hb72 h; refine kK (xN (sr (zS (fB 0 u_48 z_46) (zS (fB 0 u_46 z_3) (zS (lC a_3 0) (zS dE (zI ?_))))))); refine zT (z := ((y60.Instr.Op == 34) || (y60.Instr.Op == 35))) 5 123 ?_ ?_
       ·refine zP (y60.Instr.Op == 34) (fun hb73 => ?_) (fun hb73 => ?_)
        ·(iterate 4 refine zK hb73 ?_); exact zS (pU hb73) (zN (xm true (or_t hb73)))
        refine zG hb73 (fB 0 u_48 z_46) ?_; refine zG hb73 (fB 0 u_46 z_3) ?_; refine zG hb73 (lC a_3 0) ?_; refine zG hb73 dE ?_; exact zS (pG hb73) (zN (xm (y60.Instr.Op == 35) (or_f hb73)))
       refine zI ?_; refine zT (z := (((y60.Instr.Op == 34) || (y60.Instr.Op == 35)) && (decide (y60.Instr.N ≥ ((a1).length : Int))))) 7 131 ?_ ?_
       ·refine zP ((y60.Instr.Op == 34) || (y60.Instr.Op == 35)) (fun hb74 => ?_) (fun hb74 => ?_)
        ·refine zG hb74 (fB 0 u_48 z_46) ?_; refine zG hb74 (fB 4 u_46 z_2) ?_; refine zG hb74 (lC a_2 0) ?_; refine zG hb74 dM ?_; refine zG hb74 (lM u_31) ?_; refine zG hb74 dG ?_; exact zS (pU hb74) (zN (xm (decide (y60.Instr.N ≥ ((a1).length : Int))) (and_t hb74)))
        (iterate 6 refine zK hb74 ?_); exact zS (pG hb74) (zN (xm false (and_f hb74)))
       refine nx ?_; refine zC (fun hb75 => ?_) (fun hb75 => ?_)
       ·replace h := ct hb75 h; refine sr (zA (nx (kT ?_))); refine okX_block_ret ?_; refine xR ?_; refine okX_again_ret ?_; refine okX_block_ret ?_; refine okX_meet_ret ?_; replace h := outh h hz47; refine okX_block_ret ?_; refine xR ?_; refine okX_again_ret ?_; refine okX_block_ret ?_; refine okX_meet_ret ?_; replace h := outh h hz37; refine okX_block_ret ?_; refine xR ?_; refine okX_again_ret ?_; refine okX_block_ret ?_; refine okX_meet_ret ?_; replace h := outh h hz24; refine xR ?_; obtain rfl := (smh h).symm; exact xD 0 (xq_ () Tryd.results83 rfl rfl)
       replace h := cf hb75 h; refine kK (xB (xN (kR (zI (zS dA (zA (zN ?_))))))); exact xD 0 (xa (w64 (s49 + 1)) h)
      replace h := cf hb55 h; exact kE (xT (xE (xH (xm () (innh h)))))
     intro s44 hx; have hx : z46 = .inl s44 := hx; subst hx; replace h := hz47; exact xB (xN (kR (zI (zS dA (zA (zN (xa (w64 (s39 + 1)) h)))))))
    replace h := cf hb43 h; exact kE (xT (xE (xH (xm () (innh h)))))
   intro s34 hx; have hx : z36 = .inl s34 := hx; subst hx; replace h := hz37; exact xB (xN (kR (zI (zS dA (zA (zN (xa (w64 (s26 + 1)) h)))))))
  replace h := cf hb28 h; exact kE (xT (xE (xH (xm () (innh h)))))
 intro s21 hx; have hx : z23 = .inl s21 := hx; subst hx; replace h := hz24; refine xN (sr (zA (nx (kT ?_)))); obtain rfl := (smh h).symm; exact xq_ () Tryd.results83 rfl rfl
def keep2_VInstr_l1 (K : Nat) (a1 : VFunc) : Nat → (Int × Int × (List Int)) → Option (Int × (List Int))
 | 0, _ => none
 | k + 1, s78 => (cnd (decide (s78.1 > 0)) (Option.bind (keep2_Digits_Next (⟨s78.2.1⟩ : Fullingkeep2Digits) a1.Regs) (fun r81 => (Option.bind (app 8 s78.2.2 ([r81.1] : List Int)) (fun l83 => (keep2_VInstr_l1 K a1 k ((w64 (s78.1 - 1)), r81.2.N, l83)))))) (some (s78.2.1, s78.2.2)))
def keep2_VInstr (K : Nat) (a0 : Int) (a1 : VFunc) : Option VInstr :=
 (Option.bind (keep2_Digits_Next (⟨a0⟩ : Fullingkeep2Digits) 18) (fun r4 => (Option.bind (Option.bind (keep2_Digits_Next r4.2 24) (fun r11 => (cnd (decide (r11.1 < ((([3, 6, 9, 10, 11, 12, 13, 33, 34, 35, 10, 9] : List Int)).length : Int))) (Option.bind (idx ([3, 6, 9, 10, 11, 12, 13, 33, 34, 35, 10, 9] : List Int) r11.1) (fun y14 => (some (y14, r11.2.N)))) (some ((w64 (15 + r4.1)), r11.2.N))))) (fun s6 => (Option.bind (ref29_Info s6.1) (fun r17 => (Option.bind (cnd (r17.1.Form != 1) (Option.bind (keep2_Digits_Next (⟨s6.2⟩ : Fullingkeep2Digits) a1.Regs) (fun r26 => (some (r26.1, r26.2.N)))) (some (0, s6.2))) (fun s20 => (Option.bind (cnd (((r17.1.Form == 3) || (r17.1.Form == 4)) || (r17.1.Form == 7)) (Option.bind (keep2_Digits_Next (⟨s20.2⟩ : Fullingkeep2Digits) a1.Regs) (fun r36 => (some (r36.1, r36.2.N)))) (some (0, s20.2))) (fun s28 => (Option.bind (cnd (r17.1.Form == 4) (Option.bind (keep2_Digits_Next (⟨s28.2⟩ : Fullingkeep2Digits) a1.Regs) (fun r46 => (some (r46.1, r46.2.N)))) (some (0, s28.2))) (fun s40 => (Option.bind (cnd (s6.1 == 13) (Option.bind (keep2_Digits_Next (⟨s40.2⟩ : Fullingkeep2Digits) 400) (fun r54 => (Option.bind (keep_Word r54.1 a0) (fun r56 => (some (([] : List Int), r56, r54.2.N)))))) (cnd (s6.1 == 33) (Option.bind (keep2_Digits_Next (⟨s40.2⟩ : Fullingkeep2Digits) 9) (fun r59 => (some (([] : List Int), (w64 (r59.1 - 4)), r59.2.N)))) (Option.bind (cnd (s6.1 == 34) (some (s6.1 == 34)) (some (s6.1 == 35))) (fun s61 => (cnd s61 (Option.bind (keep2_Digits_Next (⟨s40.2⟩ : Fullingkeep2Digits) 2) (fun r68 => (some (([] : List Int), r68.1, r68.2.N)))) (cnd (s6.1 == 6) (Option.bind (keep2_Digits_Next (⟨s40.2⟩ : Fullingkeep2Digits) 2) (fun r71 => (Option.bind (keep2_VInstr_l1 K a1 K ((w64 (2 - r71.1)), r71.2.N, ([] : List Int))) (fun s73 => (some (s73.2, r71.1, s73.1)))))) (some (([] : List Int), 0, s40.2)))))))) (fun s48 => (some (⟨(⟨s6.1, s20.1, s28.1, s40.1, s48.2.1⟩ : Instr), s48.1⟩ : VInstr))))))))))))))))
theorem c_keep2_VInstr (K : Nat) (a0 : Int) (a1 : VFunc) (r : VInstr) (h : keep2_VInstr K a0 a1 = some r) : CallP Tryd.prog glob 57 [(tI a0), (Ty.agg [(tI a1.Params), (tI a1.Regs), Ty.any])] (Ty.agg (S48 r)) := by
 refine call_of_code Tryd.func57 rfl Tryd.ntmps57 rfl (fun L w => ?_); change OkC _ _ _ [(0, (tI a0)), (1, (Ty.agg [(tI a1.Params), (tI a1.Regs), Ty.any]))] (L); unfold keep2_VInstr at h; refine sr ?_; refine zO (oB [(tI a1.Params), (tI a1.Regs), Ty.any] rfl (pA _) (fun g1 => ?_)); refine zO (oA [tZ, tZ, tZ, tZ, tZ, tN] v_48 (part_of (sub_agg [sZ, sZ, sZ, sZ, sZ, sN] rfl) (pA _)) (fun g2 => ?_)); refine nsr (zI ?_); refine zS (does_build [(tI a0)] v_103 u_103 (places103 _ u_103) rfl (fc [(tI a0)] 0 rfl (pq_ (one_i _)) rfl rfl (fn_ rfl))) ?_; refine zO (oB [(tI a0)] rfl (pA _) (fun g3 => ?_)); refine zA (nsr ?_); refine zS (bS (f := lI) ([3, 6, 9, 10, 11, 12, 13, 33, 34, 35, 10, 9] : List Int) [(tI 3), (tI 6), (tI 9), (tI 10), (tI 11), (tI 12), (tI 13), (tI 33), (tI 34), (tI 35), (tI 10), (tI 9)] el31 rfl rfl rfl (fc [(tI 3)] 0 rfl (pq_ (one_i _)) rfl rfl (fc [(tI 6)] 1 rfl (pq_ (one_i _)) rfl rfl (fc [(tI 9)] 2 rfl (pq_ (one_i _)) rfl rfl (fc [(tI 10)] 3 rfl (pq_ (one_i _)) rfl rfl (fc [(tI 11)] 4 rfl (pq_ (one_i _)) rfl rfl (fc [(tI 12)] 5 rfl (pq_ (one_i _)) rfl rfl (fc [(tI 13)] 6 rfl (pq_ (one_i _)) rfl rfl (fc [(tI 33)] 7 rfl (pq_ (one_i _)) rfl rfl (fc [(tI 34)] 8 rfl (pq_ (one_i _)) rfl rfl (fc [(tI 35)] 9 rfl (pq_ (one_i _)) rfl rfl (fc [(tI 10)] 10 rfl (pq_ (one_i _)) rfl rfl (fc [(tI 9)] 11 rfl (pq_ (one_i _)) rfl rfl (fn_ rfl))))))))))))) rfl (fun _ => rfl)) ?_; refine zA (nsr (zI ?_)); obtain ⟨r4, hc5, h⟩ := bs h; refine zO (oq_ (Item.blk g2 48 [tZ, tZ, tZ, tZ, tZ, tN] :: Item.blk g1 27 [(tI a1.Params), (tI a1.Regs), Ty.any] :: L) (c_keep2_Digits_Next (⟨a0⟩ : Fullingkeep2Digits) 18 g3 r4 hc5) rfl k_74 rfl (pm 0 rfl (pr _)) (fun _ => ?_)); refine zS dA (zA (nx ?_)); obtain ⟨z8, h10, hz9⟩ := bs h; refine okC_meet (X := (Int × Int)) (fun x => z8 = x) (fun x => [(0, (tI a0)), (3, (pAt g1 0)), (4, (pAt g2 0)), (5, (pAt g3 0)), (7, (tI x.1))]) (fun x => Item.blk g3 103 [(tI x.2)] :: Item.blk g2 48 [tZ, tZ, tZ, tZ, tZ, tN] :: Item.blk g1 27 [(tI a1.Params), (tI a1.Regs), Ty.any] :: L) ?_ ?_
 ·refine sr (zI ?_); obtain ⟨r11, hc12, h10⟩ := bs h10; refine zO (oq_ (Item.blk g2 48 [tZ, tZ, tZ, tZ, tZ, tN] :: Item.blk g1 27 [(tI a1.Params), (tI a1.Regs), Ty.any] :: L) (c_keep2_Digits_Next r4.2 24 g3 r11 hc12) rfl k_74 rfl (pm 0 rfl (pr _)) (fun _ => ?_)); refine zA (nsr (zI (zI (zS (lM u_31) (zS dL (nx ?_)))))); refine zC (fun hb13 => ?_) (fun hb13 => ?_)
  ·replace h10 := ct hb13 h10; refine kR (zI (zI ?_)); obtain ⟨y14, hi15, h10⟩ := bs h10; exact zS (iX u_31 z_3 hi15) (zS (lV a_3) (zA (zN (xm (y14, r11.2.N) (smh h10)))))
  replace h10 := cf hb13 h10; exact kK (xm ((w64 (15 + r4.1)), r11.2.N) (smh h10))
 intro s6 hx; obtain rfl : s6 = z8 := hx.symm; replace h := hz9; refine sr (zI ?_); refine zS (does_build [(tI s6.1), tZ, tZ, tZ, tZ] v_46 u_46 (places46 _ u_46) rfl (fc [(tI s6.1)] 0 rfl (pq_ (one_i _)) rfl rfl (fn_ rfl))) ?_; refine zS (does_build [(tI s6.1), tZ, tZ, tZ, tZ, tN] v_48 u_48 (places48 _ u_48) rfl (fc [(tI s6.1), tZ, tZ, tZ, tZ] 0 rfl (pA _) rfl rfl (fn_ rfl))) ?_; refine zO (oA [tZ, tZ, tZ, tZ, tZ, tN] v_48 (part_of (sub_agg [sZ, sZ, sZ, sZ, sZ, sN] rfl) (pA _)) (fun g16 => ?_)); refine zB 0 (pA _) z_48 ?_; refine nsr (zI ?_); obtain ⟨r17, hc18, h⟩ := bs h; refine zS (cQ (c_ref29_Info s6.1 r17 hc18) k_99) (zI ?_); refine zS dX ?_; refine zS dX ?_; refine zO (oA [(tS ⟨#[]⟩), tZ, (tB false), (tB false), (tB false), (tB false), tZ] v_113 (part_of (sub_agg [(.string ⟨#[]⟩), sZ, (.bool false), (.bool false), (.bool false), (.bool false), sZ] rfl) (pA _)) (fun g19 => ?_)); refine zB 0 (pA _) z_113 ?_; refine zA (nsr (zS (fB 1 u_113 z_3) (zS (lC a_3 0) (zA (nx ?_))))); obtain ⟨z22, h24, hz23⟩ := bs h; refine okC_meet (X := (Int × Int)) (fun x => z22 = x) (fun x => [(0, (tI a0)), (3, (pAt g1 0)), (4, (pAt g2 0)), (5, (pAt g3 0)), (7, (tI s6.1)), (9, (pAt g16 0)), (12, (tI r17.1.Form))]) (fun x => Item.blk g19 113 (S113 r17.1) :: Item.blk g16 48 [(tI s6.1), (tI x.1), tZ, tZ, tZ, tN] :: Item.blk g3 103 [(tI x.2)] :: Item.blk g2 48 [tZ, tZ, tZ, tZ, tZ, tN] :: Item.blk g1 27 [(tI a1.Params), (tI a1.Regs), Ty.any] :: L) ?_ ?_
 ·refine sr (zI (zS dN (nx ?_))); refine zC (fun hb25 => ?_) (fun hb25 => ?_)
  ·replace h24 := ct hb25 h24; refine kR (zI (zS (fB 1 u_27 z_3) (zS (lC a_3 4) ?_))); obtain ⟨r26, hc27, h24⟩ := bs h24; refine zO (oq_ (Item.blk g19 113 (S113 r17.1) :: Item.blk g16 48 [(tI s6.1), tZ, tZ, tZ, tZ, tN] :: Item.blk g2 48 [tZ, tZ, tZ, tZ, tZ, tN] :: Item.blk g1 27 [(tI a1.Params), (tI a1.Regs), Ty.any] :: L) (c_keep2_Digits_Next (⟨s6.2⟩ : Fullingkeep2Digits) a1.Regs g3 r26 hc27) rfl k_74 rfl (pm 2 rfl (pr _)) (fun _ => ?_)); refine zS (fB 0 u_48 z_46) (zS (fB 1 u_46 z_3) (zB 2 (pq_ (one_i _)) z_3 ?_)); refine zN ?_; refine xI [] (Item.blk g19 113 (S113 r17.1) :: Item.blk g16 48 [(tI s6.1), (tI r26.1), tZ, tZ, tZ, tN] :: Item.blk g3 103 [(tI r26.2.N)] :: Item.blk g2 48 [tZ, tZ, tZ, tZ, tZ, tN] :: Item.blk g1 27 [(tI a1.Params), (tI a1.Regs), Ty.any] :: L) (pm 1 rfl (pm 1 rfl (pm 0 rfl (pm 0 rfl (pm 0 rfl (pr _)))))) ?_; exact xm (r26.1, r26.2.N) (smh h24)
  replace h24 := cf hb25 h24; exact kK (xm (0, s6.2) (smh h24))
 intro s20 hx; obtain rfl : s20 = z22 := hx.symm; replace h := hz23; obtain ⟨z30, h32, hz31⟩ := bs h; refine okC_meet (X := (Int × Int)) (fun x => z30 = x) (fun x => [(0, (tI a0)), (3, (pAt g1 0)), (4, (pAt g2 0)), (5, (pAt g3 0)), (7, (tI s6.1)), (9, (pAt g16 0)), (12, (tI r17.1.Form))]) (fun x => Item.blk g19 113 (S113 r17.1) :: Item.blk g16 48 [(tI s6.1), (tI s20.1), (tI x.1), tZ, tZ, tN] :: Item.blk g3 103 [(tI x.2)] :: Item.blk g2 48 [tZ, tZ, tZ, tZ, tZ, tN] :: Item.blk g1 27 [(tI a1.Params), (tI a1.Regs), Ty.any] :: L) ?_ ?_
 ·refine sr (zI (zS dE (zI ?_))); refine zT (z := ((r17.1.Form == 3) || (r17.1.Form == 4))) 3 54 ?_ ?_
  ·refine zP (r17.1.Form == 3) (fun hb33 => ?_) (fun hb33 => ?_)
   ·(iterate 2 refine zK hb33 ?_); exact zS (pU hb33) (zN (xm true (or_t hb33)))
   refine zG hb33 dM ?_; refine zG hb33 dE ?_; exact zS (pG hb33) (zN (xm (r17.1.Form == 4) (or_f hb33)))
  refine zI ?_; refine zT (z := (((r17.1.Form == 3) || (r17.1.Form == 4)) || (r17.1.Form == 7))) 3 58 ?_ ?_
  ·refine zP ((r17.1.Form == 3) || (r17.1.Form == 4)) (fun hb34 => ?_) (fun hb34 => ?_)
   ·(iterate 2 refine zK hb34 ?_); exact zS (pU hb34) (zN (xm true (or_t hb34)))
   refine zG hb34 dM ?_; refine zG hb34 dE ?_; exact zS (pG hb34) (zN (xm (r17.1.Form == 7) (or_f hb34)))
  refine nx ?_; refine zC (fun hb35 => ?_) (fun hb35 => ?_)
  ·replace h32 := ct hb35 h32; refine kR (zI (zS (fB 1 u_27 z_3) (zS (lC a_3 4) ?_))); obtain ⟨r36, hc37, h32⟩ := bs h32; refine zO (oq_ (Item.blk g19 113 (S113 r17.1) :: Item.blk g16 48 [(tI s6.1), (tI s20.1), tZ, tZ, tZ, tN] :: Item.blk g2 48 [tZ, tZ, tZ, tZ, tZ, tN] :: Item.blk g1 27 [(tI a1.Params), (tI a1.Regs), Ty.any] :: L) (c_keep2_Digits_Next (⟨s20.2⟩ : Fullingkeep2Digits) a1.Regs g3 r36 hc37) rfl k_74 rfl (pm 2 rfl (pr _)) (fun _ => ?_)); refine zS (fB 0 u_48 z_46) (zS (fB 2 u_46 z_3) (zB 2 (pq_ (one_i _)) z_3 ?_)); refine zN ?_; refine xI [] (Item.blk g19 113 (S113 r17.1) :: Item.blk g16 48 [(tI s6.1), (tI s20.1), (tI r36.1), tZ, tZ, tN] :: Item.blk g3 103 [(tI r36.2.N)] :: Item.blk g2 48 [tZ, tZ, tZ, tZ, tZ, tN] :: Item.blk g1 27 [(tI a1.Params), (tI a1.Regs), Ty.any] :: L) (pm 1 rfl (pm 1 rfl (pm 0 rfl (pm 0 rfl (pm 0 rfl (pr _)))))) ?_; exact xm (r36.1, r36.2.N) (smh h32)
  replace h32 := cf hb35 h32; exact kK (xm (0, s20.2) (smh h32))
 intro s28 hx; obtain rfl : s28 = z30 := hx.symm; replace h := hz31; obtain ⟨z42, h44, hz43⟩ := bs h; refine okC_meet (X := (Int × Int)) (fun x => z42 = x) (fun x => [(0, (tI a0)), (3, (pAt g1 0)), (4, (pAt g2 0)), (5, (pAt g3 0)), (7, (tI s6.1)), (9, (pAt g16 0))]) (fun x => Item.blk g19 113 (S113 r17.1) :: Item.blk g16 48 [(tI s6.1), (tI s20.1), (tI s28.1), (tI x.1), tZ, tN] :: Item.blk g3 103 [(tI x.2)] :: Item.blk g2 48 [tZ, tZ, tZ, tZ, tZ, tN] :: Item.blk g1 27 [(tI a1.Params), (tI a1.Regs), Ty.any] :: L) ?_ ?_
 ·refine sr (zI (zS dE (nx ?_))); refine zC (fun hb45 => ?_) (fun hb45 => ?_)
  ·replace h44 := ct hb45 h44; refine kR (zI (zS (fB 1 u_27 z_3) (zS (lC a_3 4) ?_))); obtain ⟨r46, hc47, h44⟩ := bs h44; refine zO (oq_ (Item.blk g19 113 (S113 r17.1) :: Item.blk g16 48 [(tI s6.1), (tI s20.1), (tI s28.1), tZ, tZ, tN] :: Item.blk g2 48 [tZ, tZ, tZ, tZ, tZ, tN] :: Item.blk g1 27 [(tI a1.Params), (tI a1.Regs), Ty.any] :: L) (c_keep2_Digits_Next (⟨s28.2⟩ : Fullingkeep2Digits) a1.Regs g3 r46 hc47) rfl k_74 rfl (pm 2 rfl (pr _)) (fun _ => ?_)); refine zS (fB 0 u_48 z_46) (zS (fB 3 u_46 z_3) (zB 2 (pq_ (one_i _)) z_3 ?_)); refine zN ?_; refine xI [] (Item.blk g19 113 (S113 r17.1) :: Item.blk g16 48 [(tI s6.1), (tI s20.1), (tI s28.1), (tI r46.1), tZ, tN] :: Item.blk g3 103 [(tI r46.2.N)] :: Item.blk g2 48 [tZ, tZ, tZ, tZ, tZ, tN] :: Item.blk g1 27 [(tI a1.Params), (tI a1.Regs), Ty.any] :: L) (pm 1 rfl (pm 1 rfl (pm 0 rfl (pm 0 rfl (pm 0 rfl (pr _)))))) ?_; exact xm (r46.1, r46.2.N) (smh h44)
  replace h44 := cf hb45 h44; exact kK (xm (0, s28.2) (smh h44))
 intro s40 hx; obtain rfl : s40 = z42 := hx.symm; replace h := hz43; refine okC_nilrowB (sz := 1) lI 3 1 5 [(tI s6.1), (tI s20.1), (tI s28.1), (tI s40.1), tZ, (Ty.own sN)] (rowL sN 3 1 lI ([] : List Int) :: Item.blk g19 113 (S113 r17.1) :: Item.blk g16 48 [(tI s6.1), (tI s20.1), (tI s28.1), (tI s40.1), tZ, (Ty.own sN)] :: Item.blk g3 103 [(tI s40.2)] :: Item.blk g2 48 [tZ, tZ, tZ, tZ, tZ, tN] :: Item.blk g1 27 [(tI a1.Params), (tI a1.Regs), Ty.any] :: L) rfl rfl rfl rfl ?_; obtain ⟨z50, h52, hz51⟩ := bs h; refine okC_meet (X := (((List Int) × Int × Int) × Value)) (fun x => z50 = x.1) (fun x => [(4, (pAt g2 0)), (9, (pAt g16 0))]) (fun x => rowL x.2 3 1 lI x.1.1 :: Item.blk g19 113 (S113 r17.1) :: Item.blk g16 48 [(tI s6.1), (tI s20.1), (tI s28.1), (tI s40.1), (tI x.1.2.1), (Ty.own x.2)] :: Item.blk g3 103 [(tI x.1.2.2)] :: Item.blk g2 48 [tZ, tZ, tZ, tZ, tZ, tN] :: Item.blk g1 27 [(tI a1.Params), (tI a1.Regs), Ty.any] :: L) ?_ ?_
 ·refine sr (zI (nx (kB (sr (zS dE (zA (nx ?_))))))); refine zC (fun hb53 => ?_) (fun hb53 => ?_)
  ·replace h52 := ct hb53 h52; refine kR (zI ?_); obtain ⟨r54, hc55, h52⟩ := bs h52; refine zO (oq_ (rowL sN 3 1 lI ([] : List Int) :: Item.blk g19 113 (S113 r17.1) :: Item.blk g16 48 [(tI s6.1), (tI s20.1), (tI s28.1), (tI s40.1), tZ, (Ty.own sN)] :: Item.blk g2 48 [tZ, tZ, tZ, tZ, tZ, tN] :: Item.blk g1 27 [(tI a1.Params), (tI a1.Regs), Ty.any] :: L) (c_keep2_Digits_Next (⟨s40.2⟩ : Fullingkeep2Digits) 400 g3 r54 hc55) rfl k_74 rfl (pm 3 rfl (pr _)) (fun _ => ?_)); refine zI ?_; obtain ⟨r56, hc57, h52⟩ := bs h52; refine zS (cQ (c_keep_Word r54.1 a0 r56 hc57) k_75) (zS (fB 0 u_48 z_46) (zS (fB 4 u_46 z_2) (zB 3 (pq_ (one_i _)) z_2 ?_))); refine zN (xB ?_); refine xI [] (rowL sN 3 1 lI ([] : List Int) :: Item.blk g19 113 (S113 r17.1) :: Item.blk g16 48 [(tI s6.1), (tI s20.1), (tI s28.1), (tI s40.1), (tI r56), (Ty.own sN)] :: Item.blk g3 103 [(tI r54.2.N)] :: Item.blk g2 48 [tZ, tZ, tZ, tZ, tZ, tN] :: Item.blk g1 27 [(tI a1.Params), (tI a1.Regs), Ty.any] :: L) (pm 1 rfl (pm 1 rfl (pm 1 rfl (pm 0 rfl (pm 0 rfl (pm 0 rfl (pr _))))))) ?_; exact xm ((([] : List Int), r56, r54.2.N), sN) (smh h52)
  replace h52 := cf hb53 h52; refine sr (zS dE (zA (nx ?_))); refine zC (fun hb58 => ?_) (fun hb58 => ?_)
  ·replace h52 := ct hb58 h52; refine kR (zI ?_); obtain ⟨r59, hc60, h52⟩ := bs h52; refine zO (oq_ (rowL sN 3 1 lI ([] : List Int) :: Item.blk g19 113 (S113 r17.1) :: Item.blk g16 48 [(tI s6.1), (tI s20.1), (tI s28.1), (tI s40.1), tZ, (Ty.own sN)] :: Item.blk g2 48 [tZ, tZ, tZ, tZ, tZ, tN] :: Item.blk g1 27 [(tI a1.Params), (tI a1.Regs), Ty.any] :: L) (c_keep2_Digits_Next (⟨s40.2⟩ : Fullingkeep2Digits) 9 g3 r59 hc60) rfl k_74 rfl (pm 3 rfl (pr _)) (fun _ => ?_)); refine zS dS (zS (fB 0 u_48 z_46) (zS (fB 4 u_46 z_2) (zB 3 (pq_ (one_i _)) z_2 ?_))); refine zN (xB ?_); refine xI [] (rowL sN 3 1 lI ([] : List Int) :: Item.blk g19 113 (S113 r17.1) :: Item.blk g16 48 [(tI s6.1), (tI s20.1), (tI s28.1), (tI s40.1), (tI (w64 (r59.1 - 4))), (Ty.own sN)] :: Item.blk g3 103 [(tI r59.2.N)] :: Item.blk g2 48 [tZ, tZ, tZ, tZ, tZ, tN] :: Item.blk g1 27 [(tI a1.Params), (tI a1.Regs), Ty.any] :: L) (pm 1 rfl (pm 1 rfl (pm 1 rfl (pm 0 rfl (pm 0 rfl (pm 0 rfl (pr _))))))) ?_; exact xm ((([] : List Int), (w64 (r59.1 - 4)), r59.2.N), sN) (smh h52)
  replace h52 := cf hb58 h52; obtain ⟨z63, h65, hz64⟩ := bs h52; refine okC_meet (X := Bool) (fun x => z63 = x) (fun x => [(3, (pAt g1 0)), (4, (pAt g2 0)), (5, (pAt g3 0)), (9, (pAt g16 0)), (73, (tI s6.1)), (89, (tB x))]) (fun x => rowL sN 3 1 lI ([] : List Int) :: Item.blk g19 113 (S113 r17.1) :: Item.blk g16 48 [(tI s6.1), (tI s20.1), (tI s28.1), (tI s40.1), tZ, (Ty.own sN)] :: Item.blk g3 103 [(tI s40.2)] :: Item.blk g2 48 [tZ, tZ, tZ, tZ, tZ, tN] :: Item.blk g1 27 [(tI a1.Params), (tI a1.Regs), Ty.any] :: L) ?_ ?_
  ·refine sr (zS dE (zA (nx ?_))); refine zC (fun hb66 => ?_) (fun hb66 => ?_)
   ·replace h65 := ct hb66 h65; exact kK (xm (s6.1 == 34) (smh h65))
   replace h65 := cf hb66 h65; exact kR (zS dE (zA (zN (xm (s6.1 == 35) (smh h65)))))
  intro s61 hx; obtain rfl : s61 = z63 := hx.symm; replace h52 := hz64; refine zC (fun hb67 => ?_) (fun hb67 => ?_)
  ·replace h52 := ct hb67 h52; refine kR (zI ?_); obtain ⟨r68, hc69, h52⟩ := bs h52; refine zO (oq_ (rowL sN 3 1 lI ([] : List Int) :: Item.blk g19 113 (S113 r17.1) :: Item.blk g16 48 [(tI s6.1), (tI s20.1), (tI s28.1), (tI s40.1), tZ, (Ty.own sN)] :: Item.blk g2 48 [tZ, tZ, tZ, tZ, tZ, tN] :: Item.blk g1 27 [(tI a1.Params), (tI a1.Regs), Ty.any] :: L) (c_keep2_Digits_Next (⟨s40.2⟩ : Fullingkeep2Digits) 2 g3 r68 hc69) rfl k_74 rfl (pm 3 rfl (pr _)) (fun _ => ?_)); refine zS (fB 0 u_48 z_46) (zS (fB 4 u_46 z_2) (zB 3 (pq_ (one_i _)) z_2 ?_)); refine zN (xB ?_); refine xI [] (rowL sN 3 1 lI ([] : List Int) :: Item.blk g19 113 (S113 r17.1) :: Item.blk g16 48 [(tI s6.1), (tI s20.1), (tI s28.1), (tI s40.1), (tI r68.1), (Ty.own sN)] :: Item.blk g3 103 [(tI r68.2.N)] :: Item.blk g2 48 [tZ, tZ, tZ, tZ, tZ, tN] :: Item.blk g1 27 [(tI a1.Params), (tI a1.Regs), Ty.any] :: L) (pm 1 rfl (pm 1 rfl (pm 1 rfl (pm 0 rfl (pm 0 rfl (pm 0 rfl (pr _))))))) ?_; exact xm ((([] : List Int), r68.1, r68.2.N), sN) (smh h52)
  replace h52 := cf hb67 h52; refine sr (zS dE (zA (nx ?_))); refine zC (fun hb70 => ?_) (fun hb70 => ?_)
  ·replace h52 := ct hb70 h52; refine sr (zI ?_); obtain ⟨r71, hc72, h52⟩ := bs h52; refine zO (oq_ (rowL sN 3 1 lI ([] : List Int) :: Item.blk g19 113 (S113 r17.1) :: Item.blk g16 48 [(tI s6.1), (tI s20.1), (tI s28.1), (tI s40.1), tZ, (Ty.own sN)] :: Item.blk g2 48 [tZ, tZ, tZ, tZ, tZ, tN] :: Item.blk g1 27 [(tI a1.Params), (tI a1.Regs), Ty.any] :: L) (c_keep2_Digits_Next (⟨s40.2⟩ : Fullingkeep2Digits) 2 g3 r71 hc72) rfl k_74 rfl (pm 3 rfl (pr _)) (fun _ => ?_)); refine zS (fB 0 u_48 z_46) (zS (fB 4 u_46 z_2) (zB 3 (pq_ (one_i _)) z_2 ?_)); refine nsr (zS (fB 0 u_48 z_46) (zS (fB 4 u_46 z_2) (zS (lC a_2 3) (zS dS (zA (nx ?_)))))); obtain ⟨z75, h77, hz76⟩ := bs h52; refine okC_meetE (X := ((Int × (List Int)) × Value)) (fun x => z75 = x.1) (fun x => [(4, (pAt g2 0)), (9, (pAt g16 0))]) (fun x => Item.blk g3 103 [(tI x.1.1)] :: rowL x.2 3 1 lI x.1.2 :: Item.blk g19 113 (S113 r17.1) :: Item.blk g16 48 [(tI s6.1), (tI s20.1), (tI s28.1), (tI s40.1), (tI r71.1), (Ty.own x.2)] :: Item.blk g2 48 [tZ, tZ, tZ, tZ, tZ, tN] :: Item.blk g1 27 [(tI a1.Params), (tI a1.Regs), Ty.any] :: L) ?_ ?_
   ·refine kB ?_; refine okC_loop (X := ((Int × Int × (List Int)) × Value)) (fun k x => keep2_VInstr_l1 K a1 k x.1 = some z75) (fun x => [(3, (pAt g1 0)), (4, (pAt g2 0)), (5, (pAt g3 0)), (9, (pAt g16 0)), (13, (tI x.1.1))]) (fun x => Item.blk g3 103 [(tI x.1.2.1)] :: rowL x.2 3 1 lI x.1.2.2 :: Item.blk g19 113 (S113 r17.1) :: Item.blk g16 48 [(tI s6.1), (tI s20.1), (tI s28.1), (tI s40.1), (tI r71.1), (Ty.own x.2)] :: Item.blk g2 48 [tZ, tZ, tZ, tZ, tZ, tN] :: Item.blk g1 27 [(tI a1.Params), (tI a1.Regs), Ty.any] :: L) K (((w64 (2 - r71.1)), r71.2.N, ([] : List Int)), sN) h77 cva rfl (fun k x hI => ?_); obtain ⟨s78, w79⟩ := x
    cases k with
    | zero => exact (nz hI).elim
    | succ k =>
    have h := (keep2_VInstr_l1.eq_2 ..).symm.trans hI; refine kS (sr (zI (zS dT (nx ?_)))); refine zC (fun hb80 => ?_) (fun hb80 => ?_)
    ·replace h := ct hb80 h; refine kK (xN (kS (kB ?_))); refine okC_cov [(3, (pAt g1 0)), (4, (pAt g2 0)), (5, (pAt g3 0)), (9, (pAt g16 0)), (13, (tI s78.1))] cva ?_; obtain ⟨r81, hc82, h⟩ := bs h; refine drE 7 _ (rowL w79 3 1 lI s78.2.2 :: Item.blk g19 113 (S113 r17.1) :: Item.blk g16 48 [(tI s6.1), (tI s20.1), (tI s28.1), (tI s40.1), (tI r71.1), (Ty.own w79)] :: Item.blk g2 48 [tZ, tZ, tZ, tZ, tZ, tN] :: Item.blk g1 27 [(tI a1.Params), (tI a1.Regs), Ty.any] :: ([] : List Item)) [5] [5, 6] (fun _ h => List.Sublist.subset (.cons _ (.cons_cons _ (.cons_cons _ (.cons_cons _ (.cons_cons _ (.cons_cons _ (List.nil_sublist _))))))) h) (dp (fB 5 u_48 z_31) (dp (lC a_31 2) (dm rfl (dp (fB 1 u_27 z_3) (dp (lC a_3 4) (ds (ds (dn)))))))) ?_; refine ch_step [5] rfl (ap_cons (ch_at _ rfl rfl (oq_ (rowL w79 3 1 lI s78.2.2 :: Item.blk g19 113 (S113 r17.1) :: Item.blk g16 48 [(tI s6.1), (tI s20.1), (tI s28.1), (tI s40.1), (tI r71.1), (Ty.own w79)] :: Item.blk g2 48 [tZ, tZ, tZ, tZ, tZ, tN] :: Item.blk g1 27 [(tI a1.Params), (tI a1.Regs), Ty.any] :: L) (c_keep2_Digits_Next (⟨s78.2.1⟩ : Fullingkeep2Digits) a1.Regs g3 r81 hc82) rfl k_74 rfl (pm 0 rfl (pr _)) (fun _ => ?_))) (ap_nil)); refine ⟨⟨(fun _ h => List.Sublist.subset (.cons _ (.cons_cons _ (.cons_cons _ (.cons_cons _ (.cons_cons _ (.cons_cons _ (List.nil_sublist _))))))) h), .inl rfl⟩, ?_⟩; refine ch_step [6] rfl (ap_cons (ch_at _ rfl rfl (doesO_of (bS (f := lI) ([r81.1] : List Int) [(tI r81.1)] el31 rfl rfl rfl (fc [(tI r81.1)] 0 rfl (pq_ (one_i _)) rfl rfl (fn_ rfl)) rfl (fun _ => rfl)) ?_)) (ap_nil)); refine ⟨⟨(fun _ h => List.Sublist.subset (.cons _ (.cons_cons _ (.cons_cons _ (.cons_cons _ (.cons_cons _ (.cons_cons _ (List.nil_sublist _))))))) h), .inl rfl⟩, ?_⟩; refine ch_end ?_; obtain ⟨l83, ha84, h⟩ := bs h; refine zF 1 el31 ha84 (fun v85 => sl ?_); refine zS (fB 5 u_48 z_31) (zB 3 (pq_ (one_own _)) z_31 ?_); exact zN (xB (xN (kR (zI (zS dS (zA (zN (xa (((w64 (s78.1 - 1)), r81.2.N, l83), v85) h))))))))
    replace h := cf hb80 h; exact kE (xT (xE (xH (xm ((s78.2.1, s78.2.2), w79) (smh h)))))
   intro x hx; obtain ⟨s73, w74⟩ := x; obtain rfl : s73 = z75 := hx.symm; replace h52 := hz76; refine xB ?_; refine xI [] (rowL w74 3 1 lI s73.2 :: Item.blk g19 113 (S113 r17.1) :: Item.blk g16 48 [(tI s6.1), (tI s20.1), (tI s28.1), (tI s40.1), (tI r71.1), (Ty.own w74)] :: Item.blk g3 103 [(tI s73.1)] :: Item.blk g2 48 [tZ, tZ, tZ, tZ, tZ, tN] :: Item.blk g1 27 [(tI a1.Params), (tI a1.Regs), Ty.any] :: L) (pm 1 rfl (pm 1 rfl (pm 1 rfl (pm 0 rfl (pm 0 rfl (pm 0 rfl (pr _))))))) ?_; exact xm ((s73.2, r71.1, s73.1), w74) (smh h52)
  replace h52 := cf hb70 h52; exact kK (xB (xm ((([] : List Int), 0, s40.2), sN) (smh h52)))
 intro x hx; obtain ⟨s48, w49⟩ := x; obtain rfl : s48 = z50 := hx.symm; replace h := hz51; refine sr ?_; refine okL_publishB 5 [] [(tI s6.1), (tI s20.1), (tI s28.1), (tI s40.1), (tI s48.2.1), (tL 1 lI s48.1)] (pm 0 rfl (pm 1 rfl (pr _))) rfl an rfl ?_; refine zS (lA [(tI s6.1), (tI s20.1), (tI s28.1), (tI s40.1), (tI s48.2.1), (tL 1 lI s48.1)] a_48 z_48 rfl 0 rfl rfl rfl) ?_; refine zB 3 (pA _) z_48 ?_; refine nx (kT ?_); obtain rfl := (smh h).symm; exact okX_retC () Tryd.results57 rfl 3 rfl a_48 z_48 rfl rfl [Item.blk g16 48 [(tI s6.1), (tI s20.1), (tI s28.1), (tI s40.1), (tI s48.2.1), (tL 1 lI s48.1)], Item.blk g19 113 (S113 r17.1), Item.blk g3 103 [(tI s48.2.2)], Item.blk g2 48 [(tI s6.1), (tI s20.1), (tI s28.1), (tI s40.1), (tI s48.2.1), (tL 1 lI s48.1)], Item.blk g1 27 [(tI a1.Params), (tI a1.Regs), Ty.any]] (pm 0 rfl (pm 0 rfl (pm 0 rfl (pm 0 rfl (pm 0 rfl (pr _))))))
def keep2_VFunc_l1 (K : Nat) (a1 : Int) : Nat → (Int × Int) → Option Int
 | 0, _ => none
 | k + 1, s8 => (cnd (decide (s8.1 < a1)) (keep2_VFunc_l1 K a1 k ((w64 (s8.1 + 1)), (w64 (s8.2 + 1)))) (some s8.2))
def keep2_VFunc_l2 (K : Nat) (a1 : Int) (s3 : Int) : Nat → (Int × (List VInstr)) → Option (List VInstr)
 | 0, _ => none
 | k + 1, s17 => (cnd (decide (s17.1 < s3)) (Option.bind (cnd (decide (s17.1 < a1)) (some 38) (some 13)) (fun s21 => (Option.bind (app 64 s17.2 ([(⟨(⟨s21, s17.1, 0, 0, s17.1⟩ : Instr), []⟩ : VInstr)] : List VInstr)) (fun l27 => (keep2_VFunc_l2 K a1 s3 k ((w64 (s17.1 + 1)), l27)))))) (some s17.2))
def keep2_VFunc_l4 (K : Nat) (a0 : (List Int)) (a1 : Int) (s3 : Int) (s38 : (Int × (List Block))) : Nat → (Int × (List VInstr)) → Option (List VInstr)
 | 0, _ => none
 | k + 1, s47 => (cnd ((decide (s47.1 < 5)) && (decide ((w64 ((w64 (6 * s38.1)) + s47.1)) < ((a0).length : Int)))) (Option.bind (idx a0 (w64 ((w64 (6 * s38.1)) + s47.1))) (fun y51 => (Option.bind (keep2_VInstr K y51 (⟨a1, s3, []⟩ : VFunc)) (fun r53 => (Option.bind (app 64 s47.2 ([r53] : List VInstr)) (fun l55 => (keep2_VFunc_l4 K a0 a1 s3 s38 k ((w64 (s47.1 + 1)), l55)))))))) (some s47.2))
def keep2_VFunc_l3 (K : Nat) (a0 : (List Int)) (a1 : Int) (s3 : Int) : Nat → (Int × (List Block)) → Option (List Block)
 | 0, _ => none
 | k + 1, s38 => (cnd (decide (s38.1 < (w64 (1 + (if 5 < (w64 (Int.tdiv ((a0).length : Int) 6)) then 5 else (w64 (Int.tdiv ((a0).length : Int) 6))))))) (Option.bind (keep2_VFunc_l4 K a0 a1 s3 s38 K (0, ([] : List VInstr))) (fun s42 => (Option.bind (cnd (decide ((w64 ((w64 (6 * s38.1)) + 5)) < ((a0).length : Int))) (Option.bind (idx a0 (w64 ((w64 (6 * s38.1)) + 5))) (fun y65 => (some y65))) (some 0)) (fun s59 => (Option.bind (Option.bind (keep2_Digits_Next (⟨s59⟩ : Fullingkeep2Digits) 6) (fun r73 => (cnd (r73.1 == 0) (Option.bind (keep2_Digits_Next r73.2 (w64 (1 + (if 5 < (w64 (Int.tdiv ((a0).length : Int) 6)) then 5 else (w64 (Int.tdiv ((a0).length : Int) 6)))))) (fun r76 => (some (r76.2.N, 1, 0, (w64 (1 + r76.1)), 0)))) (cnd (r73.1 == 1) (Option.bind (keep2_Digits_Next r73.2 9) (fun r79 => (some (r79.2.N, 4, 0, (w64 (1 + r79.1)), 0)))) (cnd (r73.1 == 2) (Option.bind (keep2_Digits_Next r73.2 s3) (fun r82 => (some (r82.2.N, 3, r82.1, 0, 0)))) (Option.bind (keep2_Digits_Next r73.2 s3) (fun r84 => (Option.bind (keep2_Digits_Next r84.2 (w64 (1 + (if 5 < (w64 (Int.tdiv ((a0).length : Int) 6)) then 5 else (w64 (Int.tdiv ((a0).length : Int) 6)))))) (fun r86 => (Option.bind (keep2_Digits_Next r86.2 (w64 (1 + (if 5 < (w64 (Int.tdiv ((a0).length : Int) 6)) then 5 else (w64 (Int.tdiv ((a0).length : Int) 6)))))) (fun r88 => (some (r88.2.N, 2, r84.1, (w64 (1 + r86.1)), (w64 (1 + r88.1))))))))))))))) (fun s68 => (Option.bind (cnd ((s38.1 == (w64 ((w64 (1 + (if 5 < (w64 (Int.tdiv ((a0).length : Int) 6)) then 5 else (w64 (Int.tdiv ((a0).length : Int) 6))))) - 1))) && (s68.2.1 == 1)) (some (3, 0, 0)) (some (s68.2.1, s68.2.2.1, s68.2.2.2.1))) (fun s90 => (Option.bind (app 56 s38.2 ([(⟨s42, s90.1, s90.2.1, s90.2.2, s68.2.2.2.2⟩ : Block)] : List Block)) (fun l98 => (keep2_VFunc_l3 K a0 a1 s3 k ((w64 (s38.1 + 1)), l98)))))))))))) (some s38.2))
def keep2_VFunc (K : Nat) (a0 : (List Int)) (a1 : Int) : Option VFunc :=
 (Option.bind (keep2_VFunc_l1 K a1 K (0, 9)) (fun s3 => (Option.bind (keep2_VFunc_l2 K a1 s3 K (0, ([] : List VInstr))) (fun s12 => (Option.bind (app 56 [] ([(⟨s12, 1, 0, 1, 0⟩ : Block)] : List Block)) (fun l30 => (Option.bind (keep2_VFunc_l3 K a0 a1 s3 K (0, l30)) (fun s33 => (some (⟨a1, s3, s33⟩ : VFunc))))))))))
end Go.Proofs.YtocfnpnnbmicmaaDoor.Tc
end
