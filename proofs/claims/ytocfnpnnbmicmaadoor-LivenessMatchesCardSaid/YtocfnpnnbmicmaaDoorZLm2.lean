/- The program's structs; what is shared by the printed derivations; for each Go function a pure Lean function, and that the Go code comes to what it says (written by gen.py). -/
import Derived.Test.YtocfnpnnbmicmaaDoorProg
import Derived.Test.YtocfnpnnbmicmaaDoorRows
import Derived.OpenShut
import Derived.Lib.LaidTab
import Derived.Test.YtocfnpnnbmicmaaDoorZLm1
section
set_option linter.unusedVariables false
namespace Go.Proofs.YtocfnpnnbmicmaaDoor.Tc
open Go Go.RowKit
structure Instr where
 Op : Int
 A : Int
 B : Int
 C : Int
 N : Int
deriving DecidableEq, Inhabited
def Instr.ty (x : Instr) : List Ty := [(tI x.Op), (tI x.A), (tI x.B), (tI x.C), (tI x.N)]
structure VInstr where
 Instr : Instr
 Args : (List Int)
deriving DecidableEq, Inhabited
def VInstr.ty (x : VInstr) : List Ty := [(tI x.Instr.Op), (tI x.Instr.A), (tI x.Instr.B), (tI x.Instr.C), (tI x.Instr.N), (tL 1 lI x.Args)]
structure Block where
 Instrs : (List VInstr)
 End : Int
 Reg : Int
 Target : Int
 Else : Int
deriving DecidableEq, Inhabited
def Block.ty (x : Block) : List Ty := [(tL 6 VInstr.ty x.Instrs), (tI x.End), (tI x.Reg), (tI x.Target), (tI x.Else)]
structure VFunc where
 Params : Int
 Regs : Int
 Blocks : (List Block)
deriving DecidableEq, Inhabited
def VFunc.ty (x : VFunc) : List Ty := [(tI x.Params), (tI x.Regs), (tL 5 Block.ty x.Blocks)]
structure Outcome where
 Kind : Int
 Code : Int
 Out : (List Int)
 Value : Int
deriving DecidableEq, Inhabited
def Outcome.ty (x : Outcome) : List Ty := [(tI x.Kind), (tI x.Code), (tL 1 lI x.Out), (tI x.Value)]
structure Location where
 InSlot : Bool
 Index : Int
deriving DecidableEq, Inhabited
def Location.ty (x : Location) : List Ty := [(tB x.InSlot), (tI x.Index)]
structure Spill where
 Reg : Int
 Reason : Int
 Block : Int
 Index : Int
 Others : (List Int)
deriving DecidableEq, Inhabited
def Spill.ty (x : Spill) : List Ty := [(tI x.Reg), (tI x.Reason), (tI x.Block), (tI x.Index), (tL 1 lI x.Others)]
structure Allocation where
 Locations : (List Location)
 Spills : (List Spill)
 Slots : Int
deriving DecidableEq, Inhabited
def Allocation.ty (x : Allocation) : List Ty := [(tL 2 Location.ty x.Locations), (tL 5 Spill.ty x.Spills), (tI x.Slots)]
structure OpInfo where
 Name : ByteArray
 Form : Int
 ReadsA : Bool
 WritesA : Bool
 ReadsB : Bool
 MayTrap : Bool
 Words : Int
deriving DecidableEq, Inhabited
def OpInfo.ty (x : OpInfo) : List Ty := [(tS x.Name), (tI x.Form), (tB x.ReadsA), (tB x.WritesA), (tB x.ReadsB), (tB x.MayTrap), (tI x.Words)]
structure RegallocPoint where
 block : Int
 index : Int
deriving DecidableEq, Inhabited
def RegallocPoint.ty (x : RegallocPoint) : List Ty := [(tI x.block), (tI x.index)]
structure Fullingkeep2Digits where
 N : Int
deriving DecidableEq, Inhabited
def Fullingkeep2Digits.ty (x : Fullingkeep2Digits) : List Ty := [(tI x.N)]
def ls_SSI (l : List (List Int)) : List Ty := [(tL 1 lIs l)]
structure RegallocAllocator where
 c : VFunc
 at_ : (List (List (List Int)))
 spilled : (List Bool)
 a : Allocation
deriving DecidableEq, Inhabited
def RegallocAllocator.ty (x : RegallocAllocator) : List Ty := [(tI x.c.Params), (tI x.c.Regs), (tL 5 Block.ty x.c.Blocks), (tL 1 ls_SSI x.at_), (tL 1 lB x.spilled), (tL 2 Location.ty x.a.Locations), (tL 5 Spill.ty x.a.Spills), (tI x.a.Slots)]
structure Fullingref32Allocator where
 C : VFunc
 Spilled : (List Bool)
 Spills : (List Spill)
 Weight : (List Int)
deriving DecidableEq, Inhabited
def Fullingref32Allocator.ty (x : Fullingref32Allocator) : List Ty := [(tI x.C.Params), (tI x.C.Regs), (tL 5 Block.ty x.C.Blocks), (tL 1 lB x.Spilled), (tL 5 Spill.ty x.Spills), (tL 1 lI x.Weight)]
structure Fullingref32Interpreter where
 L : (List VFunc)
 Cells : (List (List Int))
 Fuel : Int
 Most : Int
 Out : (List Int)
 End : Outcome
 Over : Bool
 Long : Bool
deriving DecidableEq, Inhabited
def Fullingref32Interpreter.ty (x : Fullingref32Interpreter) : List Ty := [(tL 3 VFunc.ty x.L), (tL 1 lIs x.Cells), (tI x.Fuel), (tI x.Most), (tL 1 lI x.Out), (tI x.End.Kind), (tI x.End.Code), (tL 1 lI x.End.Out), (tI x.End.Value), (tB x.Over), (tB x.Long)]
def ls_SU (l : List Int) : List Ty := [(tL 1 lU l)]
theorem el22 : ElTy Tryd.prog 22 31 (.slice none 0 0) 1 24 := ElTy.mk' Tryd.underlying22 (by kernel_rfl) rfl (by decide)
theorem el25 : ElTy Tryd.prog 25 43 (.agg #[(.slice none 0 0), (.int .i64 0), (.int .i64 0), (.int .i64 0), (.int .i64 0)]) 5 56 := ElTy.mk' Tryd.underlying25 (by kernel_rfl) rfl (by decide)
theorem el31 : ElTy Tryd.prog 31 3 (.int .i64 0) 1 8 := ElTy.mk' Tryd.underlying31 (by kernel_rfl) rfl (by decide)
theorem el38 : ElTy Tryd.prog 38 27 (.agg #[(.int .i64 0), (.int .i64 0), (.slice none 0 0)]) 3 40 := ElTy.mk' Tryd.underlying38 (by kernel_rfl) rfl (by decide)
theorem el41 : ElTy Tryd.prog 41 48 (.agg #[(.int .i64 0), (.int .i64 0), (.int .i64 0), (.int .i64 0), (.int .i64 0), (.slice none 0 0)]) 6 64 := ElTy.mk' Tryd.underlying41 (by kernel_rfl) rfl (by decide)
theorem el53 : ElTy Tryd.prog 53 2 (.int .i64 0) 1 8 := ElTy.mk' Tryd.underlying53 (by kernel_rfl) rfl (by decide)
theorem el89 : ElTy Tryd.prog 89 93 (.slice none 0 0) 1 24 := ElTy.mk' Tryd.underlying89 (by kernel_rfl) rfl (by decide)
theorem el93 : ElTy Tryd.prog 93 137 (.int .u64 0) 1 8 := ElTy.mk' Tryd.underlying93 (by kernel_rfl) rfl (by decide)
theorem el156 : ElTy Tryd.prog 156 9 (.string ⟨#[]⟩) 1 16 := ElTy.mk' Tryd.underlying156 (by kernel_rfl) rfl (by decide)
theorem places46 (fs : Array Field) (h : Tryd.prog.underlying 46 = some (.struct fs)) : fs.toList.mapM (fun f => (Tryd.prog.info? f.type).map fun i => (f.offset, i.size)) = some [(0, 1), (1, 1), (2, 1), (3, 1), (4, 1)] := by rw [Tryd.underlying46] at h; cases h; kernel_rfl
theorem places48 (fs : Array Field) (h : Tryd.prog.underlying 48 = some (.struct fs)) : fs.toList.mapM (fun f => (Tryd.prog.info? f.type).map fun i => (f.offset, i.size)) = some [(0, 5), (5, 1)] := by rw [Tryd.underlying48] at h; cases h; kernel_rfl
theorem places43 (fs : Array Field) (h : Tryd.prog.underlying 43 = some (.struct fs)) : fs.toList.mapM (fun f => (Tryd.prog.info? f.type).map fun i => (f.offset, i.size)) = some [(0, 1), (1, 1), (2, 1), (3, 1), (4, 1)] := by rw [Tryd.underlying43] at h; cases h; kernel_rfl
theorem places27 (fs : Array Field) (h : Tryd.prog.underlying 27 = some (.struct fs)) : fs.toList.mapM (fun f => (Tryd.prog.info? f.type).map fun i => (f.offset, i.size)) = some [(0, 1), (1, 1), (2, 1)] := by rw [Tryd.underlying27] at h; cases h; kernel_rfl
theorem places113 (fs : Array Field) (h : Tryd.prog.underlying 113 = some (.struct fs)) : fs.toList.mapM (fun f => (Tryd.prog.info? f.type).map fun i => (f.offset, i.size)) = some [(0, 1), (1, 1), (2, 1), (3, 1), (4, 1), (5, 1), (6, 1)] := by rw [Tryd.underlying113] at h; cases h; kernel_rfl
theorem places103 (fs : Array Field) (h : Tryd.prog.underlying 103 = some (.struct fs)) : fs.toList.mapM (fun f => (Tryd.prog.info? f.type).map fun i => (f.offset, i.size)) = some [(0, 1)] := by rw [Tryd.underlying103] at h; cases h; kernel_rfl
theorem mixed : Tryd.prog.follows .mixedOrders = true := by kernel_rfl
@[irreducible] def tableL : List OpInfo := [⟨⟨#[110, 111, 112]⟩, 1, false, false, false, false, 1⟩,
 ⟨⟨#[114, 101, 116]⟩, 1, false, false, false, false, 1⟩,
 ⟨⟨#[116, 105, 99, 107]⟩, 1, false, false, false, false, 1⟩,
 ⟨⟨#[116, 114, 97, 112]⟩, 8, false, false, false, true, 1⟩,
 ⟨⟨#[106, 109, 112]⟩, 8, false, false, false, false, 1⟩,
 ⟨⟨#[99, 97, 108, 108]⟩, 5, false, false, false, false, 1⟩,
 ⟨⟨#[106, 122]⟩, 5, true, false, false, false, 1⟩,
 ⟨⟨#[106, 110, 122]⟩, 5, true, false, false, false, 1⟩,
 ⟨⟨#[111, 117, 116]⟩, 2, true, false, false, false, 1⟩,
 ⟨⟨#[109, 111, 118]⟩, 3, false, true, true, false, 1⟩,
 ⟨⟨#[99, 109, 111, 118, 122]⟩, 4, true, true, true, false, 1⟩,
 ⟨⟨#[99, 109, 111, 118, 110, 122]⟩, 4, true, true, true, false, 1⟩,
 ⟨⟨#[108, 100, 105]⟩, 5, false, true, false, false, 1⟩,
 ⟨⟨#[108, 100, 99]⟩, 6, false, true, false, false, 3⟩,
 ⟨⟨#[110, 101, 103]⟩, 2, true, true, false, false, 1⟩,
 ⟨⟨#[110, 111, 116]⟩, 2, true, true, false, false, 1⟩,
 ⟨⟨#[97, 100, 100]⟩, 3, true, true, true, false, 1⟩,
 ⟨⟨#[115, 117, 98]⟩, 3, true, true, true, false, 1⟩,
 ⟨⟨#[109, 117, 108]⟩, 3, true, true, true, false, 1⟩,
 ⟨⟨#[100, 105, 118]⟩, 3, true, true, true, true, 1⟩,
 ⟨⟨#[114, 101, 109]⟩, 3, true, true, true, true, 1⟩,
 ⟨⟨#[97, 110, 100]⟩, 3, true, true, true, false, 1⟩,
 ⟨⟨#[111, 114]⟩, 3, true, true, true, false, 1⟩,
 ⟨⟨#[120, 111, 114]⟩, 3, true, true, true, false, 1⟩,
 ⟨⟨#[115, 104, 108]⟩, 3, true, true, true, false, 1⟩,
 ⟨⟨#[115, 104, 114]⟩, 3, true, true, true, false, 1⟩,
 ⟨⟨#[115, 97, 114]⟩, 3, true, true, true, false, 1⟩,
 ⟨⟨#[101, 113]⟩, 3, true, true, true, false, 1⟩,
 ⟨⟨#[110, 101]⟩, 3, true, true, true, false, 1⟩,
 ⟨⟨#[108, 116]⟩, 3, true, true, true, false, 1⟩,
 ⟨⟨#[108, 101]⟩, 3, true, true, true, false, 1⟩,
 ⟨⟨#[108, 116, 117]⟩, 3, true, true, true, false, 1⟩,
 ⟨⟨#[97, 100, 100, 105]⟩, 5, true, true, false, false, 1⟩,
 ⟨⟨#[108, 100]⟩, 7, false, true, true, true, 1⟩,
 ⟨⟨#[115, 116]⟩, 7, true, false, true, true, 1⟩,
 ⟨⟨#[108, 100, 115]⟩, 5, false, true, false, false, 1⟩,
 ⟨⟨#[115, 116, 115]⟩, 5, true, false, false, false, 1⟩]
def glob : Gl := [(0, tL 7 OpInfo.ty tableL)]
end Go.Proofs.YtocfnpnnbmicmaaDoor.Tc
end
section
set_option linter.unusedVariables false
set_option linter.unusedSimpArgs false
namespace Go.Proofs.YtocfnpnnbmicmaaDoor.Tc
open Go Go.RowKit Go.ChangeShapes
section
variable {H : Type} {enc : TypeId × Value → H} {P : Program} {w : World} {base : Nat} {sp : Nat → Bool} {held : Bool}
theorem int_of_trod {fuel : Nat} {t : TypeId} {cs : List Value} {k : IntKind} {n : Int} {p : List MemPlace} (ht : P.underlying t = some (.int k)) (h : DataW.trod enc P w base sp held fuel t cs = some (.lit (.int k n), p)) : cs = [.int k n] := by
 cases fuel with
 | zero => simp [DataW.trod] at h
 | succ fuel =>
  unfold DataW.trod at h
  rw [ht] at h
  split at h <;> simp_all
theorem bool_of_trod {fuel : Nat} {t : TypeId} {cs : List Value} {b : Bool} {p : List MemPlace} (ht : P.underlying t = some .bool) (h : DataW.trod enc P w base sp held fuel t cs = some (.lit (.bool b), p)) : cs = [.bool b] := by
 cases fuel with
 | zero => simp [DataW.trod] at h
 | succ fuel =>
  unfold DataW.trod at h
  rw [ht] at h
  split at h <;> simp_all
theorem str_of_trod {fuel : Nat} {t : TypeId} {cs : List Value} {s : ByteArray} {p : List MemPlace} (ht : P.underlying t = some .string) (h : DataW.trod enc P w base sp held fuel t cs = some (.lit (.string s.data.toList), p)) : cs = [.string s] := by
 cases fuel with
 | zero => simp [DataW.trod] at h
 | succ fuel =>
  unfold DataW.trod at h
  rw [ht] at h
  split at h
  all_goals first
   | (simp_all; done)
   | skip
  rename_i s' heq
  split at h
  ·simp only [Option.some.injEq, Prod.mk.injEq, DataW.lit.injEq, Lit.string.injEq] at h
   rw [ByteArray.ext (Array.ext' h.1)]
  ·cases h
end
def opData {H : Type} (x : OpInfo) : DataW H := .agg [.lit (.string x.Name.data.toList), .lit (.int .i64 x.Form), .lit (.bool x.ReadsA), .lit (.bool x.WritesA), .lit (.bool x.ReadsB), .lit (.bool x.MayTrap), .lit (.int .i64 x.Words)]
def opCells (x : OpInfo) : List Value := [.string x.Name, .int .i64 x.Form, .bool x.ReadsA, .bool x.WritesA, .bool x.ReadsB, .bool x.MayTrap, .int .i64 x.Words]
theorem cells3 : Tryd.prog.cellsOf 3 = 1 := by kernel_rfl
theorem cells4 : Tryd.prog.cellsOf 4 = 1 := by kernel_rfl
theorem cells9 : Tryd.prog.cellsOf 9 = 1 := by kernel_rfl
theorem cells113 : Tryd.prog.cellsOf 113 = 7 := by kernel_rfl
theorem gTab : Tryd.prog.globalNamed "fulling/machine.table" = some 0 := by kernel_rfl
theorem gTabType : (Tryd.prog.globals[0]?).map (·.type) = some 162 := by kernel_rfl
theorem list7 {α : Type} {l : List α} (h : l.length = 7) : ∃ a b c d e f g, l = [a, b, c, d, e, f, g] := by
 match l, h with
 | [a, b, c, d, e, f, g], _ => exact ⟨a, b, c, d, e, f, g, rfl⟩
section
variable {H : Type} {enc : TypeId × Value → H} {w : World} {base : Nat} {sp : Nat → Bool} {held : Bool}
theorem op_cells {fuel : Nat} {cs : List Value} {x : OpInfo} {p : List MemPlace} (h : DataW.trod enc Tryd.prog w base sp held fuel 113 cs = some (opData x, p)) : cs = opCells x := by
 obtain ⟨xs, n, _, hx, hl, hxl, hf⟩ := DataW.trod_struct Tryd.underlying113 h
 rw [cells113] at hl
 obtain ⟨c0, c1, c2, c3, c4, c5, c6, rfl⟩ := list7 hl
 obtain ⟨y0, y1, y2, y3, y4, y5, y6, rfl⟩ := list7 (by simpa using hxl)
 simp only [opData, Prod.mk.injEq, DataW.agg.injEq, List.map_cons, List.map_nil, List.cons.injEq, and_true] at hx
 obtain ⟨⟨e0, e1, e2, e3, e4, e5, e6⟩, _⟩ := hx
 have f0 : DataW.trod enc Tryd.prog w base sp held n 9 (([c0, c1, c2, c3, c4, c5, c6].drop 0).take (Tryd.prog.cellsOf 9)) = [y0, y1, y2, y3, y4, y5, y6][0]? := hf 0 _ rfl
 have f1 : DataW.trod enc Tryd.prog w base sp held n 3 (([c0, c1, c2, c3, c4, c5, c6].drop 1).take (Tryd.prog.cellsOf 3)) = [y0, y1, y2, y3, y4, y5, y6][1]? := hf 1 _ rfl
 have f2 : DataW.trod enc Tryd.prog w base sp held n 4 (([c0, c1, c2, c3, c4, c5, c6].drop 2).take (Tryd.prog.cellsOf 4)) = [y0, y1, y2, y3, y4, y5, y6][2]? := hf 2 _ rfl
 have f3 : DataW.trod enc Tryd.prog w base sp held n 4 (([c0, c1, c2, c3, c4, c5, c6].drop 3).take (Tryd.prog.cellsOf 4)) = [y0, y1, y2, y3, y4, y5, y6][3]? := hf 3 _ rfl
 have f4 : DataW.trod enc Tryd.prog w base sp held n 4 (([c0, c1, c2, c3, c4, c5, c6].drop 4).take (Tryd.prog.cellsOf 4)) = [y0, y1, y2, y3, y4, y5, y6][4]? := hf 4 _ rfl
 have f5 : DataW.trod enc Tryd.prog w base sp held n 4 (([c0, c1, c2, c3, c4, c5, c6].drop 5).take (Tryd.prog.cellsOf 4)) = [y0, y1, y2, y3, y4, y5, y6][5]? := hf 5 _ rfl
 have f6 : DataW.trod enc Tryd.prog w base sp held n 3 (([c0, c1, c2, c3, c4, c5, c6].drop 6).take (Tryd.prog.cellsOf 3)) = [y0, y1, y2, y3, y4, y5, y6][6]? := hf 6 _ rfl
 simp only [cells3, cells4, cells9, List.drop_zero, List.drop_succ_cons, List.take_succ_cons, List.take_zero, List.getElem?_cons_zero, List.getElem?_cons_succ] at f0 f1 f2 f3 f4 f5 f6
 have g0 := str_of_trod (p := y0.2) Tryd.underlying9 (f0.trans (by rw [e0]))
 have g1 := int_of_trod (p := y1.2) Tryd.underlying3 (f1.trans (by rw [e1]))
 have g2 := bool_of_trod (p := y2.2) Tryd.underlying4 (f2.trans (by rw [e2]))
 have g3 := bool_of_trod (p := y3.2) Tryd.underlying4 (f3.trans (by rw [e3]))
 have g4 := bool_of_trod (p := y4.2) Tryd.underlying4 (f4.trans (by rw [e4]))
 have g5 := bool_of_trod (p := y5.2) Tryd.underlying4 (f5.trans (by rw [e5]))
 have g6 := int_of_trod (p := y6.2) Tryd.underlying3 (f6.trans (by rw [e6]))
 simp only [List.cons.injEq, and_true] at g0 g1 g2 g3 g4 g5 g6
 rw [g0, g1, g2, g3, g4, g5, g6]; rfl
theorem op_arr (M : Fb) (w : World) (x : OpInfo) (j : Nat) (t : Ty) (h : (OpInfo.ty x)[j]? = some t) : ∃ v, (opCells x)[j]? = some v ∧ v.oneCell' = true ∧ t.holds M w v := by
 match j with
 | 0 => cases h; exact ⟨_, rfl, rfl, rfl⟩
 | 1 => cases h; exact ⟨_, rfl, rfl, rfl⟩
 | 2 => cases h; exact ⟨_, rfl, rfl, rfl⟩
 | 3 => cases h; exact ⟨_, rfl, rfl, rfl⟩
 | 4 => cases h; exact ⟨_, rfl, rfl, rfl⟩
 | 5 => cases h; exact ⟨_, rfl, rfl, rfl⟩
 | 6 => cases h; exact ⟨_, rfl, rfl, rfl⟩
 | j + 7 => simp [OpInfo.ty] at h
end
theorem laid_is : Rows.laid_fulling_machine_table (H := Unit) = .slice (tableL.map opData) [] := by kernel_rfl
theorem table_holds {W : World} (h : laidMetH Tryd.prog [("fulling/machine.table", Rows.laid_fulling_machine_table)] W) : Holds glob [] W := by
 have h1 : laidMet Tryd.prog [("fulling/machine.table", Rows.laid_fulling_machine_table)] W := h
 obtain ⟨ps, ⟨g, t, cs, fuel, p, q, hg, ht, hv, htr, _, _⟩, _, _⟩ := h1
 obtain rfl : g = 0 := (Option.some.inj (gTab.symm.trans hg)).symm
 obtain rfl : t = 162 := (Option.some.inj (gTabType.symm.trans ht)).symm
 rw [laid_is] at htr
 rcases DataW.trod_slice Tryd.underlying162 htr with ⟨_, hx⟩ | ⟨a, len, cap, elems, rest, n, _, hcs, hx, _, hl, hm, hlen, hel, _⟩
 ·cases hx
 simp only [Prod.mk.injEq, DataW.slice.injEq] at hx
 obtain ⟨⟨he, _⟩, _⟩ := hx
 have hll : tableL.length = len := by rw [← hlen]; simpa using congrArg List.length he
 have hcell : W.cell? ⟨0, 0, none⟩ = some (.slice (some a) len cap) := by
  have := World.var?_cell gTab hv 0
  rw [this]
  have : cs[0]? = cs.toList[0]? := by simp
  rw [this, hcs]; rfl
 refine ⟨fun it hi => (by cases hi), .nil, fun g t hgt => ?_⟩
 simp only [glob, List.mem_singleton, Prod.mk.injEq] at hgt
 obtain ⟨rfl, rfl⟩ := hgt
 intro j T hT
 match j with
 | j + 1 => simp at hT
 | 0 =>
  cases hT
  refine ⟨foot_nil _, _, by rw [add_zero]; exact hcell, rfl, some a, cap, by simp [hll], by simpa [hll] using hl, fun i es hi => ?_⟩
  simp only [List.getElem?_map, Option.map_eq_some_iff] at hi
  obtain ⟨x, hx, rfl⟩ := hi
  have hil : i < len := by rw [← hll]; exact (List.getElem?_eq_some_iff.1 hx).1
  have hE := hel i hil
  rw [cells113] at hE
  have hy : (elems.map (·.1))[i]? = some (opData x) := by rw [← he]; simp [hx]
  rw [List.getElem?_map] at hy
  obtain ⟨y, hy1, hy2⟩ := Option.map_eq_some_iff.1 hy
  rw [hy1] at hE
  obtain ⟨c, hc1, hc2⟩ := Option.bind_eq_some_iff.1 hE
  obtain ⟨_, hc3, hc4⟩ := World.cells?_some hc1
  have hcc : c = opCells x := op_cells (p := y.2) (by rw [hc2, ← hy2])
  refine ⟨rfl, a, rfl, fun j T hT => ⟨foot_nil _, ?_⟩⟩
  obtain ⟨v, hv1, hv2, hv3⟩ := op_arr (foot []) W x j T hT
  have hj : j < 7 := (List.getElem?_eq_some_iff.1 hv1).1
  exact ⟨v, by rw [hc4 j hj, hcc]; exact hv1, hv2, hv3⟩
theorem kept_of_le {W W' : World} (h : Le (foot ([] ++ [])) W (foot ([] ++ [])) W') (may : MemPlace → Prop) : W.keptBut W' may := by
 have hb : ∀ b, b < W.heap.size → W'.heap[b]? = W.heap[b]? := fun b hb => (h.block b hb (foot_nil b)).2
 refine ⟨h.os, h.output, fun i hi => ?_⟩
 rw [hb i hi]
 split <;> simp_all
theorem frozen_of_le {W W' : World} (h : Le (foot ([] ++ [])) W (foot ([] ++ [])) W') (b o : Nat) (hb : b < W.heap.size) : W'.frozen? ⟨b, o, none⟩ = W.frozen? ⟨b, o, none⟩ := by
 simp only [World.frozen?, (h.block b hb (foot_nil b)).2]
section
variable {H : Type} {enc : TypeId × Value → H} {P : Program}
theorem post_kept {f : Func} {s : ChangeSpec} {apart fresh handsOn again : Bool} {W W' : World} {args : Array Value} {v : Value} {ds gs : List (DataW H)} {before pa pv : List MemPlace}
  (hW : DataW.Whole enc P f.params.toList s.vars apart W args.toList ds gs before)
  (hres : ∀ (b : Nat) (sp : Nat → Bool) (hd : Bool), DataW.TrodAll enc P W' b sp hd f.resultTypes.toList (v.resultList f.resultTypes.size) (s.fn H (ds ++ gs)).results [])
  (hargs : ∀ sp : Nat → Bool, (∀ p ∈ before, sp p.block = true) → DataW.TrodAll enc P W' 0 sp true f.params.toList args.toList (s.fn H (ds ++ gs)).args pa)
  (hvars : ∀ sp : Nat → Bool, (∀ p ∈ before, sp p.block = true) → DataW.TrodVars enc P W' sp s.vars (s.fn H (ds ++ gs)).vars pv)
  (hps : before = pa ++ pv) (hle : Le (foot ([] ++ [])) W (foot ([] ++ [])) W')
  (hok : ∀ (j : Nat) (t : TypeId) (r : Value), f.resultTypes[j]? = some t → (v.resultList f.resultTypes.size)[j]? = some r → Value.okWide P W' .any 0 t r) :
  s.post enc P f apart fresh handsOn again W args v W' := by
 have hlt : ∀ p, p ∈ before → p.block < W.heap.size := fun p hp => hW.lt p hp
 refine ⟨ds, gs, before, [], pa, pv, hW, hres _ _ _, hargs _ (fun p hp => decide_eq_true (hlt p hp)), hvars _ (fun p hp => decide_eq_true (hlt p hp)), kept_of_le hle _, fun _ => ?_⟩
 obtain ⟨_, _, _, _, _, hz, hn⟩ := hW
 have he : [] ++ pa ++ pv = before := by rw [List.nil_append]; exact hps.symm
 refine ⟨hok, _, _, [] ++ pa ++ pv, ⟨[] ++ pa, pv, trodAll_append (hargs _ (fun _ _ => rfl)) (hres _ _ _), hvars _ (fun _ _ => rfl), rfl, ?_, ?_⟩, ?_⟩
 ·intro b off hp
  rw [he] at hp
  rw [frozen_of_le hle b off (hlt _ hp)]
  exact hz b off hp
 ·intro ha
  rw [he]; exact hn ha
 ·intro p hp _
  rw [he] at hp; exact hp
end
end Go.Proofs.YtocfnpnnbmicmaaDoor.Tc
end
section
namespace Go.Proofs.YtocfnpnnbmicmaaDoor.Tc
open Go
abbrev lA := @does_loadBA
abbrev iR := @does_indexR
abbrev lR := @does_loadR1
abbrev aS := @does_assign
abbrev pT := @does_pick_t
abbrev sR := @doesO_storeR
abbrev oA := @doesO_alloc
abbrev bS := @does_buildSlice
abbrev oP := @doesO_append
abbrev oq_ := @doesO_call0
abbrev oB := @doesO_box
abbrev kB := @okC_block
abbrev zP := @okL_split
abbrev kR := @okC_region
abbrev xN := @okX_next
abbrev kS := @okC_seq
abbrev zN := @okL_nil
abbrev kK := @okC_skip
abbrev xB := @okX_block_normal
abbrev xR := @okX_then_ret
abbrev kT := @okC_ret
abbrev xI := @okX_items
abbrev pA := @part_agg
abbrev pq_ := @part_one
abbrev xq_ := @okX_ret1
abbrev xE := @okX_again_exit
abbrev xT := @okX_then_exit
abbrev kE := @okC_exit
abbrev xH := @okX_block_hit
abbrev dE := @does_eql
abbrev dN := @does_neq
abbrev dL := @does_lss
abbrev dQ := @does_leq
abbrev dT := @does_gtr
abbrev dG := @does_geq
abbrev dA := @does_add
abbrev dS := @does_sub
abbrev dU := @does_mul
abbrev dX := @does_extract
abbrev dO := @does_not
abbrev dM := @does_move
abbrev dK := @does_nilCheck
abbrev dJ := @does_nilCheckR
abbrev u_3 := @Tryd.underlying3
abbrev u_22 := @Tryd.underlying22
abbrev u_25 := @Tryd.underlying25
abbrev u_27 := @Tryd.underlying27
abbrev u_31 := @Tryd.underlying31
abbrev u_38 := @Tryd.underlying38
abbrev u_41 := @Tryd.underlying41
abbrev u_43 := @Tryd.underlying43
abbrev u_46 := @Tryd.underlying46
abbrev u_48 := @Tryd.underlying48
abbrev u_53 := @Tryd.underlying53
abbrev u_89 := @Tryd.underlying89
abbrev u_93 := @Tryd.underlying93
abbrev u_103 := @Tryd.underlying103
abbrev u_113 := @Tryd.underlying113
abbrev u_138 := @Tryd.underlying138
abbrev u_156 := @Tryd.underlying156
abbrev u_162 := @Tryd.underlying162
abbrev z_2 := @Tryd.sizeOf2
abbrev z_3 := @Tryd.sizeOf3
abbrev z_4 := @Tryd.sizeOf4
abbrev z_9 := @Tryd.sizeOf9
abbrev z_25 := @Tryd.sizeOf25
abbrev z_27 := @Tryd.sizeOf27
abbrev z_31 := @Tryd.sizeOf31
abbrev z_41 := @Tryd.sizeOf41
abbrev z_43 := @Tryd.sizeOf43
abbrev z_46 := @Tryd.sizeOf46
abbrev z_48 := @Tryd.sizeOf48
abbrev z_93 := @Tryd.sizeOf93
abbrev z_113 := @Tryd.sizeOf113
abbrev z_137 := @Tryd.sizeOf137
abbrev a_2 := @Tryd.isAgg2
abbrev a_3 := @Tryd.isAgg3
abbrev a_4 := @Tryd.isAgg4
abbrev a_9 := @Tryd.isAgg9
abbrev a_25 := @Tryd.isAgg25
abbrev a_27 := @Tryd.isAgg27
abbrev a_31 := @Tryd.isAgg31
abbrev a_41 := @Tryd.isAgg41
abbrev a_43 := @Tryd.isAgg43
abbrev a_46 := @Tryd.isAgg46
abbrev a_48 := @Tryd.isAgg48
abbrev a_93 := @Tryd.isAgg93
abbrev a_113 := @Tryd.isAgg113
abbrev a_137 := @Tryd.isAgg137
abbrev a_162 := @Tryd.isAgg162
abbrev v_27 := @Tryd.zeroValue27
abbrev v_43 := @Tryd.zeroValue43
abbrev v_46 := @Tryd.zeroValue46
abbrev v_48 := @Tryd.zeroValue48
abbrev v_103 := @Tryd.zeroValue103
abbrev v_113 := @Tryd.zeroValue113
abbrev k_3 := @Tryd.call3
abbrev k_22 := @Tryd.call22
abbrev k_23 := @Tryd.call23
abbrev k_24 := @Tryd.call24
abbrev k_25 := @Tryd.call25
abbrev k_26 := @Tryd.call26
abbrev k_27 := @Tryd.call27
abbrev k_28 := @Tryd.call28
abbrev k_29 := @Tryd.call29
abbrev k_30 := @Tryd.call30
abbrev k_31 := @Tryd.call31
abbrev k_32 := @Tryd.call32
abbrev k_33 := @Tryd.call33
abbrev k_34 := @Tryd.call34
abbrev k_35 := @Tryd.call35
abbrev k_36 := @Tryd.call36
abbrev k_37 := @Tryd.call37
abbrev k_38 := @Tryd.call38
abbrev k_40 := @Tryd.call40
abbrev k_57 := @Tryd.call57
abbrev k_63 := @Tryd.call63
abbrev k_64 := @Tryd.call64
abbrev k_65 := @Tryd.call65
abbrev k_66 := @Tryd.call66
abbrev k_67 := @Tryd.call67
abbrev k_68 := @Tryd.call68
abbrev k_69 := @Tryd.call69
abbrev k_70 := @Tryd.call70
abbrev k_71 := @Tryd.call71
abbrev k_72 := @Tryd.call72
abbrev k_73 := @Tryd.call73
abbrev k_74 := @Tryd.call74
abbrev k_75 := @Tryd.call75
abbrev k_76 := @Tryd.call76
abbrev k_77 := @Tryd.call77
abbrev k_78 := @Tryd.call78
abbrev k_79 := @Tryd.call79
abbrev k_80 := @Tryd.call80
abbrev k_81 := @Tryd.call81
abbrev k_82 := @Tryd.call82
abbrev k_95 := @Tryd.call95
abbrev k_96 := @Tryd.call96
abbrev k_98 := @Tryd.call98
abbrev k_99 := @Tryd.call99
abbrev k_101 := @Tryd.call101
abbrev k_102 := @Tryd.call102
abbrev k_103 := @Tryd.call103
abbrev k_104 := @Tryd.call104
abbrev k_105 := @Tryd.call105
abbrev k_106 := @Tryd.call106
abbrev k_119 := @Tryd.call119
abbrev k_120 := @Tryd.call120
abbrev k_121 := @Tryd.call121
abbrev k_122 := @Tryd.call122
abbrev k_123 := @Tryd.call123
abbrev k_124 := @Tryd.call124
abbrev k_126 := @Tryd.call126
abbrev k_127 := @Tryd.call127
abbrev k_128 := @Tryd.call128
abbrev S113 (x : OpInfo) : List Ty := [(tS x.Name), (tI x.Form), (tB x.ReadsA), (tB x.WritesA), (tB x.ReadsB), (tB x.MayTrap), (tI x.Words)]
abbrev S48 (x : VInstr) : List Ty := [(tI x.Instr.Op), (tI x.Instr.A), (tI x.Instr.B), (tI x.Instr.C), (tI x.Instr.N), (tL 1 lI x.Args)]
abbrev S43 (x : Block) : List Ty := [(tL 6 VInstr.ty x.Instrs), (tI x.End), (tI x.Reg), (tI x.Target), (tI x.Else)]
abbrev S27 (x : VFunc) : List Ty := [(tI x.Params), (tI x.Regs), (tL 5 Block.ty x.Blocks)]
abbrev S46 (x : Instr) : List Ty := [(tI x.Op), (tI x.A), (tI x.B), (tI x.C), (tI x.N)]
section
variable {κ : Kx} {Q : Exit → Act → World → Prop} {Γ : Cx} {L : List Item} {l : List Oper} {ops : Array Oper}
theorem xm {X : Type} {I : X → Prop} {G : X → Cx} {Lf : X → List Item} (x : X) (hx : I x) (hc : Cov Γ (G x) := by repeat (first | exact cn | refine cc rfl ?_)) (hL : L = Lf x := by rfl) : OkX κ (Exit.then (Meet κ I G Lf) Q) .normal Γ L := okX_meet x hx hc hL
theorem nx {y : Code} (h : OkC κ y Q Γ L) : OkL κ ops (Exit.then (y.wp κ.P Q) Q) [] Γ L := okL_nil (okX_next h)
theorem nsr {id : Nat} {l : List Oper} {z : Code} (h : OkL κ l.toArray (Exit.then (z.wp κ.P Q) Q) l Γ L) : OkL κ ops (Exit.then ((Code.seq (.region id l.toArray false) z).wp κ.P Q) Q) [] Γ L := okL_nil (okX_next (okC_seq (okC_region h)))
theorem sr {id : Nat} {l : List Oper} {z : Code} (h : OkL κ l.toArray (Exit.then (z.wp κ.P Q) Q) l Γ L) : OkC κ (.seq (.region id l.toArray false) z) Q Γ L := okC_seq (okC_region h)
theorem drL {id : Nat} (m : Nat) (hs : Hs) (cs : List Nat) (hops : DrawOps κ l hs Γ ⟨L, L, []⟩ 0 (l.take m) hs)
  (h : Chain κ l hs Γ ⟨L, L, []⟩ (fun Γc L' => OkL κ l.toArray Q (l.drop m) (zipH (Γc ++ Γ) hs) L') cs.length cs [] L)
  (hm : κ.P.follows .mixedOrders = true := by exact mixed) (hml : hs.length = m := by rfl) (hd : dstOk hs l = true := by rfl) (hnd : nodupB ((l.take m).filterMap (·.dst)) = true := by kernel_rfl) (hΓ : Γ.all (fun p => !((l.take m).filterMap (·.dst)).contains p.1) = true := by rfl) (hn : ((l.take m).filterMap (·.dst)).all (fun d => Nat.blt d κ.n) = true := by kernel_rfl)
  (hcs : noneAt hs 0 = cs := by rfl) (hcn : nodupB cs = true := by rfl) (hcm : cs.all (fun p => Nat.blt p m) = true := by rfl)
  (hfwd : (List.range m).all (fun i => ((l[i]?).map (fun o => o.after.toList.all (fun e => !Region.binds .any e || Nat.blt e.on i))).getD true) = true := by kernel_rfl)
  (hwait : m = l.length ∨ (Region.sinkB .any l.toArray m = true ∧ Region.chainB .any l.toArray m = true) := by first | exact .inl rfl | exact .inr ⟨by kernel_rfl, by kernel_rfl⟩) (hle : Nat.ble m l.length = true := by kernel_rfl)
  (htail : Region.seqB .any l.toArray (l.length - m) m (Array.replicate m true ++ Array.replicate (l.length - m) false) = true := by kernel_rfl) : OkC κ (.region id l.toArray true) Q Γ L :=
 okC_draw m hs ⟨L, L, []⟩ cs hm hml hd hnd hΓ hn hcs hcn hcm (fun _ h => h) (fun _ h => h) rfl hfwd hwait hle htail hops h
theorem drE {id : Nat} (m : Nat) (hs : Hs) (late : List Item) (qs : List Nat) (cs : List Nat) (hlate : ∀ it, it ∈ late → it ∈ L) (hops : DrawOps κ l hs Γ ⟨late, L, qs⟩ 0 (l.take m) hs)
  (h : Chain κ l hs Γ ⟨late, L, qs⟩ (fun Γc L' => OkL κ l.toArray Q (l.drop m) (zipH (Γc ++ Γ) hs) L') cs.length cs [] L)
  (hm : κ.P.follows .mixedOrders = true := by exact mixed) (hml : hs.length = m := by rfl) (hd : dstOk hs l = true := by rfl) (hnd : nodupB ((l.take m).filterMap (·.dst)) = true := by kernel_rfl) (hΓ : Γ.all (fun p => !((l.take m).filterMap (·.dst)).contains p.1) = true := by rfl) (hn : ((l.take m).filterMap (·.dst)).all (fun d => Nat.blt d κ.n) = true := by kernel_rfl)
  (hcs : noneAt hs 0 = cs := by rfl) (hcn : nodupB cs = true := by rfl) (hcm : cs.all (fun p => Nat.blt p m) = true := by rfl) (hqs : qs.all (fun q => cs.contains q) = true := by rfl)
  (hfwd : (List.range m).all (fun i => ((l[i]?).map (fun o => o.after.toList.all (fun e => !Region.binds .any e || Nat.blt e.on i))).getD true) = true := by kernel_rfl)
  (hwait : m = l.length ∨ (Region.sinkB .any l.toArray m = true ∧ Region.chainB .any l.toArray m = true) := by first | exact .inl rfl | exact .inr ⟨by kernel_rfl, by kernel_rfl⟩) (hle : Nat.ble m l.length = true := by kernel_rfl)
  (htail : Region.seqB .any l.toArray (l.length - m) m (Array.replicate m true ++ Array.replicate (l.length - m) false) = true := by kernel_rfl) : OkC κ (.region id l.toArray true) Q Γ L :=
 okC_draw m hs ⟨late, L, qs⟩ cs hm hml hd hnd hΓ hn hcs hcn hcm hlate (fun _ h => h) hqs hfwd hwait hle htail hops h
theorem zS {d : Nat} {op : Op} {ty : TypeId} {pos : String} {after : Array Edge} {T : Ty} {rest : List Oper} (hD : Does κ ⟨some d, op, ty, pos, after, none⟩ Γ L T) (h : OkL κ ops Q rest ((d, T) :: Γ) L) (hn : Nat.blt d κ.n = true := by rfl) : OkL κ ops Q (⟨some d, op, ty, pos, after, none⟩ :: rest) Γ L := okL_step d T rfl hn hD h
theorem zO {d : Nat} {op : Op} {ty : TypeId} {pos : String} {after : Array Edge} {rest : List Oper} (h : DoesO κ ⟨some d, op, ty, pos, after, none⟩ Γ L (fun T L' => OkL κ ops Q rest ((d, T) :: Γ) L')) (hn : Nat.blt d κ.n = true := by rfl) : OkL κ ops Q (⟨some d, op, ty, pos, after, none⟩ :: rest) Γ L := okL_stepO d rfl hn h
theorem zG {d dj j : Nat} {want b : Bool} {op : Op} {ty : TypeId} {pos : String} {after : Array Edge} {T : Ty} {rest : List Oper} (hw : b = want) (hD : Does κ ⟨some d, op, ty, pos, after, some (j, want)⟩ Γ L T) (h : OkL κ ops Q rest ((d, T) :: Γ) L) (hj : (ops[j]?).bind (·.dst) = some dj := by rfl) (hb : Γ.look dj = some (tB b) := by rfl) (hn : Nat.blt d κ.n = true := by rfl) : OkL κ ops Q (⟨some d, op, ty, pos, after, some (j, want)⟩ :: rest) Γ L := okL_guard d T dj b hj hb hw rfl hn hD h
theorem zK {d dj j : Nat} {want b : Bool} {op : Op} {ty : TypeId} {pos : String} {after : Array Edge} {rest : List Oper} (hw : b = !want) (h : OkL κ ops Q rest ((d, Ty.val undef) :: Γ) L) (hj : (ops[j]?).bind (·.dst) = some dj := by rfl) (hb : Γ.look dj = some (tB b) := by rfl) (hn : Nat.blt d κ.n = true := by rfl) : OkL κ ops Q (⟨some d, op, ty, pos, after, some (j, want)⟩ :: rest) Γ L := okL_skip d dj b hj hb hw rfl hn h
theorem zU {d dj j : Nat} {want : Bool} {op : Op} {ty : TypeId} {pos : String} {after : Array Edge} {rest : List Oper} (h : OkL κ ops Q rest ((d, Ty.val undef) :: Γ) L) (hj : (ops[j]?).bind (·.dst) = some dj := by rfl) (hb : Γ.look dj = some (Ty.val undef) := by rfl) (hn : Nat.blt d κ.n = true := by rfl) : OkL κ ops Q (⟨some d, op, ty, pos, after, some (j, want)⟩ :: rest) Γ L := okL_skipU d dj hj hb rfl hn h
theorem zT {z : Bool} (n d : Nat) (h : OkL κ ops (Exit.then (Meet κ (fun x : Bool => x = z) (fun x => (d, tB x) :: Γ) (fun _ => L)) Q) (l.take n) Γ L) (hy : OkL κ ops Q (l.drop n) ((d, tB z) :: Γ) L) : OkL κ ops Q l Γ L := okL_meet n _ _ _ _ rfl h (fun x hx => by subst hx; exact hy)
theorem zV {z : Bool} (n d : Nat) (h : OkL κ ops (Exit.then (Meet κ (fun x : Bool => z = x) (fun x => (d, tB x) :: Γ) (fun _ => L)) Q) (l.take n) Γ L) (hy : OkL κ ops Q (l.drop n) ((d, tB z) :: Γ) L) : OkL κ ops Q l Γ L := okL_meet n _ _ _ _ rfl h (fun x hx => by subst hx; exact hy)
theorem zC {c : Operand} {x y : Code} {b : Bool} (ht : b = true → OkC κ x Q Γ L) (hf : b = false → OkC κ y Q Γ L) (hb : opTy Γ c = some (tB b) := by rfl) : OkC κ (.cond c x y) Q Γ L := okC_cond hb ht hf
theorem cva {Γ Γ' : Cx} (h : Cov Γ Γ' := by repeat (first | exact cn | refine cc rfl ?_)) : Cov Γ Γ' := h
theorem xa {X : Type} {I : Nat → X → Prop} {G : X → Cx} {Lf : X → List Item} {k : Nat} (x : X) (hx : I k x) (hc : Cov Γ (G x) := by repeat (first | exact cn | refine cc rfl ?_)) (hL : L = Lf x := by rfl) : OkX κ (Exit.then (Again κ I G Lf (k + 1)) Q) .normal Γ L := okX_again k (Nat.lt_succ_self k) x hx hc hL
section
variable {hs : Hs} {Z : Two} {k : Nat} {os : List Oper} {r : Hs} {T : Ty} {d : Nat} {op : Op} {ty : TypeId} {pos : String} {after : Array Edge} {x : Operand} {gd : Option (Nat × Bool)}
theorem dm (hx : opTy (ctxOf hs Γ after.toList) x = some T) (hr : DrawOps κ l hs Γ Z (k + 1) os r) : DrawOps κ l hs Γ Z k (⟨some d, .move x, ty, pos, after, none⟩ :: os) (some (d, T) :: r) := dc (p := (d, T)) (draw_plain rfl (does_move hx)) hr
theorem dp (h : Does κ ⟨some d, op, ty, pos, after, none⟩ (ctxOf hs Γ after.toList) Z.late T) (hr : DrawOps κ l hs Γ Z (k + 1) os r) : DrawOps κ l hs Γ Z k (⟨some d, op, ty, pos, after, none⟩ :: os) (some (d, T) :: r) := dc (p := (d, T)) (draw_plain rfl h) hr
theorem dq (h : Does κ ⟨some d, op, ty, pos, after, none⟩ (ctxOf hs Γ after.toList) Z.early T) (hr : DrawOps κ l hs Γ Z (k + 1) os r) (he : isEarly l Z k = true := by kernel_rfl) : DrawOps κ l hs Γ Z k (⟨some d, op, ty, pos, after, none⟩ :: os) (some (d, T) :: r) := de (p := (d, T)) he (draw_plain rfl h) hr
theorem dn1 (h : DrawOp κ l hs Γ Z.late ⟨some d, op, ty, pos, after, gd⟩ T) (hr : DrawOps κ l hs Γ Z (k + 1) os r) : DrawOps κ l hs Γ Z k (⟨some d, op, ty, pos, after, gd⟩ :: os) (some (d, T) :: r) := dc (p := (d, T)) h hr
end
end
abbrev tN : Ty := Ty.val (.slice none 0 0)
abbrev sN : Value := .slice none 0 0
abbrev tZ : Ty := tI 0
abbrev sZ : Value := .int .i64 0
inductive Ovr : List Ty → Nat → List Ty → List Ty → Prop
 | nil (ts : List Ty) : Ovr ts 0 [] ts
 | put {a p : Ty} {ts ps ts' : List Ty} (h : Ovr ts 0 ps ts') : Ovr (a :: ts) 0 (p :: ps) (p :: ts')
 | skip {a : Ty} {ts ps ts' : List Ty} {o : Nat} (h : Ovr ts o ps ts') : Ovr (a :: ts) (o + 1) ps (a :: ts')
theorem Ovr.eq {ts ps ts' : List Ty} {o : Nat} (h : Ovr ts o ps ts') : ts' = over ts o ps ∧ o + ps.length ≤ ts.length := by
 induction h with
 | nil ts => exact ⟨by simp [over], by simp⟩
 | put h ih => refine ⟨?_, by have := ih.2; simp; omega⟩; rw [ih.1]; simp [over]
 | skip h ih => refine ⟨?_, by have := ih.2; simp; omega⟩; rw [ih.1]; simp [over, Nat.add_right_comm]
inductive SetL (Z : Item) : Nat → List Item → List Item → Prop
 | z {a : Item} {L : List Item} : SetL Z 0 (a :: L) (Z :: L)
 | s {a : Item} {n : Nat} {L L' : List Item} (h : SetL Z n L L') : SetL Z (n + 1) (a :: L) (a :: L')
theorem SetL.eq {Z : Item} {n : Nat} {L L' : List Item} (h : SetL Z n L L') : L' = L.set n Z := by
 induction h with
 | z => rfl
 | s h ih => rw [ih]; rfl
inductive DelL : Nat → List Item → List Item → Prop
 | z {a : Item} {L : List Item} : DelL 0 (a :: L) L
 | s {a : Item} {n : Nat} {L L' : List Item} (h : DelL n L L') : DelL (n + 1) (a :: L) (a :: L')
theorem DelL.perm {n : Nat} {L L' : List Item} (h : DelL n L L') : ∃ it, L.Perm (it :: L') := by
 induction h with
 | z => exact ⟨_, List.Perm.refl _⟩
 | s h ih => obtain ⟨it, ih⟩ := ih; exact ⟨it, (ih.cons _).trans (List.Perm.swap _ _ _)⟩
section
variable {κ : Kx} {Q : Exit → Act → World → Prop} {Γ : Cx} {L L' : List Item} {ops : Array Oper} {rest : List Oper} {ty : TypeId} {pos : String} {after : Array Edge}
theorem zB {t e : TypeId} {x y : Operand} {g o k : Nat} {ts ps ts' : List Ty} {T : Ty} (n : Nat) (hp : PartTy T ps) (hsz : ∀ w, (sizeOf t).run κ.P w = .ok k w) (h : OkL κ ops Q rest Γ L') (hx : opTy Γ x = some (pAt g o) := by rfl) (hy : opTy Γ y = some T := by rfl) (hk : ps.length = k := by rfl) (hi : L[n]? = some (Item.blk g e ts) := by rfl)
  (ho : Ovr ts o ps ts' := by repeat (first | exact .nil _ | apply Ovr.put | apply Ovr.skip)) (hL : SetL (Item.blk g e ts') n L L' := by repeat (first | exact .z | apply SetL.s)) : OkL κ ops Q (⟨none, .store t x y, ty, pos, after, none⟩ :: rest) Γ L :=
 okL_stepU rfl (doesO_storeB n ts' L' hx hy hp (by rw [hk]; exact hsz) hi (Nat.ble_eq_true_of_le ho.eq.2) ho.eq.1 hL.eq h)
theorem zR {α : Type} {f : α → List Ty} {l : List α} {sz k : Nat} {v : Value} {e t' : TypeId} {m : Int} {x y : Operand} {ps : List Ty} {T : Ty} {y0 : α} (n o : Nat) (hidx : idx l m = some y0) (y1 : α) (hp : PartTy T ps) (hsz : ∀ w, (sizeOf t').run κ.P w = .ok k w) (h : OkL κ ops Q rest Γ L') (hi : L[n]? = some (rowL v e sz f l) := by rfl)
  (hx : opTy Γ x = some (Ty.rptr v (m.toNat * sz + o)) := by rfl) (hy : opTy Γ y = some T := by rfl) (hk : ps.length = k := by rfl) (hf1 : (f y1).length = sz := by rfl) (hf : f y1 = over (f y0) o ps := by rfl) (hfit : Nat.ble (o + ps.length) sz = true := by rfl) (hL : SetL (rowL v e sz f (l.set m.toNat y1)) n L L' := by repeat (first | exact .z | apply SetL.s)) :
  OkL κ ops Q (⟨none, .store t' x y, ty, pos, after, none⟩ :: rest) Γ L :=
 okL_stepU rfl (doesO_storeR n o y0 y1 (l.set m.toNat y1) L' hx hy hp (by rw [hk]; exact hsz) hi hidx hf1 hf hfit rfl hL.eq h)
theorem xD {x : Exit} (n : Nat) (h : OkX κ Q x Γ L') (hL : DelL n L L' := by repeat (first | exact .z | apply DelL.s)) : OkX κ Q x Γ L := by
 obtain ⟨it, hp⟩ := hL.perm
 exact okX_items [it] L' hp h
theorem zF {α : Type} {f : α → List Ty} {l m r : List α} {s x : Operand} {v z : Value} {e t : TypeId} {d sz bytes : Nat} (n : Nat) (hE : ElTy κ.P t e z sz bytes) (hr : app bytes l m = some r) (h : ∀ v', OkL κ ops Q rest ((d, Ty.own v') :: Γ) (L.set n (rowL v' e sz f r)))
  (hs : opTy Γ s = some (Ty.own v) := by rfl) (hi : L[n]? = some (rowL v e sz f l) := by rfl) (hx : opTy Γ x = some (tL sz f m) := by rfl) (hn : Nat.blt d κ.n = true := by rfl) : OkL κ ops Q (⟨some d, .call ⟨.builtin .append, #[s, x], #[t, t]⟩, ty, pos, after, none⟩ :: rest) Γ L :=
 okL_stepO d rfl hn (doesO_append hE n r (fun v' => L.set n (rowL v' e sz f r)) hr hs hi hx (fun _ => rfl) h)
theorem sl {Z : Item} {n : Nat} {l : List Oper} (h : OkL κ ops Q l Γ L') (hL : SetL Z n L L' := by repeat (first | exact .z | apply SetL.s)) : OkL κ ops Q l Γ (L.set n Z) := hL.eq ▸ h
theorem zA {d : Nat} {x : Operand} {T : Ty} (h : OkL κ ops Q rest ((d, T) :: Γ) L) (hx : opTy Γ x = some T := by rfl) (hn : Nat.blt d κ.n = true := by rfl) : OkL κ ops Q (⟨some d, .assign x, ty, pos, after, none⟩ :: rest) Γ L := okL_step d T rfl hn (does_assign hx) h
theorem zI {d : Nat} {x : Operand} {T : Ty} (h : OkL κ ops Q rest ((d, T) :: Γ) L) (hx : opTy Γ x = some T := by rfl) (hn : Nat.blt d κ.n = true := by rfl) : OkL κ ops Q (⟨some d, .move x, ty, pos, after, none⟩ :: rest) Γ L := okL_step d T rfl hn (does_move hx) h
end
section
variable {κ : Kx} {Γ : Cx} {L : List Item} {dst : Option Nat} {ty : TypeId} {pos : String} {after : Array Edge} {gd : Option (Nat × Bool)}
theorem fB {s : TypeId} {x : Operand} {f g o : Nat} {fs : Array Field} {fl : Field} {k : Nat} (o' : Nat) (hu : κ.P.underlying s = some (.struct fs)) (hk : ∀ w, (sizeOf fl.type).run κ.P w = .ok (k + 1) w) (hf : fs[f]? = some fl := by rfl) (hx : opTy Γ x = some (pAt g o) := by rfl) (ho : o' = o + fl.offset := by rfl) : Does κ ⟨dst, .fieldAddr s x f, ty, pos, after, gd⟩ Γ L (pAt g o') := does_fieldAddrP o' hu hf hk hx ho
theorem lC {t e : TypeId} {x : Operand} {g o : Nat} {ts : List Ty} {T : Ty} (hag : ∀ w, (isAgg t).run κ.P w = .ok false w) (n : Nat) (hx : opTy Γ x = some (pAt g o) := by rfl) (hi : L[n]? = some (Item.blk g e ts) := by rfl) (hT : ts[o]? = some T := by rfl) : Does κ ⟨dst, .load t x, ty, pos, after, gd⟩ Γ L T := does_loadB1 hag hx n hi hT
theorem iX {α : Type} {sz : Nat} {f : α → List Ty} {l : List α} {t e : TypeId} {x i : Operand} {k : IntKind} {n : Int} {y : α} (hu : κ.P.underlying t = some (.slice e)) (hsz : ∀ w, (sizeOf e).run κ.P w = .ok sz w) (hidx : idx l n = some y) (hx : opTy Γ x = some (tL sz f l) := by rfl) (hi : opTy Γ i = some (tK k n) := by rfl) : Does κ ⟨dst, .indexAddr t x i, ty, pos, after, gd⟩ Γ L (Ty.ptr (f y)) := does_index y hu hsz hidx hx hi
theorem lV {t : TypeId} {x : Operand} {T : Ty} {ts : List Ty} (hag : ∀ w, (isAgg t).run κ.P w = .ok false w) (hx : opTy Γ x = some (Ty.ptr (T :: ts)) := by rfl) : Does κ ⟨dst, .load t x, ty, pos, after, gd⟩ Γ L T := does_load1 hag hx
theorem cQ {fo : Operand} {xs : Array Operand} {tys : Array TypeId} {f : FuncId} {Bs : List Ty} {T : Ty} (hC : CallP κ.P κ.gl f Bs T) (hc : ∀ args w, (callFunc f args).run κ.P w = .ok (.enter f args) w) (hf : opTy Γ fo = some (Ty.val (.func (.func f) #[] #[])) := by rfl) (hx : xs.toList.map (opTy Γ) = Bs.map some := by rfl) : Does κ ⟨dst, .call ⟨.value fo, xs, tys⟩, ty, pos, after, gd⟩ Γ L T := does_call0 hC hf hc hx
theorem pU {c x y : Operand} {T : Ty} {b : Bool} (hb : b = true) (hc : opTy Γ c = some (tB b) := by rfl) (hx : opTy Γ x = some T := by rfl) : Does κ ⟨dst, .pick c x y, ty, pos, after, gd⟩ Γ L T := does_pick_t b hc hb hx
theorem pG {c x y : Operand} {T : Ty} {b : Bool} (hb : b = false) (hc : opTy Γ c = some (tB b) := by rfl) (hx : opTy Γ y = some T := by rfl) : Does κ ⟨dst, .pick c x y, ty, pos, after, gd⟩ Γ L T := does_pick_f b hc hb hx
theorem lM {α : Type} {sz : Nat} {f : α → List Ty} {l : List α} {t e : TypeId} {x : Operand} {tys : Array TypeId} (hu : κ.P.underlying t = some (.slice e)) (h0 : tys[0]? = some t := by rfl) (hx : opTy Γ x = some (tL sz f l) := by rfl) : Does κ ⟨dst, .call ⟨.builtin .len, #[x], tys⟩, ty, pos, after, gd⟩ Γ L (tI (l.length : Int)) := does_len h0 hu hx
end
end Go.Proofs.YtocfnpnnbmicmaaDoor.Tc
end
section
set_option linter.unusedVariables false
set_option linter.unusedSimpArgs false
namespace Go.Proofs.YtocfnpnnbmicmaaDoor.Tc
open Go Go.RowKit
def fO (p : Value × Block) : List Ty := [Ty.own p.1, tI p.2.End, tI p.2.Reg, tI p.2.Target, tI p.2.Else]
abbrev zI_ (zs : List (Value × Block)) : List (List VInstr) := zs.map (fun p => p.2.Instrs)
abbrev RZ (zs : List (Value × Block)) : Item := rowsL (zs.map Prod.fst) 48 6 VInstr.ty (zI_ zs)
abbrev RE (zs : List (Value × Block)) (m : Int) : Item := rowsL ((zs.map Prod.fst).eraseIdx m.toNat) 48 6 VInstr.ty ((zI_ zs).eraseIdx m.toNat)
theorem idx_map {α β : Type} {l : List α} {g : α → β} {m : Int} {y : β} (h : idx (l.map g) m = some y) : ∃ p, idx l m = some p ∧ y = g p := by
 obtain ⟨h0, h1, h2⟩ := idx_some h
 rw [List.getElem?_map, Option.map_eq_some_iff] at h2
 obtain ⟨p, h3, h4⟩ := h2
 exact ⟨p, by unfold idx; rw [if_pos h0]; exact h3, h4.symm⟩
theorem map_idx {α β : Type} {l : List α} (g : α → β) {m : Int} {p : α} (h : idx l m = some p) : idx (l.map g) m = some (g p) := by
 obtain ⟨h0, h1, h2⟩ := idx_some h
 unfold idx; rw [if_pos h0, List.getElem?_map, h2]; rfl
theorem app_map {α β : Type} {b : Nat} {l m : List α} {g : α → β} {r : List β} (h : app b (l.map g) (m.map g) = some r) : app b l m = some (l ++ m) ∧ r = (l ++ m).map g := by
 unfold app at h ⊢
 simp only [List.length_map] at h
 split at h
 ·rename_i hc
  rw [if_pos hc]
  exact ⟨rfl, by rw [List.map_append]; exact (Option.some.inj h).symm⟩
 ·cases h
section
variable {κ : Kx} {Q : Post} {Γ : Cx} {L R : List Item} {ops : Array Oper} {rest : List Oper}
theorem Sat.rows0 {a : Act} {w : World} (s : Sat κ Γ L a w) : Sat κ Γ (RZ [] :: L) a w := by
 have hle : Le (foot L) w (foot (RZ [] :: L)) w := Le.of_iff w fun b hb => by
  rcases (foot_cons _ _ b).1 hb with ⟨u, hu, _⟩ | q
  ·simp at hu
  ·exact q
 refine ⟨s.defers, s.size, ⟨fun it hi => ?_, List.pairwise_cons.2 ⟨fun it hi b ⟨u, hu, _⟩ => by simp at hu, s.holds.apart⟩, fun g t hg => (s.holds.glob g t hg).mono hle⟩, s.le.trans hle, s.env.le hle⟩
 rcases List.mem_cons.1 hi with rfl | hi
 ·exact ⟨rfl, fun i u ess hu => by simp at hu, List.Pairwise.nil⟩
 ·exact it.stable (s.holds.each it hi) (fun _ _ _ => rfl) hle
theorem okC_rows0 {c : Code} (h : OkC κ c Q Γ (RZ [] :: L)) : OkC κ c Q Γ L := fun a w s => h a w s.rows0
theorem Sat.pushZ {a : Act} {w : World} {zs : List (Value × Block)} {p : Value × Block} (s : Sat κ Γ (rowL p.1 48 6 VInstr.ty p.2.Instrs :: RZ zs :: R) a w) : Sat κ Γ (RZ (zs ++ [p]) :: R) a w := by
 have he : ∀ {α : Type} (l : List α) (x : α), (l ++ [x]).eraseIdx l.length = l := fun l x => by
  apply List.ext_getElem?; intro j
  rw [List.getElem?_eraseIdx]
  by_cases hj : j < l.length
  ·rw [if_pos hj, List.getElem?_append_left hj]
  ·rw [if_neg hj, List.getElem?_eq_none (by simp; omega), List.getElem?_eq_none (by omega)]
 have hi : ∀ {α : Type} (l : List α) (x : α), idx (l ++ [x]) (l.length : Int) = some x := fun l x => by
  unfold idx; rw [if_pos (by omega)]; simp
 have hs : ∀ {α : Type} (l : List α) (x : α), (l ++ [x]).set l.length x = l ++ [x] := fun l x => by simp
 have e1 : (zs.map Prod.fst).length = (zI_ zs).length := by simp
 have := Sat.closeR (κ := κ) (Γ := Γ) (R := R) (us := zs.map Prod.fst ++ [p.1]) (e := 48) (sz := 6) (f := VInstr.ty) (ls := zI_ zs ++ [p.2.Instrs]) (m := ((zI_ zs).length : Int)) (y := p.2.Instrs) (y' := p.2.Instrs) (u := p.1) (u' := p.1)
  (hi _ _) (by rw [← e1]; exact hi _ _) (L := rowL p.1 48 6 VInstr.ty p.2.Instrs :: RZ zs :: R) (by
   rw [Int.toNat_natCast, he, ← e1, he]) s
 rw [Int.toNat_natCast, hs, ← e1, hs] at this
 have e2 : RZ (zs ++ [p]) = rowsL (zs.map Prod.fst ++ [p.1]) 48 6 VInstr.ty (zI_ zs ++ [p.2.Instrs]) := by simp [RZ, zI_]
 rw [e2]; exact this
theorem okX_pushZ {x : Exit} {zs : List (Value × Block)} {p : Value × Block} (h : OkX κ Q x Γ (RZ (zs ++ [p]) :: R)) : OkX κ Q x Γ (rowL p.1 48 6 VInstr.ty p.2.Instrs :: RZ zs :: R) := fun a w s => h a w s.pushZ
theorem okC_openZ {c : Code} {zs : List (Value × Block)} {m : Int} {p : Value × Block} (hp : idx zs m = some p) (h : OkC κ c Q Γ (rowL p.1 48 6 VInstr.ty p.2.Instrs :: RE zs m :: R)) : OkC κ c Q Γ (RZ zs :: R) := fun a w s => by
 obtain ⟨u, hu, s2⟩ := Sat.openR (R := R) (map_idx (fun p : Value × Block => p.2.Instrs) hp) (List.Perm.refl _) s
 rw [map_idx Prod.fst hp] at hu
 cases hu
 exact h a w s2
theorem Sat.meltZ {a : Act} {w : World} {v : Value} {zs : List (Value × Block)} (s : Sat κ Γ (RZ zs :: rowL v 43 5 fO zs :: R) a w) : Sat κ Γ (rowL v 43 5 Block.ty (zs.map Prod.snd) :: R) a w := by
 have hap := List.pairwise_cons.1 s.holds.apart
 have hap2 := List.pairwise_cons.1 hap.2
 have hle : Le (foot (RZ zs :: rowL v 43 5 fO zs :: R)) w (foot (rowL v 43 5 Block.ty (zs.map Prod.snd) :: R)) w := Le.of_iff w fun b hb => by
  rcases (foot_cons _ _ b).1 hb with q | q
  ·exact (foot_cons _ _ b).2 (.inr ((foot_cons _ _ b).2 (.inl q)))
  ·exact (foot_cons _ _ b).2 (.inr ((foot_cons _ _ b).2 (.inr q)))
 have hout : RowAt v 43 5 (zs.map fO) (foot (RZ zs :: rowL v 43 5 fO zs :: R)) w := s.holds.each (rowL v 43 5 fO zs) (by simp)
 have hin : RowsAt (zs.map Prod.fst) 48 6 ((zI_ zs).map (·.map VInstr.ty)) (foot (RZ zs :: rowL v 43 5 fO zs :: R)) w := s.holds.each (RZ zs) (by simp)
 have hrow : RowAt v 43 5 ((zs.map Prod.snd).map Block.ty) (foot (rowL v 43 5 Block.ty (zs.map Prod.snd) :: R)) w := by
  rcases hout with ⟨rfl, h0⟩ | ⟨g, cap, cur, rfl, hg, h1, h2, h3, h4⟩
  ·have : zs = [] := by simpa using h0
   subst this
   exact .inl ⟨rfl, rfl⟩
  ·refine .inr ⟨g, cap, cur, by simp, hg, by simpa using h1, h2, h3, fun i es hi => ?_⟩
   simp only [List.getElem?_map, Option.map_map, Option.map_eq_some_iff] at hi
   obtain ⟨p, hp, rfl⟩ := hi
   obtain ⟨_, h6⟩ := h4 i (fO p) (by simp [hp])
   refine ⟨rfl, fun j T hT => ?_⟩
   match j with
   | 0 =>
    cases hT
    obtain ⟨u, hu, hu1, hu2⟩ := h6 0 (Ty.own p.1) rfl
    have hu3 : u = p.1 := hu2.1
    subst hu3
    refine ⟨p.1, hu, hu1, row_slice (e := 48) (hin.row i p.1 _ (by simp [hp]) (by simp [hp])) hle fun b hb hf => ?_⟩
    obtain ⟨it, hit, hf⟩ := hf
    rcases List.mem_cons.1 hit with rfl | hit
    ·exact hap.1 (rowL (.slice (some ⟨g, 0, none⟩) (zs.map fO).length cap) 43 5 fO zs) (by simp) b ⟨p.1, List.mem_map.2 ⟨p, List.mem_of_getElem? hp, rfl⟩, hb⟩ (by simpa [Item.row] using hf)
    ·exact hap.1 it (List.mem_cons_of_mem _ hit) b ⟨p.1, List.mem_map.2 ⟨p, List.mem_of_getElem? hp, rfl⟩, hb⟩ hf
   | 1 => obtain ⟨u, hu, hu1, hu2⟩ := h6 1 _ rfl; cases hT; exact ⟨u, hu, hu1, hu2⟩
   | 2 => obtain ⟨u, hu, hu1, hu2⟩ := h6 2 _ rfl; cases hT; exact ⟨u, hu, hu1, hu2⟩
   | 3 => obtain ⟨u, hu, hu1, hu2⟩ := h6 3 _ rfl; cases hT; exact ⟨u, hu, hu1, hu2⟩
   | 4 => obtain ⟨u, hu, hu1, hu2⟩ := h6 4 _ rfl; cases hT; exact ⟨u, hu, hu1, hu2⟩
   | j + 5 => simp [Block.ty] at hT
 refine ⟨s.defers, s.size, ⟨fun it hi => ?_, List.pairwise_cons.2 ⟨fun it hi b hb hb' => hap2.1 it hi b hb hb', hap2.2⟩, fun g t hg => (s.holds.glob g t hg).mono hle⟩, s.le.trans hle, s.env.le hle⟩
 rcases List.mem_cons.1 hi with rfl | hi
 ·exact hrow
 ·exact it.stable (s.holds.each it (List.mem_cons_of_mem _ (List.mem_cons_of_mem _ hi))) (fun _ _ _ => rfl) hle
theorem Sat.doneZ {a : Act} {w : World} {v : Value} {zs : List (Value × Block)} {m : Int} {p : Value × Block} {b : Block} {y : List VInstr} (hp : idx zs m = some p) (hL : L.Perm (rowL p.1 48 6 VInstr.ty y :: RE zs m :: rowL v 43 5 fO (zs.set m.toNat (p.1, b)) :: R)) (s : Sat κ Γ L a w) :
  Sat κ Γ (rowL v 43 5 Block.ty ((zs.map Prod.snd).set m.toNat ⟨y, b.End, b.Reg, b.Target, b.Else⟩) :: R) a w := by
 have s1 := Sat.closeR (us := zs.map Prod.fst) (ls := zI_ zs) (y' := y) (u' := p.1) (map_idx (fun p : Value × Block => p.2.Instrs) hp) (map_idx Prod.fst hp) hL s
 have e1 : rowsL ((zs.map Prod.fst).set m.toNat p.1) 48 6 VInstr.ty ((zI_ zs).set m.toNat y) = RZ (zs.set m.toNat (p.1, ⟨y, b.End, b.Reg, b.Target, b.Else⟩)) := by
  simp [RZ, zI_, List.map_set]
 have e2 : rowL v 43 5 fO (zs.set m.toNat (p.1, b)) = rowL v 43 5 fO (zs.set m.toNat (p.1, ⟨y, b.End, b.Reg, b.Target, b.Else⟩)) := by
  unfold rowL; simp [List.map_set, fO]
 rw [e1, e2] at s1
 have s2 := s1.meltZ
 rw [List.map_set] at s2
 exact s2
theorem zs_same {zs : List (Value × Block)} {m : Int} {p : Value × Block} (hp : idx zs m = some p) : zs = zs.set m.toNat (p.1, p.2) := by
 obtain ⟨_, _, h⟩ := idx_some hp
 apply List.ext_getElem?; intro j
 rw [List.getElem?_set]
 split
 ·rename_i hj; subst hj; rw [h]; split <;> simp_all
 ·rfl
theorem okX_doneZ {x : Exit} {v : Value} {zs : List (Value × Block)} {m : Int} {p : Value × Block} (hp : idx zs m = some p) (b : Block) (y : List VInstr) (hL : L.Perm (rowL p.1 48 6 VInstr.ty y :: RE zs m :: rowL v 43 5 fO (zs.set m.toNat (p.1, b)) :: R))
  (h : OkX κ Q x Γ (rowL v 43 5 Block.ty ((zs.map Prod.snd).set m.toNat ⟨y, b.End, b.Reg, b.Target, b.Else⟩) :: R)) : OkX κ Q x Γ L := fun a w s => h a w (s.doneZ hp hL)
theorem okX_doneZ0 {x : Exit} {v : Value} {zs : List (Value × Block)} {m : Int} {p : Value × Block} (hp : idx zs m = some p) (y : List VInstr) (hL : L.Perm (rowL p.1 48 6 VInstr.ty y :: RE zs m :: rowL v 43 5 fO zs :: R))
  (h : OkX κ Q x Γ (rowL v 43 5 Block.ty ((zs.map Prod.snd).set m.toNat ⟨y, p.2.End, p.2.Reg, p.2.Target, p.2.Else⟩) :: R)) : OkX κ Q x Γ L := fun a w s => h a w (s.doneZ (b := p.2) hp (by rw [← zs_same hp]; exact hL))
theorem okL_doneZ0 {v : Value} {zs : List (Value × Block)} {m : Int} {p : Value × Block} (hp : idx zs m = some p) (y : List VInstr) (hL : L.Perm (rowL p.1 48 6 VInstr.ty y :: RE zs m :: rowL v 43 5 fO zs :: R))
  (h : OkL κ ops Q rest Γ (rowL v 43 5 Block.ty ((zs.map Prod.snd).set m.toNat ⟨y, p.2.End, p.2.Reg, p.2.Target, p.2.Else⟩) :: R)) : OkL κ ops Q rest Γ L := fun a w s => h a w (s.doneZ (b := p.2) hp (by rw [← zs_same hp]; exact hL))
end
section
variable {κ : Kx} {Γ : Cx} {L : List Item} {dst : Option Nat} {ty : TypeId} {pos : String} {after : Array Edge} {gd : Option (Nat × Bool)}
theorem does_max {x y : Operand} {k k2 : IntKind} {m n : Int} {tys : Array TypeId} (hx : opTy Γ x = some (tK k m)) (hy : opTy Γ y = some (tK k2 n)) : Does κ ⟨dst, .call ⟨.builtin .max, #[x, y], tys⟩, ty, pos, after, gd⟩ Γ L (tK k (if m < n then n else m)) :=
 does_of_run fun L' a w _ _ he => ⟨_, by
  have h1 : a.eval x = .int k m := opTy_holds he hx
  have h2 : a.eval y = .int k2 n := opTy_holds he hy
  simp [execOp, resolve, invoke, builtin, Builtin.max_, h1, h2, Builtin.max2], rfl⟩
end
end Go.Proofs.YtocfnpnnbmicmaaDoor.Tc
end
